/- Lemmas behind a claim. -/
import Derived.Test.YtknbpncolbmoaaaGreatKPmC
import Derived.Scope
import Derived.RecoverIn
set_option linter.unusedSimpArgs false
set_option linter.unusedVariables false
open Go.Lift.Comp (tj run_bind qV run_pure zA Xk zJ vN)
noncomputable section
namespace Go.Den
open Go Go.RowKit Go.Eng Go.Lift
variable {α β γ δ:Type}
inductive H
 |z
 |s (a b:H)
 |b (a:H)
 |j (sh:Sh) (a b:H)
 |jb (sh:Sh) (a:H)
 |l (sh:Sh) (ex:List (Option Nat×Sh)) (a:H)
 |xr (ch can:List Nat) (kl:List (Nat×List Nat))
 |xg (sh:Sh)
 |f (l:List Nat) (a:H)
 |y
 |q
def H.l1:H->H
 |.s x _|.j _ x _|.b x|.jb _ x|.l _ _ x=>x
 |.z|.xr .. | .xg _|.f .. | .y|.q=>.z
def H.l2:H->H
 |.s _ x|.j _ _ x=>x
 |_=>.z
def jn(f:α->Comp β)(g:(α->Comp β)->Comp β):Comp β:=g f
def amb{β:Type}(e:Bool)(c1 c2:Comp β):Comp β:=match e with
 |false=>c2
 |true=>⟨fun n=>match c1.run n,c2.run n with
  |some x,some y=>match Classical.propDecidable (x=y) with
   |isTrue _=>some x
   |isFalse _=>none
  |_,_=>none,by
   intro n m a xP h
   cases h1:c1.run n with
   |none=>grind
   |some x =>
    cases h2:c2.run n with
    |none=>grind
    |some y=>rw[h1,h2]at h;rw[c1.mono xP h1,c2.mono xP h2];exact h⟩
theorem tG{β:Type}{e:Bool}{c1 c2:Comp β}{n:Nat}{y:β}(h:(amb e c1 c2).run n=some y):c2.run n=some y/\(e=true->c1.run n=some y):=by
 cases e with
 |false=>exact⟨h,fun h=>nomatch h⟩
 |true =>
  unfold amb at h;simp only at h
  cases h1:c1.run n with
  |none=>grind
  |some x =>
   cases h2:c2.run n with
   |none=>grind
   |some z =>
    rw[h1,h2]at h;simp only at h;split at h
    ·grind
    ·cases h
def AV.nb?:Option AV->Option (Bool×Bool)
 |some (.nb p e)=>some (p,e)
 |_=>none
theorem AV.zEc{o:Option AV}{q:Bool×Bool}(h:AV.nb? o=some q):o=some (.nb q.1 q.2):=by
 unfold AV.nb? at h;grind
def zIu{β:Type}(p e:Bool)(c1 c2:Comp β):Comp β:=match p with
 |true=>amb e c1 c2
 |false=>amb e c2 c1
theorem Q7{β:Type}{p e b:Bool}{c1 c2:Comp β}{n:Nat}{y:β}(h:(zIu p e c1 c2).run n=some y)(hb:b=p->e=true):(b=true->c1.run n=some y)/\(b=false->c2.run n=some y):=by
 cases p with
 |true=>exact⟨fun h1=>(tG h).2 (hb h1),fun _=>(tG h).1⟩
 |false=>exact⟨fun _=>(tG h).1,fun h1=>(tG h).2 (hb h1)⟩
def goJ(G:FE)(sh:Sh)(s s':S)(j:sh.D->Comp β):Comp β:=match sh.get G s s' with
 |some x=>j x
 |none=>Comp.fail
def ED:List (Option Nat×Sh)->Type
 | []=>Empty
 | [e]=>e.2.D
 |e::e'::l=>Sum e.2.D (ED (e'::l))
def eqO:Option Nat->Option Nat->Bool
 |none,none=>true
 |some a,some b=>Nat.beq a b
 |_,_=>false
theorem SX{a b:Option Nat}(h:eqO a b=true):a=b:=by
 cases a<;>cases b<;>simp_all [eqO]
def Uv(G:FE)(s:S)(o:Option Nat)(s':S):(l:List (Option Nat×Sh))->Option (ED l)
 | []=>none
 | [e]=>match eqO e.1 o with
  |true=>e.2.get G s s'
  |false=>none
 |e::e'::l=>match eqO e.1 o with
  |true=>match e.2.get G s s' with
   |some x=>some (Sum.inl x:Sum e.2.D (ED (e'::l)))
   |none=>none
  |false=>match Uv G s o s' (e'::l) with
   |some x=>some (Sum.inr x:Sum e.2.D (ED (e'::l)))
   |none=>none
def ZT{σ:Type}(G:FE)(s:S)(l:List (Option Nat×Sh))(o:Option Nat)(s':S):Comp (Comp.Step σ (ED l)):=match Uv G s o s' l with
 |some x=>Comp.pure (.done x)
 |none=>Comp.fail
def toE(s:S)(ex:Nat->S->Comp β)(rt:S->Comp β)(e:Option Nat×Sh)(x:e.2.D):Comp β:=match e.1 with
 |some i=>ex i (e.2.put s x)
 |none=>rt (e.2.put s x)
def Hz(s:S)(ex:Nat->S->Comp β)(rt:S->Comp β):(l:List (Option Nat×Sh))->ED l->Comp β
 | [],x=>nomatch x
 | [e],x=>toE s ex rt e x
 |e::e'::l,x=>match (x:Sum e.2.D (ED (e'::l))) with
  |.inl x=>toE s ex rt e x
  |.inr x=>Hz s ex rt (e'::l) x
def J7{ε:Type}(G:FE)(sh:Sh)(s s':S):Comp (Comp.Step sh.D ε):=match sh.get G s s' with
 |some x=>Comp.pure (.next x)
 |none=>Comp.fail
def rN(s:S):List Nat->List AV
 | []=>[]
 |t::l=>match look s.L t with
  |some e=>e.2::rN s l
  |none=>rN s l
def exF{β:Type}(ex:Nat->S->Comp β):Nat->S->Comp β:=fun i s=>match Nat.beq i PL with
 |true=>Comp.fail
 |false=>ex i s
def Mz{β:Type}(E:VE)(ops:Array Oper)(draw:Bool)(h:H)(s:S)(k pn:S->Comp β):Comp β:=match h with
 |.xr ch can kl=>zGD E ops.toList ch can kl s k
 |.xg sh=>match draw with
  |false=>jn (fun x=>k (sh.put s x)) fun j=>Zw E (wrS ops.toList) ops.toList (fun s'=>goJ E.G sh s s' j) ops.toList s
  |true=>Comp.fail
 |.q=>match draw with
  |false=>zFj E ops.toList s k pn
  |true=>Comp.fail
 |.y=>Ub 0 E draw ops.toList s k
 |_=>zMB E draw ops.toList s k
def den(E:VE):Code->(β:Type)->H->S->(S->Comp β)->(Nat->S->Comp β)->(S->Comp β)->Comp β
 |.skip,_,_,s,k,_,_=>k s
 |.label _,_,_,s,k,_,_=>k s
 |.region _ ops draw,_,h,s,k,ex,_=>match h with
  |.f l h'=>Mz E ops draw h' (s.Z5 E (rN s l)) k (ex PL)
  |h=>Mz E ops draw h s k (ex PL)
 |.seq a b,β,h,s,k,ex,rt=>den E a β h.l1 s (fun s'=>den E b β h.l2 s' k ex rt) ex rt
 |.cond c t e,β,h,s,k,ex,rt=>match (rdO s.ep s.L [] [] c).bind AV.bool? with
  |none=>match AV.nb? (rdO s.ep s.L [] [] c) with
   |some q=>zIu q.1 q.2 (den E t β h.l1 s k ex rt) (den E e β h.l2 s k ex rt)
   |none=>Comp.fail
  |some b=>match h with
   |.j sh h1 h2=>jn (fun x=>k (sh.put s x)) fun j=>if b=true then den E t β h1 s (fun s'=>goJ E.G sh s s' j) ex rt else den E e β h2 s (fun s'=>goJ E.G sh s s' j) ex rt
   |h=>if b=true then den E t β h.l1 s k ex rt else den E e β h.l2 s k ex rt
 |.block id c,β,h,s,k,ex,rt=>match h with
  |.jb sh h1=>jn (fun x=>k (sh.put s x)) fun j=>den E c β h1 s (fun s'=>goJ E.G sh s s' j) (fun i s'=>match Nat.beq i id with|true=>goJ E.G sh s s' j|false=>ex i s') rt
  |h=>den E c β h.l1 s k (fun i s'=>match Nat.beq i id with|true=>k s'|false=>ex i s') rt
 |.loop c,β,h,s,k,ex,rt=>match h with
  |.l sh l h1=>match sh.get E.G s s with
   |none=>Comp.fail
   |some x0=>(Comp.loop (fun x=>den E c (Comp.Step sh.D (ED l)) h1 (sh.put s x) (J7 E.G sh s) (fun i s'=>ZT E.G s l (some i) s') (ZT E.G s l none)) x0).bind (Hz s ex rt l)
  |_=>Comp.fail
 |.scope c,β,h,s,k,ex,rt=>den E c β h.l1 s k ex rt
 |.exit i,_,_,s,_,ex,_=>ex i s
 |.ret,_,_,s,_,_,rt=>rt s
 |.rangeFunc g ps eJ bd,β,h,s,k,ex,rt=>match h with
  |.l sh l h1=>match zFg (rdO s.ep s.L [] [] g),sh.get E.G s.ZO s.ZO with
   |some q,some x0=>q.2.bind fun xs=>(wC (fun x d=>DH ps.toList q.1 d (sh.put s.ZO x) fun s2=>den E eJ (Comp.Step sh.D (ED l)) h1.l1 s2
     (fun s3=>den E bd (Comp.Step sh.D (ED l)) h1.l2 s3.tick (fun s'=>J7 E.G sh s.ZO (s'.back s.ZO.L).tick) (exF fun i s'=>ZT E.G s.ZO l (some i) (s'.back s.ZO.L).tick) (fun s'=>ZT E.G s.ZO l none (s'.back s.ZO.L).tick))
     (fun _ _=>Comp.fail) (fun _=>Comp.fail)) xs x0).bind fun r=>match r with
    |.next x=>k (sh.put s.ZO x).tick
    |.done e=>Hz s.ZO (fun i s'=>ex i s'.tick) (fun s'=>rt s'.tick) l e
   |_,_=>Comp.fail
  |_=>Comp.fail
 |_,_,_,_,_,_,_=>Comp.fail
def okC(N:Nat):Code->Bool
 |.region _ ops _=>Xh N ops.toList && Nat.blt 0 N
 |.seq a b=>okC N a && okC N b
 |.cond _ a b=>okC N a && okC N b
 |.block id a=>okC N a && !(Nat.beq id PL)
 |.loop a|.scope a=>okC N a
 |.exit id=>!(Nat.beq id PL)
 |.rangeFunc _ ps a b=>okC N a && (okC N b && (kj a && (kj b && zAW N ps.toList)))
 |_=>true
theorem pA{F:Fence}{n:Nat}{P:Program}{Q:Exit->Act->World->Prop}{c:Code}(I:Nat->Act->World->Prop)(round:∀m a w,I m a w->c.wpIn F n P (Exit.then (fun a' w'=>∃m',m'<m/\I m' a' w') Q) a w){m:Nat}{a:Act}{w:World}(h₀:I m a w):(Code.loop c).wpIn F n P Q a w:=by
 intro b k cs hro hb hr;have key:∀j a w,I j a w->∃e a' w',Q e a' w'/\ArrivesIn (Machine.fenced P F) P (lone (b.atR a (.code c::.inLoop c::k)) cs w) b k cs e a' w':=by
  intro j
  induction j using Nat.strongRecOn with
  |_ j ih =>
   intro a w hI;obtain⟨e,a₁,w₁,hq,sB⟩:=round j a w hI b (.inLoop c::k) cs hro hb hr
   cases e with
   |normal =>
    obtain⟨m',gF,hI₁⟩:=hq;obtain⟨e₂,a₂,w₂,hq₂,hA5⟩:=ih m' gF a₁ w₁ hI₁;exact⟨e₂,a₂,w₂,hq₂,.of_steps (StepsIn.trans sB (.one (fenced_calm hb hr rfl) stepR_inLoop)) hA5⟩
   |exit id=>exact⟨_,a₁,w₁,hq,.pass (x:=.inLoop c) rfl (fun _ _=>.inl (by simp)) sB⟩
   |goto l=>exact⟨_,a₁,w₁,hq,.pass (x:=.inLoop c) rfl (fun _ _=>.inl (by simp)) sB⟩
   |ret=>exact⟨_,a₁,w₁,hq,.pass (x:=.inLoop c) rfl (fun _ _=>.inl (by simp)) sB⟩
   |panic ch=>exact⟨_,a₁,w₁,hq,.pass (x:=.inLoop c) rfl (fun _ _=>.inl (by simp)) sB⟩
   |outgrown=>exact⟨_,a₁,w₁,hq,.pass (x:=.inLoop c) rfl (fun _ _=>.inl (by simp)) sB⟩
 obtain⟨e,a',w',hq,sB⟩:=key _ a w h₀;exact⟨e,a',w',hq,.of_steps (.one (fenced_calm hb hr rfl) stepR_loop) sB⟩
theorem tO{F:Fence}{n:Nat}{P:Program}{Q:Exit->Act->World->Prop}{c:Code}{a:Act}{w:World}(h:c.wpIn F n P (Exit.noGoto Q) a w):(Code.scope c).wpIn F n P Q a w:=by
 intro b k cs hro hb hr;have h0:(lone (b.atR a (.code (.scope c)::k)) cs w).fenced P F:=fenced_calm hb hr rfl
 obtain⟨e,a₁,w₁,hq,sB⟩:=h b (.inScope c::k) cs hro hb hr
 cases e with
 |normal=>exact⟨.normal,a₁,w₁,hq,.head h0 kf (StepsIn.trans sB (.one (fenced_calm hb hr rfl) rX))⟩
 |exit id =>
  have hx:exitTo id (.inScope c::k)=exitTo id k:=by simp[exitTo]
  exact⟨.exit id,a₁,w₁,hq,fun k' hk=>.head h0 kf (sB.1 k' (by grind)),fun hr' hk=>let ⟨k₁,h1,h2⟩:=sB.2 hr' (by grind);⟨k₁,h1,.head h0 kf h2⟩⟩
 |goto l=>exact hq.elim
 |ret=>exact⟨_,a₁,w₁,hq,.of_steps (.one h0 kf) sB⟩
 |panic ch=>exact⟨_,a₁,w₁,hq,.of_steps (.one h0 kf) sB⟩
 |outgrown=>exact⟨_,a₁,w₁,hq,.of_steps (b:=b) (k:=k) (cs:=cs) (e:=.outgrown) (.one h0 kf) sB⟩
section
variable {F:Frm} {E:VE}
structure Ways(Z:TypeId)(F:Frm)(s0:S)(nf:Nat){β:Type}(y:β)(k:S->Comp β)(xe:Nat->S->Comp β)(rt:S->Comp β)(Q:Exit->Act->World->Prop):Prop where
 k:∀F' s' a' w',F.To F'->Rel F' s' a' w'->Inv s0 s'->(k s').run nf=some y->Q .normal a' w'
 ex:∀i,i≠PL->∀F' s' a' w',F.To F'->Rel F' s' a' w'->Inv s0 s'->(xe i s').run nf=some y->Q (.exit i) a' w'
 rt:∀F' s' a' w',F.To F'->Rel F' s' a' w'->Inv s0 s'->(rt s').run nf=some y->Q .ret a' w'
 pn:∀F' s' a' v w',F.To F'->Rel F' s' (a'.put (some 0) v) w'->Inv s0 s'->(xe PL s').run nf=some y->Q (.panic [{ v:=.iface Z v,recovered:=false }]) a' w'
theorem Ways.to{Z:TypeId}{F F':Frm}{s0:S}{nf:Nat}{β:Type}{y:β}{k:S->Comp β}{ex:Nat->S->Comp β}{rt:S->Comp β}{Q:Exit->Act->World->Prop}(h:Ways Z F s0 nf y k ex rt Q)(ht:F.To F'):Ways Z F' s0 nf y k ex rt Q :=
 ⟨fun F2 s' a' w' g=>h.k F2 s' a' w' (ht.trans g),fun i hi F2 s' a' w' g=>h.ex i hi F2 s' a' w' (ht.trans g),fun F2 s' a' w' g=>h.rt F2 s' a' w' (ht.trans g),fun F2 s' a' v w' g=>h.pn F2 s' a' v w' (ht.trans g)⟩
theorem q9(fD:∀t φ,¬F.Lh t φ)(hE:E.ok F.P){s s1:S}{a0 a1:Act}{w0 w1:World}{F0:Frm}(cP:F.kin F0)(h0:Rel F0 s a0 w0)(h1:Rel F s1 a1 w1)(hi:Inv s s1){sh:Sh}{j:sh.D->Comp β}{nf:Nat}{y:β}(h:(goJ E.G sh s s1 j).run nf=some y) :
  ∃x,Rel F (sh.put s x) a1 w1/\Inv s (sh.put s x)/\(j x).run nf=some y:=by
 unfold goJ at h;split at h
 ·grind [YQ]
 ·cases h
theorem u5(fD:∀t φ,¬F.Lh t φ)(hE:E.ok F.P){s s1:S}{a0 a1:Act}{w0 w1:World}{F0:Frm}(cP:F.kin F0)(h0:Rel F0 s a0 w0)(h1:Rel F s1 a1 w1)(hi:Inv s s1){o:Option Nat}{ex:Nat->S->Comp β}{rt:S->Comp β}{nf:Nat}{y:β}:∀ {l:List (Option Nat×Sh)} {x:ED l},Uv E.G s o s1 l=some x->(Hz s ex rt l x).run nf=some y ->
  ∃s',Rel F s' a1 w1/\Inv s s'/\(match o with|some i=>ex i s'|none=>rt s').run nf=some y
 | [],x,h,_=>nomatch x
 | [e],x,h,hr=>by
  simp only[Uv]at h;split at h
  ·rename_i he
   obtain⟨g1,g2⟩:=YQ fD hE cP h0 h1 hi h;grind [SX,Hz,toE]
  ·cases h
 |e::e'::l,x,h,hr=>by
  simp only[Uv]at h;split at h
  ·rename_i he
   split at h
   ·rename_i x1 hx
    cases h
    obtain⟨g1,g2⟩:=YQ fD hE cP h0 h1 hi hx;grind [SX,Hz,toE]
   ·cases h
  ·split at h
   ·rename_i x1 hx
    cases h
    exact u5 fD hE cP h0 h1 hi hx hr
   ·cases h
theorem zBe{i:Nat}(h:(!(Nat.beq i PL))=true):i≠PL:=fun e=>by simp_all
theorem tF{N:Nat}(h:Nat.blt 0 N=true):0<N:=by simp_all
theorem SR{β:Type}{e:Nat->S->Comp β}{s:S}{nf:Nat}{y:β}(h:(exF e PL s).run nf=some y):False:=by
 unfold exF at h;rw[Nat.beq_refl]at h;cases h
theorem SQ{β:Type}{e:Nat->S->Comp β}{i:Nat}(hi:i≠PL)(s:S):exF e i s=e i s:=by
 grind [exF,Nat.beq,PL,zX,zMs]
theorem uq(fD:∀t φ,¬F.Lh t φ)(hE:E.ok F.P)(hm:F.P.follows .mixedOrders=true)(sD:F.x.sb<=F.w0.heap.size){id:Nat}{ops:Array Oper}{draw:Bool}(hN:0<F.N)(kA:Xh F.N ops.toList=true){β:Type}{h:H}{s0 s:S}{a:Act}{w:World}{k pn:S->Comp β}{nf:Nat}{y:β}{Q:Exit->Act->World->Prop}
  (hR:Rel F s a w) (hi:Inv s0 s) (hr:(Mz E ops draw h s k pn).run nf=some y) (hk:∀s' a' w',Rel F s' a' w'->Inv s0 s'->(k s').run nf=some y->Q .normal a' w')
  (hP:∀s' a' v w',Rel F s' (a'.put (some 0) v) w'->Inv s0 s'->(pn s').run nf=some y->Q (.panic [{ v:=.iface E.Z v,recovered:=false }]) a' w'):F.wp (Code.region id ops draw) Q a w:=by
 unfold Mz at hr;split at hr
 ·have:=Wq (id:=id) (draw:=draw) fD hE hR hi hm sD kA hr hk
  omega
 ·rename_i sh
  split at hr
  ·dsimp only [jn]at hr
   have:=Ws (id:=id) fD hE hR (Inv.refl s) kA hr (Q:=Q) fun s' a' w' g1 g2 g3=>by
    obtain⟨x,q1,q2,q3⟩:=q9 fD hE (Frm.KZ F) hR g1 g2 g3;exact hk _ _ _ q1 (hi.trans q2) q3
   omega
  ·cases hr
 ·split at hr
  ·grind [Vo]
  ·cases hr
 ·have:=CU (id:=id) fD hE hR hi hm kA hr hk
  omega
 ·have:=CU (id:=id) fD hE hR hi hm kA hr hk
  omega
theorem Ym:∀(c:Code),∀ {F:Frm},F.P.follows .mixedOrders=true->(∀t φ,¬F.Lh t φ)->E.ok F.P->okC F.N c=true->((F.x.rd=none/\F.x.nr=false)\/kj c=true)->F.x.sb=F.w0.heap.size->∀ {β:Type} {h:H} {s0 s:S} {a:Act} {w:World} {k:S->Comp β} {ex:Nat->S->Comp β} {rt:S->Comp β} {nf:Nat} {y:β} {Q:Exit->Act->World->Prop},
  Rel F s a w->Inv s0 s->(den E c β h s k ex rt).run nf=some y->Ways E.Z F s0 nf y k ex rt Q->F.wp c Q a w:=by
 intro c
 induction c with
 |skip=>intro F hm fD hE _ tR sD β h s0 s a w k ex rt nf y Q hR hi hr hW;exact wpIn_skip (hW.k F s a w (.refl F) hR hi hr)
 |label l=>intro F hm fD hE _ tR sD β h s0 s a w k ex rt nf y Q hR hi hr hW;exact wpIn_label (hW.k F s a w (.refl F) hR hi hr)
 |exit i=>intro F hm fD hE kA tR sD β h s0 s a w k ex rt nf y Q hR hi hr hW;exact wpIn_exit (hW.ex i (zBe kA) F s a w (.refl F) hR hi hr)
 |ret=>intro F hm fD hE _ tR sD β h s0 s a w k ex rt nf y Q hR hi hr hW;exact wpIn_ret (hW.rt F s a w (.refl F) hR hi hr)
 |region id ops draw =>
  intro F hm fD hE kA tR sD β h s0 s a w k ex rt nf y Q hR hi hr hW;simp only[den]at hr;simp only[okC,zMQ]at kA;have hN:=tF kA.2
  split at hr
  ·rename_i l h'
   exact uq fD hE hm (Nat.le_of_eq sD) hN kA.1 (Rel.Z5 hE hR _) (hi.trans (Inv.Z5 _ _)) hr (fun s' a' w'=>hW.k F s' a' w' (.refl F)) fun s' a' v w'=>hW.pn F s' a' v w' (.refl F)
  ·exact uq fD hE hm (Nat.le_of_eq sD) hN kA.1 hR hi hr (fun s' a' w'=>hW.k F s' a' w' (.refl F)) fun s' a' v w'=>hW.pn F s' a' v w' (.refl F)
 |seq x z ihx ihz =>
  intro F hm fD hE kA tR sD β h s0 s a w k ex rt nf y Q hR hi hr hW;simp only[okC,zMQ]at kA;simp only[den]at hr;have iT:(F.x.rd=none/\F.x.nr=false)\/kj x=true:=tR.imp id fun h=>by simp_all [kj,zMQ]
  have hrd2:(F.x.rd=none/\F.x.nr=false)\/kj z=true:=tR.imp id fun h=>by simp_all [kj,zMQ]
  refine wpIn_seq (ihx hm fD hE kA.1 iT sD hR hi hr ⟨fun F' s' a' w' h0 h1 h2 h3=>?_,hW.ex,hW.rt,hW.pn⟩)
  have hs:=h0.same;have:=ihz (F:=F') (by rw[hs.P];exact hm) (by rw[hs.Lh];exact fD) (by rw[hs.P];exact hE) (by rw[hs.N];grind) (by rw[hs.rd,hs.nr];omega) (by rw[hs.sb,hs.w0];exact sD) h1 h2 h3 (hW.to h0)
  unfold Frm.wp at this;rwa[hs.P,hs.rd]at this
 |scope x ih =>
  intro F hm fD hE kA tR sD β h s0 s a w k ex rt nf y Q hR hi hr hW;simp only[den]at hr;exact tO (ih hm fD hE kA tR sD hR hi hr ⟨hW.k,hW.ex,hW.rt,hW.pn⟩)
 |cond c t e iht ihe =>
  intro F hm fD hE kA tR sD β h s0 s a w k ex rt nf y Q hR hi hr hW;have iT:(F.x.rd=none/\F.x.nr=false)\/kj t=true:=tR.imp id fun h=>by simp_all [kj,zMQ]
  have hrd2:(F.x.rd=none/\F.x.nr=false)\/kj e=true:=tR.imp id fun h=>by simp_all [kj,zMQ]
  simp only[okC,zMQ]at kA;simp only[den]at hr;split at hr
  ·split at hr
   ·rename_i q hq
    obtain⟨b,hc,hb⟩:∃b,a.eval c=.bool b/\(b=q.1->q.2=true):=by
     obtain⟨X,hX⟩:=hR;have hq:=AV.zEc hq
     rw[<-hX.ep]at hq;exact hX.rd #[c] c _ (by simp) hq
    have hr:=Q7 hr hb;exact wpIn_cond_split hc (fun aL=>iht hm fD hE kA.1 iT sD hR hi (hr.1 aL) hW) (fun hbf=>ihe hm fD hE kA.2 hrd2 sD hR hi (hr.2 hbf) hW)
   ·cases hr
  ·rename_i b hb
   have hc:a.eval c=.bool b:=by
    obtain⟨X,hX⟩:=hR;rw[<-hX.ep]at hb
    cases h1:rdO X.ep s.L [] [] c with
    |none=>grind
    |some φ=>rw[h1]at hb;exact JU (hX.rd #[c] c φ (by simp) h1) hb
   split at hr
   ·rename_i sh h1 h2
    dsimp only [jn]at hr;have hW':Ways E.Z F s nf y (fun s'=>goJ E.G sh s s' (fun x=>k (sh.put s x))) ex rt Q:=by
     refine⟨fun F' s' a' w' g0 g1 g2 g3=>?_,fun i fE F' s' a' w' g0 g1 g2 g3=>hW.ex i fE F' s' a' w' g0 g1 (hi.trans g2) g3,fun F' s' a' w' g0 g1 g2 g3=>hW.rt F' s' a' w' g0 g1 (hi.trans g2) g3,fun F' s' a' v w' g0 g1 g2 g3=>hW.pn F' s' a' v w' g0 g1 (hi.trans g2) g3⟩
     have hs:=g0.same;obtain⟨x,q1,q2,q3⟩:=q9 (F:=F') (by rw[hs.Lh];exact fD) (by rw[hs.P];exact hE) hs.kin hR g1 g2 g3
     exact hW.k _ _ _ _ g0 q1 (hi.trans q2) q3
    refine wpIn_cond_split hc (fun aL=>?_) (fun hbf=>?_)
    ·rw[zMq aL]at hr;grind [Inv.refl]
    ·rw[zMr (by grind)]at hr;grind [Inv.refl]
   ·refine wpIn_cond_split hc (fun aL=>?_) (fun hbf=>?_)
    ·grind
    grind
 |block id x ih =>
  intro F hm fD hE kA tR sD β h s0 s a w k ex rt nf y Q hR hi hr hW;simp only[okC,zMQ]at kA;have hid:=zBe kA.2
  have hbp:Nat.beq PL id=false:=by grind [zX,zMs]
  have kA:=kA.1;simp only[den]at hr;refine wpIn_block ?_;split at hr
  ·rename_i sh h1
   dsimp only [jn]at hr;have hk:∀F' s' a' w',F.To F'->Rel F' s' a' w'->Inv s s'->(goJ E.G sh s s' (fun x=>k (sh.put s x))).run nf=some y->Q .normal a' w':=by
    intro F' s' a' w' g0 g1 g2 g3;have hs:=g0.same
    obtain⟨x,q1,q2,q3⟩:=q9 (F:=F') (by rw[hs.Lh];exact fD) (by rw[hs.P];exact hE) hs.kin hR g1 g2 g3
    exact hW.k _ _ _ _ g0 q1 (hi.trans q2) q3
   refine ih hm fD hE kA tR sD hR (Inv.refl s) hr ⟨fun F' s' a' w' g0 g1 g2 g3=>hk F' s' a' w' g0 g1 g2 g3,fun i fE F' s' a' w' g0 g1 g2 g3=>?_,fun F' s' a' w' g0 g1 g2 g3=>hW.rt F' s' a' w' g0 g1 (hi.trans g2) g3,fun F' s' a' v w' g0 g1 g2 g3=>hW.pn F' s' a' v w' g0 g1 (hi.trans g2) (by grind)⟩
   show (if i=id then Q .normal a' w' else Q (.exit i) a' w')
   cases hb:Nat.beq i id with
   |true=>rw[hb]at g3;rw[zMq (zMP hb)];grind
   |false =>
    rw[hb]at g3;rw[zX]at hb;rw[zMr (by grind)];exact hW.ex i fE F' s' a' w' g0 g1 (hi.trans g2) g3
  ·refine ih hm fD hE kA tR sD hR hi hr ⟨fun F' s' a' w' g0 g1 g2 g3=>hW.k F' s' a' w' g0 g1 g2 g3,fun i fE F' s' a' w' g0 g1 g2 g3=>?_,fun F' s' a' w' g0 g1 g2 g3=>hW.rt F' s' a' w' g0 g1 g2 g3,fun F' s' a' v w' g0 g1 g2 g3=>hW.pn F' s' a' v w' g0 g1 g2 (by grind)⟩
   show (if i=id then Q .normal a' w' else Q (.exit i) a' w')
   cases hb:Nat.beq i id with
   |true=>rw[hb]at g3;rw[zMq (zMP hb)];exact hW.k F' s' a' w' g0 g1 g2 g3
   |false =>
    rw[hb]at g3;rw[zX]at hb;rw[zMr (by grind)];exact hW.ex i fE F' s' a' w' g0 g1 g2 g3
 |loop x ih =>
  intro F hm fD hE kA tR sD β h s0 s a w k ex rt nf y Q hR hi hr hW;simp only[den]at hr;split at hr
  ·rename_i sh l h1
   split at hr
   ·cases hr
   ·rename_i x0 bJ
    obtain⟨e,he,hr⟩:=run_bind hr;obtain⟨g1,g2⟩:=YQ fD hE (Frm.KZ F) hR hR (Inv.refl s) bJ;refine pA (fun m a' w'=>∃F' x,F.To F'/\Rel F' (sh.put s x) a' w'/\Inv s (sh.put s x)/\Comp.XG (fun x=>den E _ (Comp.Step sh.D (ED l)) h1 (sh.put s x) (J7 E.G sh s) (fun i s'=>ZT E.G s l (some i) s') (ZT E.G s l none)) nf m x=some e) (fun m a' w' hI=>?_) ⟨F,x0,.refl F,g1,g2,qV he⟩
    obtain⟨F',x,q0,q1,q2,q3⟩:=hI;have hs:=q0.same
    obtain⟨m',gF,st,f8,hn,hd⟩:=tj q3;have xE:∀(o:Option Nat) (F2:Frm) (s':S) (a2:Act) (w2:World),F'.To F2->Rel F2 s' a2 w2->Inv s s'->(ZT (σ:=sh.D) E.G s l o s').run nf=some st->∃s2,Rel F2 s2 a2 w2/\Inv s s2/\(match o with|some i=>ex i s2|none=>rt s2).run nf=some y:=by
     intro o F2 s' a2 w2 f0 f1 f2 f3;have aG:=(q0.trans f0).same
     unfold ZT at f3;split at f3
     ·rename_i z hz
      have f8:=run_pure f3;have:=hd z f8.symm
      subst this;exact u5 (F:=F2) (by rw[aG.Lh];exact fD) (by rw[aG.P];exact hE) aG.kin hR f1 f2 hz hr
     ·cases f3
    have bZ:∀ {cc:Code} {R:Exit->Act->World->Prop},F'.wp cc R a' w'->cc.wpIn (fw F.x.rd) 0 F.P R a' w':=fun {cc R} h=>by
     unfold Frm.wp at h;rwa[hs.P,hs.rd]at h
    refine bZ (ih (F:=F') (by rw[hs.P];exact hm) (by rw[hs.Lh];exact fD) (by rw[hs.P];exact hE) (by rw[hs.N];exact kA) (by rw[hs.rd,hs.nr];exact tR) (by rw[hs.sb,hs.w0];exact sD) q1 q2 f8 ⟨fun F2 s' a2 w2 f0 f1 f2 f3=>?_,fun i fE F2 s' a2 w2 f0 f1 f2 f3=>?_,fun F2 s' a2 w2 f0 f1 f2 f3=>?_,fun F2 s' a2 v2 w2 f0 f1 f2 f3=>?_⟩)
    ·have aG:=(q0.trans f0).same
     unfold J7 at f3;split at f3
     ·rename_i z hz
      have f8:=run_pure f3;obtain⟨r1,r2⟩:=YQ (F:=F2) (by rw[aG.Lh];exact fD) (by rw[aG.P];exact hE) aG.kin hR f1 f2 hz
      exact⟨m',gF,F2,z,q0.trans f0,r1,r2,hn z f8.symm⟩
     ·cases f3
    ·obtain⟨s2,r1,r2,r3⟩:=xE (some i) F2 s' a2 w2 f0 f1 f2 f3
     exact hW.ex i fE F2 s2 a2 w2 (q0.trans f0) r1 (hi.trans r2) r3
    ·obtain⟨s2,r1,r2,r3⟩:=xE none F2 s' a2 w2 f0 f1 f2 f3
     exact hW.rt F2 s2 a2 w2 (q0.trans f0) r1 (hi.trans r2) r3
    ·obtain⟨s2,r1,r2,r3⟩:=xE (some PL) F2 s' (a2.put (some 0) v2) w2 f0 f1 f2 f3
     exact hW.pn F2 s2 a2 v2 w2 (q0.trans f0) r1 (hi.trans r2) r3
  ·cases hr
 |goto l=>intro F hm fD hE _ tR sD β h s0 s a w k ex rt nf y Q hR hi hr hW;cases hr
 |refuse l=>intro F hm fD hE _ tR sD β h s0 s a w k ex rt nf y Q hR hi hr hW;cases hr
 |rangeFunc g ps eJ bd iha ihb =>
  intro F hm fD hE kA tR sD β h s0 s a w k ex rt nf y Q hR hi hr hW;obtain⟨tR,aX⟩:=tR.resolve_right (by simp[kj])
  simp only[okC,zMQ]at kA;obtain⟨hoka,hokb,hna,hnb,dW⟩:=kA;simp only[den]at hr;split at hr
  case h_2=>cases hr
  rename_i sh l h1;split at hr
  case h_2=>cases hr
  rename_i q x0 hq bJ;obtain⟨xs,sE,hr⟩:=run_bind hr;obtain⟨r,oG,cN⟩:=run_bind hr;obtain⟨X,hX⟩:=hR
  -- the function
  have hq:=Ve hq;rw[<-hX.ep]at hq;obtain⟨cs,⟨f,us,e1,hf,hC⟩,e2⟩:=hX.rd #[g] g _ (by simp) hq
  have hg:a.eval g=.func (.func f) #[] us.toArray:=by rw[e2,e1];rfl
  clear e1 e2 cs;have his:Inv s0 s.ZO:=hi.trans (Inv.ZO s)
  generalize aQ:s.ZO=s1 at *;have xN:RelX F s1 a w { X with n:=s.n+1 }:=aQ ▸ hX.ZO fD
  have tW:∀t e,look s1.L t=some e->e.2.zg=false:=fun t e he=>by rw[<-aQ]at he;exact(jI he).1
  have hkv0:∀t e,look s1.L t=some e->e.2.holds { X with n:=s.n+1 } w (a.get t):=fun t e he=>xN.l t e he (by grind [fresh])
  unfold Frm.wp;rw[tR];refine wpIn_rangeFunc (F:=fw none) fun fn _=>?_
  -- the machine's blocks
  let D:=w.heap.size
  let r0:Loop:={ state:=.ready,pending:=none,fn:=fn,tmps:=a.tmps,params:=ps,assign:=eJ,body:=bd,defers:=D }
  let wE:=(w.alloc (.deferred (some []))).alloc (.loop r0)
  let qS:Loop->Nat->Obj->Prop:=fun r c o=>(F.x.sys c o\/(c=D/\o=.deferred (some [])))\/(c=D+1/\o=.loop r)
  let kv1:Value->AV->Prop:=fun v φ=>F.x.kv v φ\/∃t e,look s1.L t=some e/\v=a.get t/\φ=e.2
  let FJ:Loop->Frm:=fun r=>{ F with x:={ F.x with sys:=qS r,kv:=kv1,sO:=X.O,sw:=w } }
  have pV:(w.alloc (.deferred (some []))).heap.size=D+1:=by simp[D]
  have b7:∀c o,F.x.sys c o->c<D:=fun c o hc=>(zMp.1 (hX.ex.sys c o hc).1.1).1
  have xT:=(xN.RL sD (.deferred (some []))).RL sD (.loop r0);rw[pV]at xT;have hExt:Ext w wE:=(Ext.alloc w _).trans (Ext.alloc _ _)
  let XE:Cx:={ X with n:=s.n+1,O:=tag (tag X.O (some D) F.x.st) (some (D+1)) F.x.st }
  have xT:RelX { F with x:={ F.x with sys:=qS r0 } } s1 a wE XE:=xT;have hKE:zd 0 X.O w XE.O wE:=by
   refine⟨hExt.size,fun b hb h0=>⟨?_,hExt.block b hb⟩⟩
   grind [tag,gG]
  have hleE:({ X with n:=s.n+1 }:Cx).le w XE wE:=⟨rfl,hKE,fun _ _=>rfl,zMS _,rfl⟩
  have hexJ:Exx (FJ r0).x XE wE:=by
   refine⟨xT.ex.st,xT.ex.sys,fun v φ hv=>?_,hKE,xT.ex.L⟩
   rcases hv with hv|⟨t,e,he,rfl,rfl⟩
   ·exact xT.ex.kv v φ hv
   ·exact⟨tW t e he,e.2.le (tW t e he) hleE (hkv0 t e he)⟩
  have hLhJ:∀r t φ,¬(FJ r).Lh t φ:=fun r=>fD
  have hXJ:RelX (FJ r0) s1 a wE XE:=xT.conv (F':=FJ r0) (L':=s1.L) rfl rfl rfl rfl fD rfl rfl rfl xT.fit xT.l xT.ln hexJ;obtain⟨j1,j2⟩:=YQ (F:=FJ r0) fD hE (Frm.KZ _) ⟨_,hXJ⟩ ⟨_,hXJ⟩ (Inv.refl s1) bJ
  -- what holds between the rounds
  generalize hB:(fun x d=>DH ps.toList q.1 d (sh.put s1 x) fun s2=>den E eJ (Comp.Step sh.D (ED l)) h1.l1 s2 (fun s3=>den E bd (Comp.Step sh.D (ED l)) h1.l2 s3.tick (fun s'=>J7 E.G sh s1 (s'.back s1.L).tick) (exF fun i s'=>ZT E.G s1 l (some i) (s'.back s1.L).tick) (fun s'=>ZT E.G s1 l none (s'.back s1.L).tick)) (fun _ _=>Comp.fail) (fun _=>Comp.fail))=B at *
  let J:List q.1.D->zQ->World->Prop:=fun pre O W=>∃rest x Xc,xs=pre++rest/\(wC B rest x).run nf=some r/\RelX (FJ r0) (sh.put s1 x) a W Xc/\Xc.O=O/\Inv s1 (sh.put s1 x)
  let Jx:zQ->World->Prop:=fun O W=>∃c s2 Xc,RelX (FJ { r0 with state:=.done,pending:=some c }) s2 a W Xc/\Xc.O=O/\Inv s1 s2/\((∃i,i≠PL/\c=.exit i/\(ex i s2.tick).run nf=some y)\/(c=.ret/\(rt s2.tick).run nf=some y))
  have hwE:∀b,b<wE.heap.size↔b<D+2:=fun b=>by simp[wE,D]
  -- at the end
  have b9:∀(r1:Loop) (s2:S) (W:World),r1.state≠.busy->Rel (FJ r1) s2 a W->∃W',(Instr.endLoop (D+1)).run F.P W=.ok r1.pending W'/\Rel (F.mark D) s2.tick { a with defers:=n4 D::a.defers } W':=by
   intro r1 s2 W hb ⟨Xc,bC⟩;obtain⟨⟨k1,k2⟩,k3⟩:=bC.ex.sys (D+1) (.loop r1) (.inr ⟨rfl,rfl⟩);refine⟨_,run_endLoop k1 hb,{ Xc with n:=s2.n+1,ep:=s2.n },?_⟩;have ht:=bC.turn (o':=.loop { r1 with state:=.exhausted }) (q:=fun c o=>F.x.sys c o\/(c=D/\o=.deferred (some []))) k2 (by grind) (zMp.1 k1).1 fun c o hc=>.inl ⟨by grind,.inl hc⟩
   refine ht.conv (F':=F.mark D) (L':=s2.L) rfl rfl rfl rfl fD rfl rfl rfl ⟨bC.fit.size,by show n4 D::a.defers=_;rw[show a.defers=F.D from bC.fit.defers];rfl⟩ (fun t e he hf=>ht.l t e he hf) ht.ln ⟨ht.ex.st,fun c o hc=>ht.ex.sys c o hc,fun v φ hv=>ht.ex.kv v φ (.inl hv),?_,ht.ex.L⟩
   have iU:zd 0 X.O w Xc.O (W.putObj (D+1) (.loop { r1 with state:=.exhausted })):=ht.ex.since;exact hX.ex.since.trans iU
  have hmk:F.To (F.mark D):=.mark (.refl F) D (fun o hc=>zMg (b7 D o hc) (Nat.lt_irrefl _)) aX
  refine⟨D+1,[n4 D],wE,{ target:=.fn (.func f) us.toArray,args:=#[.func (.yield (D+1)) #[] #[]] },wE,f,#[.func (.yield (D+1)) #[] #[]]++us.toArray,wE,?_,?_,fun _ _=>trivial,?_,fun h=>by grind [Fence.wide],?_⟩
  ·grind [Instr.enterLoop,run_enterLoop_outer]
  ·have h2:∀v,a.eval (.const v)=v:=fun _=>rfl
   simp[resolve,hg,Deferred.ofValue,h2]
  ·obtain⟨fnc,hf1,hf2,hf3⟩:=hf.h
   have hP:X.P=F.P:=hX.P;rw[hP]at hf1;simp only[invoke,callFunc,run_program,Sem.run_bind,Sem.run_pure,Result.andThen,hf1];simp[hf2,hf3]
  ·have hP:X.P=F.P:=hX.P
   obtain⟨XJ,iV⟩:=j1;have hz:J [] XJ.O wE:=⟨xs,x0,XJ,rfl,oG,iV,rfl,j2⟩
   have xW:=hC XJ.O wE iV.okO iV.ex.since nf xs sE (D+1) J Jx ?_
   ·rw[hP]at xW
    rw[show #[Value.func (Fn.yield (D+1)) #[] #[]]++us.toArray=(Value.func (.yield (D+1)) #[] #[]::us).toArray by simp]
    refine qJ (m:=0) (Calls.mono xW fun e W he=>?_)
    obtain⟨rfl,⟨O',rest,x,Xc,g1,g2,g3,g4,g5⟩|⟨O',c,s2,Xc,g3,g4,g5,g6⟩⟩:=he
    ·have aW:rest=[]:=by simpa using g1
     subst aW;have:=run_pure g2
     subst this;obtain⟨W',k1,k2⟩:=b9 r0 _ W (by simp[r0]) ⟨_,g3⟩
     exact⟨none,W',k1,hW.k _ _ _ _ hmk k2 (his.trans (g5.trans (Inv.tick _))) cN⟩
    ·obtain⟨W',k1,k2⟩:=b9 _ s2 W (by simp) ⟨_,g3⟩
     refine⟨some c,W',k1,?_⟩;rcases g6 with ⟨i,fE,rfl,g6⟩|⟨rfl,g6⟩
     ·exact wpIn_exit (hW.ex i fE _ _ _ _ hmk k2 (his.trans (g5.trans (Inv.tick _))) g6)
     ·exact wpIn_ret (hW.rt _ _ _ _ hmk k2 (his.trans (g5.trans (Inv.tick _))) g6)
   ·-- a round
    refine⟨fun pre O1 w1 w2 ⟨rest,x,Xc,g1,g2,g3,g4,g5⟩ hE1=>⟨rest,x,Xc,g1,g2,g3.ext hE1,g4,g5⟩,fun O1 w1 w2 ⟨c,s2,Xc,g1,g2,g3,g4⟩ hE1=>⟨c,s2,Xc,g1.ext hE1,g2,g3,g4⟩,
     fun pre O1 w1 ⟨rest,x,Xc,g1,g2,g3,g4,g5⟩=>g4 ▸ g3.okO,fun O1 w1 ⟨c,s2,Xc,g1,g2,g3,g4⟩=>g2 ▸ g1.okO,?_,hz⟩
    rintro pre d post O1 w1 vs fX ⟨rest,x,Xc,g1,g2,g3,g4,g5⟩ sT;subst g4;have aW:rest=d::post:=by rw[g1]at fX;simpa using fX
    subst aW;obtain⟨st1,dC,dD⟩:=run_bind g2;rw[<-hB]at dC;obtain⟨⟨k1,k2⟩,k3⟩:=g3.ex.sys (D+1) (.loop r0) (.inr ⟨rfl,rfl⟩)
    -- the round's own frame
    let FR:Loop->Frm:=fun r=>{ F with D:=[],x:={ F.x with sys:=qS r,kv:=kv1,sO:=Xc.O,sw:=w1,rd:=some (D+1) } }
    have hA6:(⟨a.tmps,[]⟩:Act).fitD F.N []:=⟨g3.fit.size,rfl⟩;have hXR:RelX (FR r0) (sh.put s1 x) ⟨a.tmps,[]⟩ w1 Xc:=g3.conv (F':=FR r0) (L':=(sh.put s1 x).L) rfl rfl rfl rfl fD rfl rfl rfl hA6 g3.l g3.ln ⟨g3.ex.st,g3.ex.sys,g3.ex.kv,zd.refl _ _ _,g3.ex.L⟩
    have hPc:Xc.P=F.P:=g3.P;rw[hP]at sT;obtain⟨s2,X2,p1,p2,p3,p4,p5⟩:=Q0 (F:=FR r0) fD hXR (by rw[hPc];exact sT) dW dC
    have dE:∀ {O2:zQ} {w2:World},zd 0 Xc.O w1 O2 w2->zd 0 X.O w O2 w2:=fun h=>g3.ex.since.trans h
    rw[hP];refine⟨fn,_,eJ,bd,run_yield k1 (by simp[r0,<-p5]),?_⟩
    have fP:({ tmps:=(r0.params.zip vs.toArray).foldl (fun tmps p=>tmps.setIfInBounds p.1 p.2) r0.tmps,defers:=[] }:Act)=Yo ps.toList vs ⟨a.tmps,[]⟩:=by
     rw[G0,<-Array.foldl_toList];simp[r0,Array.toList_zip]
    refine roundIn_of_wpIn trivial ?_;show eJ.wpIn (fw (some (D+1))) 0 F.P _ { tmps:=(r0.params.zip vs.toArray).foldl (fun tmps p=>tmps.setIfInBounds p.1 p.2) r0.tmps,defers:=[] } w1
    rw[fP];refine iha (F:=FR r0) hm fD hE hoka (.inr hna) sD ⟨_,p1⟩ (Inv.refl s2) p4 ⟨fun F' s3 a3 w3 f0 f1 f2 f3=>?_,fun i _ F' s3 a3 w3 _ _ _ f3=>(nomatch f3),fun F' s3 a3 w3 _ _ _ f3=>(nomatch f3),fun F' s3 a3 _ w3 _ _ _ f3=>(nomatch f3)⟩
    obtain⟨X3,xZ⟩:=f1;have cS:=f0.same
    obtain⟨⟨m1,m2⟩,m3⟩:=xZ.ex.sys (D+1) (.loop r0) (f0.sys (.inr ⟨rfl,rfl⟩))
    let rb:Loop:={ r0 with state:=.busy }
    let q':Nat->Obj->Prop:=fun c o=>(c≠D+1/\F'.x.sys c o)\/(c=D+1/\o=.loop rb)
    have hwD:F.w0.heap.size<=D+1:=by have:=hX.base.size;omega
    have hX4:=xZ.turn (o':=.loop rb) (q:=q') m2 (by rw[cS.w0];exact hwD) (zMp.1 m1).1 fun c o hc=>hc.imp (fun h=>h) fun h=>⟨h.1,h.2,m3⟩
    refine⟨w3.putObj (D+1) (.loop rb),run_beginRound m1 rfl,?_⟩;show bd.wpIn (fw (some (D+1))) 0 F.P _ a3 _
    have bZ:∀ {cc:Code} {R:Exit->Act->World->Prop} {a':Act} {w':World},(F'.sys q').wp cc R a' w'->cc.wpIn (fw (some (D+1))) 0 F.P R a' w':=fun {cc R a' w'} h=>by
     unfold Frm.wp at h
     change cc.wpIn (fw F'.x.rd) 0 F'.P R a' w' at h
     rwa[cS.P,cS.rd]at h
    let FK:Loop->Frm:=fun r=>{ F with x:={ F.x with sys:=qS r,kv:=kv1,sO:=Xc.O,sw:=w1 } }
    -- the end of a round
    have eK:∀(F2:Frm) (s':S) (a2:Act) (W3:World) (r1:Loop),(F'.sys q').To F2->Rel F2 s' a2 W3->Inv s2 s'->(W3.heap[D+1]?=some (.loop rb))/\Rel (FK r1) (s'.back s1.L).tick a (W3.putObj (D+1) (.loop r1)):=by
     intro F2 s' a2 W3 r1 u0 ⟨X5,aC⟩ u2;have aM:(FR r0).Same F2:=cS.NS u0.same
     have hA7:∀ {c o},c≠D+1->qS r0 c o->F2.x.sys c o:=fun {c o} hc hq=>u0.sys (.inl ⟨hc,f0.sys hq⟩)
     obtain⟨⟨n1,n2⟩,n3⟩:=aC.ex.sys (D+1) (.loop rb) (u0.sys (.inr ⟨rfl,rfl⟩));refine⟨n1,?_⟩;have hk5:zd 0 Xc.O w1 X5.O W3:=by
      have:=aC.ex.since;rwa[aM.sO,aM.sw]at this
     have cT:RelX (FK rb) (s'.back s1.L) a W3 X5:=by
      refine aC.conv (F':=FK rb) (L':=s1.L) (by rw[aM.P]) (by rw[aM.A]) (by rw[aM.O0]) (by rw[aM.w0]) fD (by rw[aM.fe]) (by rw[aM.bl]) (by rw[aM.st]) hX.fit (fun t e he _=>?_) (fun t e he=>zMd (xN.ln t e he) ?_) ⟨by have:=aC.ex.st;rwa[aM.st]at this,fun c o hc=>?_,fun v φ hv=>aC.ex.kv v φ (by rw[aM.kv];exact hv),hk5,by have:=aC.ex.L;rwa[aM.Lp]at this⟩
      ·exact(aC.ex.kv _ _ (by rw[aM.kv];exact .inr ⟨t,e,he,rfl,rfl⟩)).2
      ·exact((g5.trans p3).trans u2).le
      ·have hst5:F2.x.st=F.x.st:=aM.st
       have hsb5:F2.x.sb=F.x.sb:=aM.sb;rcases hc with hc|⟨rfl,rfl⟩
       ·have fE:c≠D+1:=by
         rcases hc with hc|⟨hc,_⟩
         ·have:=b7 c o hc;omega
         ·omega
        have:=aC.ex.sys c o (hA7 fE (.inl hc));rw[hst5,hsb5]at this;omega
       ·have:=aC.ex.sys (D+1) (.loop rb) (u0.sys (.inr ⟨rfl,rfl⟩))
        rw[hst5,hsb5]at this;omega
     have hbO:X5.O (D+1)=F.x.st:=(cT.ex.sys (D+1) (.loop rb) (.inr ⟨rfl,rfl⟩)).1.2;have hsbD:F.x.sb<=D+1:=(cT.ex.sys (D+1) (.loop rb) (.inr ⟨rfl,rfl⟩)).2
     have hlt5:=(zMp.1 n1).1;have ht:=cT.turn (o':=.loop r1) (q:=qS r1) hbO hwD hlt5 fun c o hc=>by
      rcases hc with hc|⟨rfl,rfl⟩
      ·refine .inl ⟨?_,.inl hc⟩
       rcases hc with hc|⟨hc,_⟩
       ·have:=b7 c o hc;omega
       ·omega
      ·exact .inr ⟨rfl,rfl,hsbD⟩
     exact⟨_,ht⟩
    have eL:∀ {s':S},Inv s2 s'->Inv s1 (s'.back s1.L).tick:=fun {s'} hi'=>(⟨((g5.trans p3).trans hi').le,fun t e he _=>he,fun k e he hl=>((g5.trans p3).trans hi').m k e he hl⟩:Inv s1 (s'.back s1.L)).trans (Inv.tick _)
    have eN:∀r1,(FK r1).kin (FJ r0):=fun r1=>⟨rfl,rfl,rfl⟩
    have hKJ:∀ {r1:Loop} {s':S} {W:World} {Xg:Cx},RelX (FK r1) s' a W Xg->RelX (FJ r1) s' a W Xg:=fun {r1 s' W Xg} h=>h.conv (F':=FJ r1) (L':=s'.L) rfl rfl rfl rfl fD rfl rfl rfl h.fit h.l h.ln ⟨h.ex.st,h.ex.sys,h.ex.kv,dE h.ex.since,h.ex.L⟩
    have xE:∀(o:Option Nat) (c:Code) (F2:Frm) (s':S) (a2:Act) (W3:World),(∀i,o=some i->i≠PL/\c=.exit i)->(o=none->c=.ret)->(F'.sys q').To F2->Rel F2 s' a2 W3->Inv s2 s'->(ZT (σ:=sh.D) E.G s1 l o (s'.back s1.L).tick).run nf=some st1 ->
      ∃v w',(Instr.endRound (D+1) (some c)).run F.P W3=.ok v w'/\(∃b,Ending.returned v=.returned (.bool b)/\∃O2,zd 0 Xc.O w1 O2 w'/\match b with|true=>J (pre++[d]) O2 w'|false=>Jx O2 w'):=by
     intro o c F2 s' a2 W3 cJ aY u0 u1 u2 u3;obtain⟨n1,n2⟩:=eK F2 s' a2 W3 { r0 with state:=.done,pending:=some c } u0 u1 u2;refine⟨_,_,run_endRound (some c) n1,false,rfl,?_⟩;unfold ZT at u3;split at u3
     ·rename_i z hz
      have f8:=run_pure u3;rw[<-f8]at dD;have hr:=run_pure dD
      rw[<-hr]at cN;obtain⟨s3',⟨Xg,v1⟩,v2,v3⟩:=u5 (F:=FK { r0 with state:=.done,pending:=some c }) (o:=o) (ex:=fun i s'=>ex i s'.tick) (rt:=fun s'=>rt s'.tick) fD hE (eN _) ⟨_,hXJ⟩ n2 (eL u2) hz cN
      refine⟨Xg.O,v1.ex.since,c,s3',Xg,hKJ v1,rfl,v2,?_⟩
      cases o with
      |some i=>exact .inl ⟨i,(cJ i rfl).1,(cJ i rfl).2,v3⟩
      |none=>exact .inr ⟨aY rfl,v3⟩
     ·cases u3
    refine bZ (ihb (F:=F'.sys q') (by rw[show (F'.sys q').P=F'.P from rfl,cS.P];exact hm) (by rw[show (F'.sys q').Lh=F'.Lh from rfl,cS.Lh];exact fD) (by rw[show (F'.sys q').P=F'.P from rfl,cS.P];exact hE) (by rw[show (F'.sys q').N=F'.N from rfl,cS.N];omega) (.inr hnb) (by rw[show (F'.sys q').x.sb=F'.x.sb from rfl,show (F'.sys q').w0=F'.w0 from rfl,cS.sb,cS.w0];exact sD) ⟨_,hX4⟩ (f2.trans (Inv.tick _)) f3 ⟨fun F2 s' a2 W3 u0 u1 u2 u3=>?_,fun i fE F2 s' a2 W3 u0 u1 u2 u3=>?_,fun F2 s' a2 W3 u0 u1 u2 u3=>?_,fun F2 s' a2 _ W3 u0 u1 u2 u3=>(SR u3).elim⟩)
    ·obtain⟨n1,n2⟩:=eK F2 s' a2 W3 r0 u0 u1 u2
     refine⟨_,_,run_endRound none n1,true,rfl,?_⟩;unfold J7 at u3;split at u3
     ·rename_i z hz
      have f8:=run_pure u3;rw[<-f8]at dD;obtain⟨⟨Xg,v1⟩,v2⟩:=YQ (F:=FK r0) fD hE (eN r0) ⟨_,hXJ⟩ n2 (eL u2) hz;exact⟨Xg.O,v1.ex.since,post,z,Xg,by rw[g1];simp,dD,hKJ v1,rfl,v2⟩
     ·cases u3
    ·exact xE (some i) (.exit i) F2 s' a2 W3 (fun _ h=>by cases h;exact⟨fE,rfl⟩) (fun h=>nomatch h) u0 u1 u2 (by rwa[SQ fE]at u3)
    ·exact xE none .ret F2 s' a2 W3 (fun _ h=>nomatch h) (fun _=>rfl) u0 u1 u2 u3
end
end Go.Den
end
section
namespace Go.Den
open Go Go.RowKit Go.Eng Go.Lift
variable {α β γ δ:Type}
def Z5:MV->MV
 |.sl true t T xs=>.fs t xs
 |.fs t xs=>.fs t xs
 |.fb t x=>.fb t x
 |.mp true a b xs=>.fm a b xs
 |.fm a b xs=>.fm a b xs
 |_=>.dead
def frz:MS->MS
 | []=>[]
 |e::M=>(e.1,e.2.1,Z5 e.2.2)::frz M
theorem JC:∀ {M:MS} {k:Nat} {e:Nat×MV},look (frz M) k=some e->∃m,look M k=some (e.1,m)/\e.2=Z5 m
 | [],k,e,h=>by cases h
 |f::M,k,e,h=>by
  obtain⟨k0,st,m⟩:=f;simp only[frz,look]at h |-
  cases hb:Nat.beq k0 k with
  |true=>grind
  |false=>rw[hb]at h;exact JC h
section
variable {F:Frm} {s:S} {a:Act} {w:World} {X:Cx} {E:VE}
def Cx.out(X:Cx)(F:Frm):Cx:={ X with O:=F.O0 }
theorem RelX.q7(h:RelX F s a w X):X.le w (X.out F) w:=⟨rfl,⟨zMS _,fun b hb hz=>⟨h.base.zero b hb hz,rfl⟩⟩,fun _ _=>rfl,zMS _,rfl⟩
theorem RelX.IH(h:RelX F s a w X):yE (frz s.M) (X.out F) w:=by
 intro k e he;obtain⟨m,h1,h2⟩:=JC he;have hh:=h.m k _ h1
 have sM:=h.q7.k;rw[h2]
 cases m with
 |sl nw t T xs =>
  cases nw with
  |false=>trivial
  |true =>
   obtain⟨vs,g1,g2,g3⟩:=hh;refine Yd.2 ⟨vs,g1.slv,g2.mono sM,fun _ g hg=>⟨g1.gI g hg,?_⟩⟩
   have:=(g3 g hg).2
   change X.F g at this
   rw[h.Fn]at this;exact h.ok0 g this
 |bx nw c T=>cases nw<;>trivial
 |fs t xs=>exact GR.yk _ hh sM
 |fb t x=>exact GR.yk _ hh sM
 |fg f=>trivial
 |mp nw a b xs =>
  cases nw with
  |false=>trivial
  |true =>
   obtain⟨c,es,clock,g1,g2,g3,g4,g5⟩:=hh;have hc:F.w0.heap.size<=c:=by
    have:X.F c:=g4;rw[h.Fn]at this;exact this
   exact⟨_,.inr ⟨c,es,clock,rfl,g2,g3.mono sM,h.ok0 c hc⟩,g1⟩
 |fm a b xs=>exact GR.yk _ hh sM
 |dead=>trivial
def nu(E:VE)(s:S):ResultVar->Option AV
 |.tmp t=>rdO s.ep s.L [] [] (.tmp t)
 |.cell t T=>match rdO s.ep s.L [] [] (.tmp t),look E.T T with
  |some (.bx k off),some i=>match U3 s.M k with
   |some c=>match c.at_ i.sz (vP i.dd) true off with
    |some φ=>match φ.rP with
     |true=>some φ
     |false=>none
    |none=>none
   |none=>none
  |_,_=>none
def lf(E:VE)(s:S):List ResultVar->Option (List AV)
 | []=>some []
 |r::l=>match nu E s r,lf E s l with
  |some φ,some m=>some (φ::m)
  |_,_=>none
def My(tmps:Array Value):ResultVar->Sem Value
 |.tmp t=>pure (tmps.getD t undef)
 |.cell a t=>do loadVar t (<-asAddr (tmps.getD a undef))
theorem Ac{P:Program}{Y:TypeId}{i:TI}(ht:Eng.Ty P Y i.dd i.z i.sz i.by_){b off:Nat}{c2:List Value}(hp:Y0 w (.pointer (some ⟨b,off,none⟩)) (yJ (vP i.dd) c2))(hl:c2.length=i.sz)(h1:vP i.dd=false->c2.length=1)(ho:∀c∈c2,c.oneCell'=true):(loadVar Y ⟨b,off,none⟩).run P w=.ok (yJ (vP i.dd) c2) w:=by
 obtain⟨b',o',e1,e2⟩:=hp;cases e1;rw[ju h1 ho]at e2
 cases sV:vP i.dd with
 |true =>
  have hs:c2.toArray.size=i.sz:=by omega
  have:=Go.Eng.run_loadCells (P:=P) (w:=w) (b:=b) (off:=off) (cs:=c2.toArray) e2;rw[hs]at this;simp[loadVar,ht.YM,sV,ht.zz,this,yJ]
 |false =>
  have dU:=h1 sV
  match c2,dU with
  | [v0],_ =>
   have:=e2 0 (by simp)
   simp[loadVar,ht.YM,sV,yJ,this]at this |-;grind
theorem Nu(hE:E.ok X.P)(h:RelX F s a w X){r:ResultVar}{φ:AV}(hr:nu E s r=some φ):∃v,(My a.tmps r).run X.P w=.ok v w/\φ.holds X w v:=by
 cases r with
 |tmp t =>
  refine⟨a.get t,rfl,?_⟩;simp only[nu]at hr;rw[<-h.ep]at hr;exact h.rd #[.tmp t] (.tmp t) φ (by simp) hr
 |cell t T =>
  simp only[nu]at hr;rw[<-h.ep]at hr;split at hr
  ·rename_i k off i h1 h2
   split at hr
   ·rename_i c hc
    split at hr
    case h_2=>cases hr
    rename_i ψ cL;split at hr
    case h_2=>cases hr
    rename_i hoo;cases hr;have k1:=h.rd #[.tmp t] (.tmp t) _ (by simp) h1
    obtain⟨T',nw,b,cs,e1,e2,e3⟩:=GM h.m hc;obtain⟨c1,c2,c3,f1,f2,f3,f4,f5,f6⟩:=(AV.Ib c cL e3).h;obtain⟨_,b',e4,e5⟩:=k1;rw[e1]at e4;cases e4;have a7:=AV.Rc φ hoo f4
    have hl:vP i.dd=false->c2.length=1:=fun ha=>by grind
    refine⟨_,?_,f6⟩;have fI:=Ac (hE.T T i h2).ty (qa e2.own f1 f2 hl a7) f3 hl a7
    have e6:a.tmps.getD t undef=.pointer (some ⟨b,off,none⟩):=e5;grind [My,asAddr]
   ·cases hr
  ·cases hr
theorem Xm(hE:E.ok X.P)(h:RelX F s a w X):∀ {l:List ResultVar} {m:List AV},lf E s l=some m->∃vs,(l.mapM (My a.tmps)).run X.P w=.ok vs w/\vs.length=m.length/\∀(i:Nat) φ v,m[i]?=some φ->vs[i]?=some v->φ.holds X w v
 | [],m,hr=>by cases hr;simp_all
 |r::l,m,hr=>by
  simp only[lf]at hr;split at hr
  ·rename_i φ m' h1 h2
   cases hr
   obtain⟨v,e1,e2⟩:=Nu hE h h1;obtain⟨vs,f1,f2,f3⟩:=Xm hE h h2;refine⟨v::vs,by simp_all,by grind,fun i φ' v' hi hv=>?_⟩
   grind
  ·cases hr
theorem kg{P:Program}{fn:Func}{tmps:Array Value}{w:World}{vs:List Value}(h:(fn.results.toList.mapM (My tmps)).run P w=.ok vs w):∃v,(results fn tmps).run P w=.ok v w/\kU vs v:=by
 have e:(fn.results.mapM (My tmps)).run P w=.ok vs.toArray w:=by
  rw[Array.mapM_eq_mapM_toList];simp_all
 have e4:results fn tmps=(do let vs <-fn.results.mapM (My tmps);pure (if h:vs.size=1 then vs[0] else .tuple vs)):=by
  unfold results
  congr 2
 have e3:(results fn tmps).run P w=.ok (if h:vs.toArray.size=1 then vs.toArray[0] else .tuple vs.toArray) w:=by
  simp_all
 refine⟨_,e3,?_⟩
 match vs with
 | []=>exact .inl rfl
 | [v]=>exact .inr rfl
 |v::u::vs=>exact .inr (by rw[dif_neg (by simp)];rfl)
def zFf{t:Ty}(xs:List t.D)(a:Ty):Option a.D:=(Ty.sl t).to a xs
def zIR:(a:Ty)->Option a.D
 |.sl e=>some ([]:List e.D)
 |_=>none
def rO(M:MS):List (Option TypeId)->List AV->List Nat
 |k::ks,φ::l=>match k,Xt M φ with
  |some _,some p=>p.1::rO M ks l
  |_,_=>rO M ks l
 |_,_=>[]
def zAb(k:Nat):List Nat->Bool
 | []=>false
 |j::l=>Nat.beq k j || zAb k l
theorem HL{k:Nat}:∀ {l:List Nat},zAb k l=false->k ∉ l
 | [],_=>by simp
 |j::l,h=>by
  simp only[zAb,Bool.or_eq_false_iff]at h;have h1:=h.1
  rw[zX]at h1;have h2:=HL h.2
  grind
def lZ(G:FE)(M:MS):List (Option TypeId)->(rs:Ty)->List AV->Option rs.D
 | [],.nil,[]=>some ()
 |none::ks,.cons a b,φ::l=>match φ.asT G (frz M) a,lZ G M ks b l with
  |some x,some y=>some (x,y)
  |_,_=>none
 |some T::ks,.cons a b,φ::l=>match Xt M φ with
  |some p=>match p.2.1 && (Nat.beq p.2.2.1 T && !zAb p.1 (rO M ks l)),zFf p.2.2.2.2 a,lZ G M ks b l with
   |true,some x,some y=>some (x,y)
   |_,_,_=>none
  |none=>match Yl φ,zIR a,lZ G M ks b l with
   |true,some x,some y=>some (x,y)
   |_,_,_=>none
 |_,_,_=>none
theorem qX(hG:FOk X.P E.G)(h:RelX F s a w X):∀ {ks:List (Option TypeId)} {rs:Ty} {l:List AV} {y:rs.D},lZ E.G s.M ks rs l=some y->∀ {vs:List Value},vs.length=l.length->(∀(i:Nat) φ v,l[i]?=some φ->vs[i]?=some v->φ.holds X w v/\φ.zg=false) ->
  Y2 X.P F.O0 F.w0.heap.size w ks rs vs y/\∀g∈wB ks vs,∃k'∈rO s.M ks l,∃e',look s.M k'=some e'/\e'.2.own=true/\X.O g=X.ι k'
 | [],.nil,[],y,hr,vs,hl,_=>⟨List.length_eq_zero_iff.1 hl,fun g hg=>by cases hg⟩
 |none::ks,.cons t b,φ::l,y,hr,vs,hl,hv=>by
  simp only[lZ]at hr;split at hr
  ·rename_i x y' h1 h2
   cases hr
   match vs,hl with
   |v::vs,hl =>
    obtain⟨k1,k2⟩:=hv 0 φ v rfl rfl;have k3:=φ.le k2 h.q7 k1
    obtain⟨r1,r2⟩:=qX hG h h2 (vs:=vs) (by grind) fun i ψ u hi hu=>hv (i+1) ψ u (by grind) (by grind)
    exact⟨⟨v,vs,rfl,AV.Z0 (X:=X.out F) hG h.IH h1 k3,r1,fun g hg=>by cases hg⟩,fun g hg=>r2 g (by grind [wB,C6])⟩
  ·cases hr
 |some T::ks,.cons t b,φ::l,y,hr,vs,hl,hv=>by
  simp only[lZ]at hr
  match vs,hl with
  |v::vs,hl =>
   obtain⟨k1,k2⟩:=hv 0 φ v rfl rfl;have rest:=fun {y':b.D} (h2:lZ E.G s.M ks b l=some y')=>qX hG h h2 (vs:=vs) (by grind) fun i ψ u hi hu=>hv (i+1) ψ u (by grind) (by grind)
   split at hr
   ·rename_i p hp
    split at hr
    ·rename_i x y' hb h1 h2
     cases hr
     simp only[zMQ,Bool.not_eq_true']at hb;obtain⟨e,f1,f2,f3,f4⟩:=uF h.m k1 hp;obtain⟨e1,e2⟩:=Ty.jO h1;obtain⟨r1,r2⟩:=rest h2;have xI:e.2.own=true:=by rw[f2];rfl
     have htg:∀g,v.ownBlock=some g->X.O g=X.ι p.1:=fun g hg=>f3.tagged g hg
     refine⟨⟨v,vs,rfl,?_,r1,fun g hg iR=>?_⟩,fun g hg=>?_⟩
     rotate_left
     ·obtain⟨k',q1,e',q2,q3,q4⟩:=r2 g iR
      have:=h.inj p.1 k' e e' f1 q2 xI q3 ((htg g hg).symm.trans q4);grind [HL]
     ·simp only[wB,C6,zMZ,Option.mem_toList]at hg
      rcases hg with hg|hg
      ·exact⟨p.1,by simp[rO,hp],e,f1,xI,htg g hg⟩
      ·obtain⟨k',q1,q2⟩:=r2 g hg
       exact⟨k',by simp[rO,hp,q1],q2⟩
     have fE:=h.pos p.1 e f1 xI;rw[hb.1,zMP hb.2.1]at f3
     change zq _ _ _ X.F _ _ _ _ at f3
     rw[h.Fn]at f3;have:=zq.res (O0:=F.O0) f3 fE.1 (fun b hb hz=>h.base.zero b hb hz)
     subst e1;have e2:p.2.2.2.2=_:=e2
     show ZA _ _ _ _ _ _ _
     grind
    ·cases hr
   ·rename_i c7
    split at hr
    ·rename_i x y' hb h1 h2
     cases hr
     obtain⟨r1,r2⟩:=rest h2;rw[jW hb]at k1;have hvn:v=.slice none 0 0:=k1
     refine⟨⟨v,vs,rfl,?_,r1,fun g hg=>by rw[hvn]at hg;cases hg⟩,fun g hg=>?_⟩
     rotate_left
     ·rw[hvn]at hg
      obtain⟨k',q1,q2⟩:=r2 g (by grind [wB,C6,Value.ownBlock])
      exact⟨k',by simp[rO,c7,q1],q2⟩
     cases t<;>simp only[zIR]at h1<;>cases h1
     show ZA _ _ _ _ _ _ _
     grind [ZA.nil]
    ·cases hr
 | [],.nil,_::_,_,h,_,_,_=>by cases h
 | [],.int _,_,_,h,_,_,_ | [],.bool,_,_,h,_,_,_ | [],.str,_,_,h,_,_,_ | [],.sl _,_,_,h,_,_,_ | [],.cons ..,_,_,h,_,_,_ | [],.arr ..,_,_,h,_,_,_ | [],.box ..,_,_,h,_,_,_ | [],.fn ..,_,_,h,_,_,_ | [],.seq ..,_,_,h,_,_,_ | [],.slo ..,_,_,h,_,_,_ | [],.mp ..,_,_,h,_,_,_=>by cases h
 |none::_,.int _,_,_,h,_,_,_|none::_,.bool,_,_,h,_,_,_|none::_,.str,_,_,h,_,_,_|none::_,.sl _,_,_,h,_,_,_|none::_,.nil,_,_,h,_,_,_|none::_,.arr ..,_,_,h,_,_,_|none::_,.box ..,_,_,h,_,_,_|none::_,.fn ..,_,_,h,_,_,_|none::_,.seq ..,_,_,h,_,_,_|none::_,.slo ..,_,_,h,_,_,_|none::_,.mp ..,_,_,h,_,_,_=>by cases h
 |some _::_,.int _,_,_,h,_,_,_|some _::_,.bool,_,_,h,_,_,_|some _::_,.str,_,_,h,_,_,_|some _::_,.sl _,_,_,h,_,_,_|some _::_,.nil,_,_,h,_,_,_|some _::_,.arr ..,_,_,h,_,_,_|some _::_,.box ..,_,_,h,_,_,_|some _::_,.fn ..,_,_,h,_,_,_|some _::_,.seq ..,_,_,h,_,_,_|some _::_,.slo ..,_,_,h,_,_,_|some _::_,.mp ..,_,_,h,_,_,_=>by cases h
 |none::_,.cons ..,[],_,h,_,_,_|some _::_,.cons ..,[],_,h,_,_,_=>by cases h
theorem uj(hG:FOk X.P E.G)(h:RelX F s a w X){ks:List (Option TypeId)}{rs:Ty}{l:List AV}{y:rs.D}(hr:lZ E.G s.M ks rs l=some y){vs:List Value}(hl:vs.length=l.length)(hv:∀(i:Nat) φ v,l[i]?=some φ->vs[i]?=some v->φ.holds X w v/\φ.zg=false) :
  Y2 X.P F.O0 F.w0.heap.size w ks rs vs y:=(qX hG h hr hl hv).1
end
end Go.Den
end
noncomputable section
namespace Go.Den
open Go Go.RowKit Go.Eng Go.Lift
variable {α β γ δ:Type}
def Ye:(ps:Ty)->ps.D->Nat->LS
 |.cons p q,x,i=>(i,0,.rd p x.1)::Ye q x.2 (i+1)
 |_,_,_=>[]
def Zs:List AV->Bool
 | []=>true
 |φ::l=>!φ.zg && Zs l
def rtF(E:VE)(rk:List (Option TypeId))(rs:Ty)(l:List ResultVar)(s:S):Comp rs.D:=match lf E s l with
 |some m=>match Zs m,lZ E.G s.M rk rs m with
  |true,some y=>Comp.pure y
  |_,_=>Comp.fail
 |none=>Comp.fail
def UX(E:VE)(c:Code)(h:H)(l:List ResultVar)(ps rs:Ty)(rk:List (Option TypeId))(x:ps.D):Comp rs.D :=
 den E c rs.D h ⟨Ye ps x 0,[],1,0⟩ (rtF E rk rs l) (fun _ _=>Comp.fail) (rtF E rk rs l)
def Ty.len:Ty->Nat
 |.cons _ b=>b.len+1
 |_=>0
theorem Z1{P:Program}{O w}:∀ {t:Ty} {vs:List Value} {x:t.D},t.args P O w vs x->vs.length=t.len
 |.cons a b,vs,x,⟨v,vs',h,_,h2⟩=>by rw[h,zMY,Z1 h2];rfl
 |.nil,vs,x,h=>by rw[show vs=[] from h];rfl
 |.int _,_,_,h|.bool,_,_,h|.str,_,_,h|.sl _,_,_,h|.arr ..,_,_,h|.box ..,_,_,h|.fn ..,_,_,h|.seq ..,_,_,h|.slo ..,_,_,h|.mp ..,_,_,h=>h.elim
theorem Zz{P:Program}{O w}{X:Cx}(hP:X.P=P)(hO:X.O=O){a:Act}:∀ {t:Ty} {vs:List Value} {x:t.D} {i:Nat},t.args P O w vs x->(∀(j:Nat) v,vs[j]?=some v->a.get (i+j)=v)->∀ {u e},look (Ye t x i) u=some e->e.1=0/\e.2.holds X w (a.get u)
 |.cons p q,vs,x,i,⟨v,vs',h,h1,h2⟩,ha,u,e,he=>by
  rcases zC he with ⟨e1,e2⟩|⟨_,e2⟩
  ·subst e1 e2
   refine⟨rfl,?_⟩;have:=ha 0 v (by grind)
   rw[Nat.add_zero]at this;rw[this];show (p.gr X.P).v _ _ _ _
   grind
  ·exact Zz hP hO h2 (fun j v hj=>by have:=ha (j+1) v (by grind);grind) e2
 |.nil,_,_,_,_,_,_,_,he=>by cases he
 |.int _,_,_,_,h,_,_,_,_|.bool,_,_,_,h,_,_,_,_|.str,_,_,_,h,_,_,_,_|.sl _,_,_,_,h,_,_,_,_|.arr ..,_,_,_,h,_,_,_,_|.box ..,_,_,_,h,_,_,_,_|.fn ..,_,_,_,h,_,_,_,_|.seq ..,_,_,_,h,_,_,_,_|.slo ..,_,_,_,h,_,_,_,_|.mp ..,_,_,_,h,_,_,_,_=>h.elim
theorem Jf{E:VE}{s:S}{ep n:Nat}:∀ {l:List ResultVar} {m:List AV},lf E s l=some m->Zs m=true->lf E { s with ep:=ep,n:=n } l=some m
 | [],m,h,_=>h
 |r::l,m,h,hn=>by
  have rd:∀ {t:Nat} {φ:AV},rdO s.ep s.L [] [] (.tmp t)=some φ->φ.zg=false->rdO ep s.L [] [] (.tmp t)=some φ:=fun {t φ} h hf=>by
   grind [rdO,fresh]
  simp only[lf]at h |-;split at h
  ·rename_i φ m' h1 h2
   cases h
   simp only[Zs,zMQ]at hn;rw[Jf h2 hn.2];have:nu E { s with ep:=ep,n:=n } r=some φ:=by
    cases r with
    |tmp t=>exact rd h1 (by grind)
    |cell t T =>
     simp only[nu]at h1 |-
     cases hr:rdO s.ep s.L [] [] (.tmp t) with
     |none=>grind
     |some ψ =>
      rw[hr]at h1;cases ψ<;>first|(rw[rd hr rfl];exact h1)|cases h1
   grind
  ·cases h
theorem Bw{P:Program}{fn:Func}{R:Ending->World->Prop}{F:Frm}(sD:F.w0.heap.size<=F.x.sb){a:Act}{s:S}:∀(bs:List Nat) {q:Nat->Obj->Prop} {n ep:Nat} {w:World},Rel (F.sys q) { s with n:=n,ep:=ep } a w->bs.Nodup->(∀b∈bs,q b (.deferred (some []))) ->
  (∀q' n' ep' w',Rel (F.sys q') { s with n:=n',ep:=ep' } a w'->∃v,(results fn a.tmps).run P w'=.ok v w'/\R (.returned v) w')->LeavesInM Fence.wide 0 P fn a.tmps R (bs.map n4) .returning w
 | [],q,n,ep,w,h,_,_,hK=>hK _ _ _ _ h
 |b::bs,q,n,ep,w,⟨X,h⟩,hn,hb,hK=>by
  obtain⟨iD,iW⟩:=List.nodup_cons.1 hn;obtain⟨⟨h1,h2⟩,h3⟩:=h.ex.sys b _ (hb b (by simp))
  refine⟨by simp,.inl ⟨b,_,rfl,run_takeDeferred h1,?_⟩⟩
  have:=h.turn (o':=.deferred none) (q:=fun c o=>q c o/\c≠b) h2 (zMX sD h3) (zMp.1 h1).1 fun c o hc=>.inl ⟨hc.2,hc.1⟩
  exact Bw sD bs (q:=fun c o=>q c o/\c≠b) ⟨_,this⟩ iW (fun c hc=>⟨hb c (by grind),fun e=>iD (by grind)⟩) hK
theorem leaves{P:Program}{fn:Func}{R:Ending->World->Prop}{F F':Frm}(hT:F.To F')(hD:F.D=[])(hs:∀b o,¬F.x.sys b o)(sD:F.w0.heap.size<=F.x.sb){a:Act}{s:S}{w:World}(h:Rel F' s a w)
  (hK:∀q' n' ep' w',Rel (F'.sys q') { s with n:=n',ep:=ep' } a w'->∃v,(results fn a.tmps).run P w'=.ok v w'/\R (.returned v) w'):LeavesInM Fence.wide 0 P fn a.tmps R a.defers .returning w:=by
 obtain⟨bs,h1,h2,h3⟩:=hT.marks hD hs;have bM:=hT.same
 have hd:a.defers=bs.map n4:=by obtain⟨X,hX⟩:=h;rw[hX.fit.defers];exact h1
 rw[hd];exact Bw (F:=F') (s:=s) (q:=F'.x.sys) (n:=s.n) (ep:=s.ep) (by rw[bM.w0,bM.sb];exact sD) bs h h2 (fun b hb=>(h3 b _).2 ⟨hb,rfl⟩) hK
theorem kX:∀ {l:List AV},Zs l=true->∀φ∈l,φ.zg=false
 | [],_,φ,h=>by cases h
 |ψ::l,h,φ,hm=>by
  simp only[Zs,zMQ]at h;rcases zMU.1 hm with rfl|hm
  ·grind
  ·exact kX h.2 φ hm
theorem zBo{P:Program}{E:VE}(hE:E.ok P)(hm:P.follows .mixedOrders=true){f:FuncId}{fn:Func}{c:Code}{h:H}{fs:FS}(hF:FnOk P f)(hf:P.funcs[f]?=some fn)(hb:fn.body=some c)(hc:okC fn.ntmps c=true)(hl:Nat.ble fs.ps.len fn.ntmps=true)
  (hs:∀x,UX E c h fn.results.toList fs.ps fs.rs fs.rk x=fs.sem x):fs.ok P f:=by
 refine⟨hF,fun O w hO vs x ha n y hy=>?_⟩
 rw[<-hs x]at hy;have fL:=ki vs.toArray fn.ntmps (by have:=Z1 ha;simp_all)
 have fC:∀(j:Nat) v,vs[j]?=some v->Act.get { tmps:=vs.toArray++Array.replicate (fn.ntmps-vs.toArray.size) undef,defers:=[] } j=v:=fun j v hj=>kh (by grind)
 refine callsIn_wide.1 (callsIn_of_wp_marks (n:=0) hf hb trivial ?_);generalize ({ tmps:=vs.toArray++Array.replicate (fn.ntmps-vs.toArray.size) undef,defers:=[] }:Act)=a at fL fC |-
 let F:Frm:=⟨P,fn.ntmps,[],Go.Lift.Fr w,O,w,fun _ _=>False,0,[],FrX.no 1 O w⟩
 let X:Cx:=⟨P,O,fun _=>.nilIface,1,fun k=>k,Go.Lift.Fr w,Go.Lift.Fr w,0,0⟩
 have hR:Rel F ⟨Ye fs.ps x 0,[],1,0⟩ a w:=by
  have fW:=fun {u e}=>Zz (X:=X) (a:=a) (i:=0) rfl rfl ha (fun j v hj=>by grind) (u:=u) (e:=e)
  refine⟨X,rfl,rfl,rfl,rfl,rfl,hO,fL,Base.start hO,fun t e he _=>(fW he).2,fun k e he=>(nomatch he),fun t e he=>(by grind),fun k e he=>(nomatch he),fun k k' e e' he=>(nomatch he),fun k e he=>(nomatch he),Nat.zero_le _,Nat.zero_lt_one,fun _ _ h=>h.elim,⟨Nat.zero_le _,fun j b hj=>(nomatch hj)⟩,Exx.no Nat.one_ne_zero rfl⟩
 have xF:∀F' s' a' w',F.To F'->Rel F' s' a' w'->(rtF E fs.rk fs.rs fn.results.toList s').run n=some y->LeavesInM Fence.wide 0 P fn a'.tmps (fun e w'=>∃v,e=.returned v/\Ext w w'/\∃rs,kU rs v/\Y2 P O w.heap.size w' fs.rk fs.rs rs y) a'.defers .returning w':=by
  intro F' s' a' w' hT h' hr;refine leaves hT rfl (fun _ _ h=>h) (zMS _) h' fun q n' ep' w' hX'=>?_
  obtain⟨X',hX'⟩:=hX';have hs:=hT.same
  have hP:X'.P=P:=hX'.P.trans hs.P;have hE':E.ok X'.P:=by grind
  unfold rtF at hr;split at hr
  ·rename_i m hm'
   split at hr
   ·rename_i y' tW hy'
    have e:=run_pure hr;subst e;obtain⟨vs',g1,g2,g3⟩:=Xm hE' hX' (Jf hm' tW);obtain⟨v,g4,g5⟩:=kg g1;rw[hP]at g4;refine⟨v,g4,v,rfl,?_,vs',g5,?_⟩
    ·have:=hX'.base
     change Base F'.A F'.O0 F'.w0 _ _ at this
     rw[hs.A,hs.O0,hs.w0]at this;exact this.ext
    ·have:=uj hE'.G hX' hy' g2 fun i φ u hi hu=>⟨g3 i φ u hi hu,kX tW φ (zMV hi)⟩
     change Y2 _ F'.O0 F'.w0.heap.size _ _ _ _ _ at this
     rwa[hP,hs.O0,hs.w0]at this
   ·cases hr
  ·cases hr
 exact Ym c (F:=F) hm (fun _ _ h=>h) hE hc (.inl ⟨rfl,rfl⟩) rfl hR (Inv.refl _) hy ⟨fun F' s' a' w' h0 h1 _ h2=>xF F' s' a' w' h0 h1 h2,fun i _ F' s' a' w' _ _ _ h2=>(nomatch h2),fun F' s' a' w' h0 h1 _ h2=>xF F' s' a' w' h0 h1 h2,fun F' s' a' _ w' _ _ _ h2=>(nomatch h2)⟩
def Jk:List (Option TypeId)->(ps:Ty)->ps.D->Nat->Nat->LS×MS
 |some T::io,.cons (.box e) q,x,i,j=>((i,0,.bx j 0)::(Jk io q x.2 (i+1) (j+1)).1,(j,0,.bx false (.rd e x.1) T)::(Jk io q x.2 (i+1) (j+1)).2)
 |none::io,.cons a q,x,i,j=>((i,0,.rd a x.1)::(Jk io q x.2 (i+1) j).1,(Jk io q x.2 (i+1) j).2)
 |_,_,_,_,_=>([],[])
def nbx:List (Option TypeId)->Nat
 | []=>0
 |some _::io=>nbx io+1
 |none::io=>nbx io
def uV(G:FE)(M Mf:MS):(io:List (Option TypeId))->(ps:Ty)->Nat->Option (ioT io ps).D
 |some T::io,.cons (.box e) q,j=>match look M j with
  |some (_,.bx _ c T')=>match Nat.beq T T',c.asT G Mf e,uV G M Mf io q (j+1) with
   |true,some x,some y=>some (x,y)
   |_,_,_=>none
  |_=>none
 |none::io,.cons _ q,j=>uV G M Mf io q j
 | [],.nil,_=>some ()
 |_,_,_=>none
def zBb:Ty->List (Option TypeId)
 |.cons _ b=>none::zBb b
 |_=>[]
def rtM(E:VE)(io:List (Option TypeId))(ps rs:Ty)(l:List ResultVar)(s:S):Comp ((ioT io ps).D×rs.D):=match lf E s l with
 |some m=>match Zs m,lZ E.G s.M (zBb rs) rs m,uV E.G s.M (frz s.M) io ps 0 with
  |true,some y,some x=>Comp.pure (x,y)
  |_,_,_=>Comp.fail
 |none=>Comp.fail
def SM(E:VE)(c:Code)(h:H)(l:List ResultVar)(ps:Ty)(io:List (Option TypeId))(rs:Ty)(x:ps.D):Comp ((ioT io ps).D×rs.D) :=
 den E c ((ioT io ps).D×rs.D) h ⟨(Jk io ps x 0 0).1,(Jk io ps x 0 0).2,nbx io+1,0⟩ (rtM E io ps rs l) (fun _ _=>Comp.fail) (rtM E io ps rs l)
structure Start(P:Program)(O:zQ)(w:World)(bl:List Nat)(X:Cx)(n:Nat):Prop where
 U:∀(j:Nat) b,bl[j]?=some b->X.U j=.pointer (some ⟨b,0,none⟩)/\X.ι j=O b
 A:∀b∈bl,X.A b
 n:X.n=n
 P:X.P=P
 O:X.O=O
theorem MIn.len{P:Program}{O:zQ}{w:World}:∀ {io:List (Option TypeId)} {ps:Ty} {bl:List Nat} {vs:List Value} {x:ps.D},MIn P O w io ps bl vs x ->
  bl.length=nbx io/\(∀b∈bl,O b≠0/\b<w.heap.size)/\vs.length=ps.len/\bl.Pairwise (fun b c=>O c≠O b):=by
 intro io
 induction io with
 |nil =>
  intro ps bl vs x h;cases ps<;>first|exact h.elim|skip
  obtain⟨rfl,rfl⟩:=h;exact⟨rfl,by simp,rfl,.nil⟩
 |cons o io ih =>
  intro ps bl vs x h
  cases ps with
  |cons p q =>
   cases o with
   |none =>
    obtain⟨v,vs',rfl,h1,h2⟩:=h;obtain⟨g1,g2,g3,g4⟩:=ih h2;exact⟨g1,g2,by grind [Ty.len],g4⟩
   |some T =>
    cases p with
    |box e =>
     obtain⟨b,bl',vs',cs,rfl,rfl,h1,h2,h3,h4,h5⟩:=h;obtain⟨g1,g2,g3,g4⟩:=ih h5;refine⟨by grind [nbx],fun c hc=>?_,by grind [Ty.len],.cons h3 g4⟩
     rcases zMU.1 hc with rfl|hc
     ·obtain⟨fr,h6,_⟩:=h1
      grind
     grind
    |_=>exact h.elim
  |_=>cases o<;>exact h.elim
theorem QX{P:Program}{O:zQ}{w:World}{all:List Nat}{X:Cx}{n:Nat}(hs:Start P O w all X n)(hn:all.length<=n){a:Act}:∀ {io:List (Option TypeId)} {ps:Ty} {bl:List Nat} {vs:List Value} {x:ps.D} {i j:Nat},MIn P O w io ps bl vs x->(∀k,all[j+k]?=bl[k]?)->(∀(k:Nat) v,vs[k]?=some v->a.get (i+k)=v) ->
  (∀ {t e},look (Jk io ps x i j).1 t=some e->e.1=0/\e.2.holds X w (a.get t))/\(∀ {k e},look (Jk io ps x i j).2 k=some e->e.1=0/\j<=k/\k<j+bl.length/\e.2.holds X w k):=by
 intro io
 induction io with
 |nil =>
  intro ps bl vs x i j h hb hv;cases ps<;>first|exact h.elim|skip
  obtain⟨rfl,rfl⟩:=h;exact⟨fun {t e} he=>(nomatch he),fun {k e} he=>(nomatch he)⟩
 |cons o io ih =>
  intro ps bl vs x i j h hb hv
  cases ps with
  |cons p q =>
   cases o with
   |none =>
    obtain⟨v,vs',rfl,h1,h2⟩:=h;obtain⟨g1,g2⟩:=ih (i:=i+1) h2 hb (fun k u hk=>by rw[show i+1+k=i+(k+1) by omega];exact hv (k+1) u (by grind))
    refine⟨fun {t e} he=>?_,fun {k e} he=>g2 he⟩
    rcases zC he with ⟨rfl,rfl⟩|⟨_,he⟩
    ·refine⟨rfl,?_⟩
     have:=hv 0 v rfl;rw[Nat.add_zero]at this;rw[this];show (p.gr X.P).v X.O w v x.1
     rw[hs.P,hs.O];exact h1
    grind
   |some T =>
    cases p with
    |box e =>
     obtain⟨b,bl',vs',cs,rfl,rfl,h1,h2,h3,h4,h5⟩:=h;obtain⟨g1,g2⟩:=ih (i:=i+1) (j:=j+1) h5 (fun k=>by rw[show j+1+k=j+(k+1) by omega,hb (k+1)];rfl) (fun k u hk=>by rw[show i+1+k=i+(k+1) by omega];exact hv (k+1) u (by grind))
     have hj:all[j]?=some b:=by have:=hb 0;grind
     obtain⟨k1,k2⟩:=hs.U j b hj;have hjn:j<X.n:=by rw[hs.n];grind
     refine⟨fun {t f} he=>?_,fun {k f} he=>?_⟩
     ·rcases zC he with ⟨rfl,rfl⟩|⟨_,he⟩
      ·refine⟨rfl,?_⟩
       have:=hv 0 _ rfl;rw[Nat.add_zero]at this;rw[this];exact⟨hjn,b,k1,rfl⟩
      grind
     ·rcases zC he with ⟨rfl,rfl⟩|⟨_,he⟩
      ·refine⟨rfl,zMS _,by simp,b,cs,k1,⟨h1,?_,?_⟩,?_,rfl⟩
       ·exact hs.A b (zMV hj)
       ·rw[hs.O];omega
       ·show (e.gr X.P).rel X.O w cs.toList x.1
        rw[hs.P,hs.O];exact h4
      grind
    |_=>exact h.elim
  |_=>cases o<;>exact h.elim
theorem Vu{G:FE}{M Mf:MS}{T:TypeId}{io:List (Option TypeId)}{e q:Ty}{j:Nat}:uV G M Mf (some T::io) (.cons (.box e) q) j=(match look M j with
  |some (_,.bx _ c T')=>match Nat.beq T T',c.asT G Mf e,uV G M Mf io q (j+1) with
   |true,some x,some y=>some (x,y)
   |_,_,_=>none
  |_=>none):=rfl
theorem N5{G:FE}{M Mf:MS}{T:TypeId}{io:List (Option TypeId)}{e q:Ty}{j:Nat}{r:Option (ioT (some T::io) (.cons (.box e) q)).D}(h0:uV G M Mf (some T::io) (.cons (.box e) q) j=r){y:e.D×(ioT io q).D}(hr:r=some y) :
  ∃st nw c,look M j=some (st,.bx nw c T)/\c.asT G Mf e=some y.1/\uV G M Mf io q (j+1)=some y.2:=by
 grind [Vu,zMP]
section
variable {F:Frm} {s:S} {a:Act} {w:World} {X:Cx} {E:VE}
theorem Vt(hG:FOk X.P E.G)(h:RelX F s a w X){all:List Nat}(hU:∀(j:Nat) b,all[j]?=some b->X.U j=.pointer (some ⟨b,0,none⟩)):∀ {io:List (Option TypeId)} {ps:Ty} {bl:List Nat} {w0:World} {vs:List Value} {x:ps.D} {j:Nat} {y:(ioT io ps).D},MIn X.P F.O0 w0 io ps bl vs x->(∀k,all[j+k]?=bl[k]?)->uV E.G s.M (frz s.M) io ps j=some y->EW X.P F.O0 w io ps bl y:=by
 intro io
 induction io with
 |nil =>
  intro ps bl w0 vs x j y h0 hb hy;cases ps<;>first|exact h0.elim|skip
  exact h0.1
 |cons o io ih =>
  intro ps bl w0 vs x j y h0 hb hy
  cases ps with
  |cons p q =>
   cases o with
   |none =>
    obtain⟨v,vs',rfl,h1,h2⟩:=h0;exact ih h2 hb hy
   |some T =>
    cases p with
    |box e =>
     obtain⟨b,bl',vs',cs,rfl,rfl,h1,h2,h3,h4,h5⟩:=h0;obtain⟨st,nw,c,hk,hc,hr⟩:=N5 rfl hy;obtain⟨b',cs',k1,k2,k3,k4⟩:=h.m j _ hk;have hj:all[j]?=some b:=by have:=hb 0;grind
     rw[hU j b hj]at k1;simp only[Value.pointer.injEq,zMn,Addr.mk.injEq,and_true]at k1;subst k1;refine⟨b,bl',cs',rfl,k2.own,?_,ih h5 (fun k=>by rw[show j+1+k=j+(k+1) by omega,hb (k+1)];rfl) hr⟩
     have aY:=(c.mono h.q7 fun hf=>zMg hf (by grind)).2.2 _ k3
     exact(AV.jU (X:=X.out F) hG c h.IH).vc hc aY
    |_=>exact h0.elim
  |_=>cases o<;>exact h0.elim
end
theorem zEy{P:Program}{E:VE}(hE:E.ok P)(hm:P.follows .mixedOrders=true){f:FuncId}{fn:Func}{c:Code}{h:H}{fs:FM}(hF:FnOk P f)(hf:P.funcs[f]?=some fn)(hb:fn.body=some c)(hc:okC fn.ntmps c=true)(hl:Nat.ble fs.ps.len fn.ntmps=true)
  (hs:∀x,SM E c h fn.results.toList fs.ps fs.io fs.rs x=fs.sem x):fs.ok P f:=by
 refine⟨hF,fun O w hO bl vs x ha n y hy=>?_⟩
 rw[<-hs x]at hy;refine callsIn_wide.1 (callsIn_of_wp_marks (n:=0) hf hb trivial ?_);obtain⟨st,iX,dC⟩:∃st,st≠0/\∀b∈bl,O b≠st:=⟨1+(bl.map O).sum,by omega,fun b hb=>by have:=uK (l:=bl.map O) (x:=O b) (List.mem_map.2 ⟨b,hb,rfl⟩);omega⟩
 let F:Frm:=⟨P,fn.ntmps,[],fun b=>w.heap.size<=b\/b∈bl,O,w,fun _ _=>False,0,bl,FrX.no st O w⟩
 let X:Cx:=⟨P,O,fun j=>match bl[j]? with|some b=>.pointer (some ⟨b,0,none⟩)|none=>.nilIface,nbx fs.io+1,fun j=>match bl[j]? with|some b=>O b|none=>0,fun b=>w.heap.size<=b\/b∈bl,Go.Lift.Fr w,0,0⟩
 have f8:Start P O w bl X (nbx fs.io+1):=⟨fun j b hj=>by grind,fun b hb=>.inr hb,rfl,rfl,rfl⟩
 obtain⟨oZ,hblO,sT,hpw⟩:=ha.len;have fL:=ki vs.toArray fn.ntmps (by simp_all)
 have fC:∀(j:Nat) v,vs[j]?=some v->Act.get { tmps:=vs.toArray++Array.replicate (fn.ntmps-vs.toArray.size) undef,defers:=[] } j=v:=fun j v hj=>kh (by grind)
 generalize ({ tmps:=vs.toArray++Array.replicate (fn.ntmps-vs.toArray.size) undef,defers:=[] }:Act)=a at fL fC |-;have fW:=QX (a:=a) (i:=0) (j:=0) f8 (by omega) ha (fun k=>by grind) (fun j v hj=>by grind)
 have hι:∀k e,look (Jk fs.io fs.ps x 0 0).2 k=some e->∃b,bl[k]?=some b/\X.ι k=O b:=fun k e he=>by
  obtain⟨_,_,h2,_⟩:=fW.2 he;have:k<bl.length:=by omega
  exact⟨bl[k],by grind,(f8.U k bl[k] (by grind)).2⟩
 have hR:Rel F ⟨(Jk fs.io fs.ps x 0 0).1,(Jk fs.io fs.ps x 0 0).2,nbx fs.io+1,0⟩ a w:=by
  refine⟨X,rfl,rfl,rfl,rfl,rfl,hO,fL,⟨rfl,rfl,rfl,zMS _,fun _ _ _=>rfl,hO,fun _ _ _=>rfl,fun _ _ h=>h,fun b hb=>.inl hb⟩,fun t e he _=>(fW.1 he).2,fun k e he=>(fW.2 he).2.2.2,fun t e he=>(by grind),fun k e he=>(by grind),fun k k' e e' he he' _ _ fV=>?_,fun k e he _=>?_,Nat.zero_le _,Nat.succ_pos _,fun _ _ h=>h.elim,⟨show bl.length<=nbx fs.io+1 by omega,fun j b hj=>(f8.U j b hj).1⟩,Exx.no iX rfl⟩
  ·grind [List.pairwise_iff_getElem]
  ·obtain⟨b,h1,h2⟩:=hι k e he
   rw[h2];exact⟨(hblO b (zMV h1)).1,dC b (zMV h1)⟩
 have xF:∀F' s' a' w',F.To F'->Rel F' s' a' w'->(rtM E fs.io fs.ps fs.rs fn.results.toList s').run n=some y->LeavesInM Fence.wide 0 P fn a'.tmps (fun e w'=>∃v rs,e=.returned v/\kU rs v/\fs.rs.args P O w' rs y.2/\ButL bl w w'/\EW P O w' fs.io fs.ps bl y.1) a'.defers .returning w':=by
  intro F' s' a' w' hT h' hr;refine leaves hT rfl (fun _ _ h=>h) (zMS _) h' fun q n' ep' w' hX'=>?_
  obtain⟨X',hX'⟩:=hX';have hs:=hT.same
  have hP:X'.P=P:=hX'.P.trans hs.P;have hE':E.ok X'.P:=by grind
  unfold rtM at hr;split at hr
  ·rename_i m hm'
   split at hr
   ·rename_i y' x' tW hy' hx'
    have e:=run_pure hr;subst e;obtain⟨vs',g1,g2,g3⟩:=Xm hE' hX' (Jf hm' tW);obtain⟨v,g4,g5⟩:=kg g1;rw[hP]at g4;have hB:=hX'.base
    change Base F'.A F'.O0 F'.w0 _ _ at hB
    rw[hs.A,hs.O0,hs.w0]at hB;have tS:=uj hE'.G hX' hy' g2 fun i φ u hi hu=>⟨g3 i φ u hi hu,kX tW φ (zMV hi)⟩
    change Y2 _ F'.O0 F'.w0.heap.size _ _ _ _ _ at tS
    rw[hP,hs.O0,hs.w0]at tS;refine⟨v,g4,v,vs',rfl,g5,XL (O:=O) (B:=w.heap.size) (fun b hb=>hO b hb) tS,⟨hB.os,hB.tape,hB.output,hB.size,fun b hb hn=>hB.block b hb fun hA=>hA.elim (fun h=>zMg h (Nat.not_le.2 hb)) hn⟩,?_⟩
    have hU:∀(j:Nat) b,bl[j]?=some b->X'.U j=.pointer (some ⟨b,0,none⟩):=by
     have:=hX'.bl.2
     change ∀(j:Nat) b,F'.bl[j]?=some b->_ at this
     rw[hs.bl]at this;omega
    have:=Vt (E:=E) hE'.G hX' hU (io:=fs.io) (ps:=fs.ps) (bl:=bl) (w0:=w) (vs:=vs) (x:=x) (j:=0) (by rw[hP];show MIn P F'.O0 w fs.io fs.ps bl vs x;rw[hs.O0];exact ha) (fun k=>by grind) hx'
    change EW _ F'.O0 _ _ _ _ _ at this
    rwa[hP,hs.O0]at this
   ·cases hr
  ·cases hr
 exact Ym c (F:=F) hm (fun _ _ h=>h) hE hc (.inl ⟨rfl,rfl⟩) rfl hR (Inv.refl _) hy ⟨fun F' s' a' w' h0 h1 _ h2=>xF F' s' a' w' h0 h1 h2,fun i _ F' s' a' w' _ _ _ h2=>(nomatch h2),fun F' s' a' w' h0 h1 _ h2=>xF F' s' a' w' h0 h1 h2,fun F' s' a' _ w' _ _ _ h2=>(nomatch h2)⟩
def rtO(E:VE)(e:Ty)(T:TypeId)(l:List ResultVar)(s:S):Comp (List e.D):=match lf E s l with
 |some [φ]=>match Xt s.M φ with
  |some p=>match Nat.beq p.2.2.1 T,zFf p.2.2.2.2 (.sl e) with
   |true,some ys=>Comp.pure ys
   |_,_=>Comp.fail
  |none=>Comp.fail
 |_=>Comp.fail
def SJ(E:VE)(c:Code)(h:H)(l:List ResultVar)(e:Ty)(T:TypeId)(ps:Ty)(xs:List e.D)(z:ps.D):Comp (List e.D) :=
 den E c (List e.D) h ⟨(0,0,.ob 0)::Ye ps z 1,[(0,0,.sl false e T xs)],1,0⟩ (rtO E e T l) (fun _ _=>Comp.fail) (rtO E e T l)
theorem zEw{P:Program}{E:VE}(hE:E.ok P)(hm:P.follows .mixedOrders=true){f:FuncId}{fn:Func}{c:Code}{h:H}{fs:FO}(hF:FnOk P f)(hf:P.funcs[f]?=some fn)(hb:fn.body=some c)(hc:okC fn.ntmps c=true)(hl:Nat.ble (fs.ps.len+1) fn.ntmps=true)(xA:fs.ret=true)
  (hs:∀xs z,SJ E c h fn.results.toList fs.e fs.T fs.ps xs z=fs.sem xs z):fs.ok P f:=by
 refine⟨hF,fun O w hO u xs ha vs z hz n ys hy=>?_⟩
 rw[<-hs xs z]at hy;obtain⟨O',hB,hOw,sM⟩:=Nn hO ha;have hz':=fs.ps.wb P sM hz
 have sT:=Z1 hz;refine callsIn_wide.1 (callsIn_of_wp_marks (n:=0) hf hb trivial ?_);have fL:=ki (u::vs).toArray fn.ntmps (by simp_all)
 have fC:∀(j:Nat) v,(u::vs)[j]?=some v->Act.get { tmps:=(u::vs).toArray++Array.replicate (fn.ntmps-(u::vs).toArray.size) undef,defers:=[] } j=v:=fun j v hj=>kh (by grind)
 generalize ({ tmps:=(u::vs).toArray++Array.replicate (fn.ntmps-(u::vs).toArray.size) undef,defers:=[] }:Act)=a at fL fC |-
 let F:Frm:=⟨P,fn.ntmps,[],FrS w u,O,w,fun _ _=>False,0,[],FrX.no 2 O' w⟩
 let X:Cx:=⟨P,O',fun _=>u,1,fun _=>1,FrS w u,Go.Lift.Fr w,0,0⟩
 have fW:=fun {t e}=>Zz (X:=X) (a:=a) (i:=1) rfl rfl hz' (fun j v hj=>by grind) (u:=t) (e:=e)
 have hR:Rel F ⟨(0,0,.ob 0)::Ye fs.ps z 1,[(0,0,.sl false fs.e fs.T xs)],1,0⟩ a w:=by
  refine⟨X,rfl,rfl,rfl,rfl,rfl,hO,fL,hB,fun t e he _=>?_,fun k e he=>?_,fun t e he=>?_,fun k e he=>?_,fun k k' e e' he he' _ _ _=>?_,fun k e he _=>⟨Nat.one_ne_zero,show 1≠2 by decide⟩,Nat.zero_le _,Nat.zero_lt_one,fun _ _ h=>h.elim,⟨Nat.zero_le _,fun j b hj=>(nomatch hj)⟩,Exx.no (show 2≠0 by decide) rfl⟩
  ·rcases zC he with ⟨rfl,rfl⟩|⟨_,he⟩
   ·have hg:a.get 0=u:=fC 0 u rfl
    rw[hg];exact⟨rfl,Nat.zero_lt_one,ZG hOw⟩
   grind
  ·rcases zC he with ⟨rfl,rfl⟩|⟨_,he⟩
   ·exact hOw
   ·cases he
  ·rcases zC he with ⟨rfl,rfl⟩|⟨_,he⟩
   ·grind
   grind
  ·rcases zC he with ⟨rfl,rfl⟩|⟨_,he⟩
   ·grind
   ·cases he
  ·rcases zC he with ⟨rfl,rfl⟩|⟨_,he⟩
   ·rcases zC he' with ⟨rfl,rfl⟩|⟨_,he'⟩
    ·rfl
    ·cases he'
   ·cases he
 have xF:∀F' s' a' w',F.To F'->Rel F' s' a' w'->(rtO E fs.e fs.T fn.results.toList s').run n=some ys->LeavesInM Fence.wide 0 P fn a'.tmps (AY (fs.e.gr P) fs.T O w u ys (zFh fs.ret u)) a'.defers .returning w':=by
  intro F' s' a' w' hT h' hr;refine leaves hT rfl (fun _ _ h=>h) (zMS _) h' fun q n' ep' w' hX'=>?_
  obtain⟨X',hX'⟩:=hX';have hs:=hT.same
  have hP:X'.P=P:=hX'.P.trans hs.P;have hE':E.ok X'.P:=by grind
  unfold rtO at hr;split at hr
  ·rename_i φ hm'
   split at hr
   ·rename_i p hp
    split at hr
    ·rename_i ys' hT2 sS
     have e:=run_pure hr;subst e;have tW:Zs [φ]=true:=by
      unfold Xt at hp;split at hp
      ·rfl
      ·cases hp
     obtain⟨vs',g1,g2,g3⟩:=Xm hE' hX' (Jf hm' tW);obtain⟨v,g4,g5⟩:=kg g1;rw[hP]at g4;refine⟨v,g4,?_⟩
     match vs',g2 with
     | [v1],_ =>
      have hv:v=v1:=by
       rcases g5 with g5|g5
       ·cases g5
       ·exact g5
      subst hv;have k1:=g3 0 φ v rfl rfl
      obtain⟨e0,f1,f2,f3,f4⟩:=uF hX'.m k1 hp;obtain⟨ee,ee2⟩:=Ty.jO sS;rw[zMP hT2]at f3;have f5:=Bh ee ee2 f3
      rw[hP]at f5;have fE:=hX'.pos p.1 e0 f1 (by rw[f2];rfl)
      have hB:=hX'.base;have tU:=(hX'.okB p.2.1).sub
      change Base F'.A F'.O0 F'.w0 _ _ at hB
      change ∀g,_->F'.A g at tU
      rw[hs.A,hs.O0,hs.w0]at hB;rw[hs.A]at tU;refine Vc hB (zq.zIt f5 fun g hg=>tU g hg) fE.1 ?_
      rw[xA];exact rfl
    ·cases hr
   ·cases hr
  ·cases hr
 exact Ym c (F:=F) hm (fun _ _ h=>h) hE hc (.inl ⟨rfl,rfl⟩) rfl hR (Inv.refl _) hy ⟨fun F' s' a' w' h0 h1 _ h2=>xF F' s' a' w' h0 h1 h2,fun i _ F' s' a' w' _ _ _ h2=>(nomatch h2),fun F' s' a' w' h0 h1 _ h2=>xF F' s' a' w' h0 h1 h2,fun F' s' a' _ w' _ _ _ h2=>(nomatch h2)⟩
def SK(E:VE)(c:Code)(h:H)(l:List ResultVar)(ps rs:Ty)(rk:List (Option TypeId))(x:ps.D):Comp rs.D :=
 den E c rs.D h ⟨(0,0,.ex (.slice none 0 0))::Ye ps x 1,[],1,0⟩ (rtF E rk rs l) (fun _ _=>Comp.fail) (rtF E rk rs l)
theorem zEx{P:Program}{E:VE}(hE:E.ok P)(hm:P.follows .mixedOrders=true){f:FuncId}{fn:Func}{c:Code}{h:H}{fs:FS}(hF:FnOk P f)(hf:P.funcs[f]?=some fn)(hb:fn.body=some c)(hc:okC fn.ntmps c=true)(hl:Nat.ble (fs.ps.len+1) fn.ntmps=true)
  (hs:∀x,SK E c h fn.results.toList fs.ps fs.rs fs.rk x=fs.sem x):fs.okN P f:=by
 refine⟨hF,fun O w hO vs x ha n y hy=>?_⟩
 rw[<-hs x]at hy;have fL:=ki (.slice none 0 0::vs).toArray fn.ntmps (by have:=Z1 ha;simp_all)
 have fC:∀(j:Nat) v,(Value.slice none 0 0::vs)[j]?=some v->Act.get { tmps:=(Value.slice none 0 0::vs).toArray++Array.replicate (fn.ntmps-(Value.slice none 0 0::vs).toArray.size) undef,defers:=[] } j=v:=fun j v hj=>kh (by grind)
 refine callsIn_wide.1 (callsIn_of_wp_marks (n:=0) hf hb trivial ?_);generalize ({ tmps:=(Value.slice none 0 0::vs).toArray++Array.replicate (fn.ntmps-(Value.slice none 0 0::vs).toArray.size) undef,defers:=[] }:Act)=a at fL fC |-
 let F:Frm:=⟨P,fn.ntmps,[],Go.Lift.Fr w,O,w,fun _ _=>False,0,[],FrX.no 1 O w⟩
 let X:Cx:=⟨P,O,fun _=>.nilIface,1,fun k=>k,Go.Lift.Fr w,Go.Lift.Fr w,0,0⟩
 have hR:Rel F ⟨(0,0,.ex (.slice none 0 0))::Ye fs.ps x 1,[],1,0⟩ a w:=by
  have fW:=fun {u e}=>Zz (X:=X) (a:=a) (i:=1) rfl rfl ha (fun j v hj=>by grind) (u:=u) (e:=e)
  refine⟨X,rfl,rfl,rfl,rfl,rfl,hO,fL,Base.start hO,fun t e he _=>(by rcases zC he with ⟨rfl,rfl⟩|⟨_,he⟩;exact fC 0 _ (by simp);grind),fun k e he=>(nomatch he),fun t e he=>(by rcases zC he with ⟨rfl,rfl⟩|⟨_,he⟩;exact Nat.zero_lt_one;grind),fun k e he=>(nomatch he),fun k k' e e' he=>(nomatch he),fun k e he=>(nomatch he),Nat.zero_le _,Nat.zero_lt_one,fun _ _ h=>h.elim,⟨Nat.zero_le _,fun j b hj=>(nomatch hj)⟩,Exx.no Nat.one_ne_zero rfl⟩
 have xF:∀F' s' a' w',F.To F'->Rel F' s' a' w'->(rtF E fs.rk fs.rs fn.results.toList s').run n=some y->LeavesInM Fence.wide 0 P fn a'.tmps (fun e w'=>∃v,e=.returned v/\Ext w w'/\∃rs,kU rs v/\Y2 P O w.heap.size w' fs.rk fs.rs rs y) a'.defers .returning w':=by
  intro F' s' a' w' hT h' hr;refine leaves hT rfl (fun _ _ h=>h) (zMS _) h' fun q n' ep' w' hX'=>?_
  obtain⟨X',hX'⟩:=hX';have hs:=hT.same
  have hP:X'.P=P:=hX'.P.trans hs.P;have hE':E.ok X'.P:=by grind
  unfold rtF at hr;split at hr
  ·rename_i m hm'
   split at hr
   ·rename_i y' tW hy'
    have e:=run_pure hr;subst e;obtain⟨vs',g1,g2,g3⟩:=Xm hE' hX' (Jf hm' tW);obtain⟨v,g4,g5⟩:=kg g1;rw[hP]at g4;refine⟨v,g4,v,rfl,?_,vs',g5,?_⟩
    ·have:=hX'.base
     change Base F'.A F'.O0 F'.w0 _ _ at this
     rw[hs.A,hs.O0,hs.w0]at this;exact this.ext
    ·have:=uj hE'.G hX' hy' g2 fun i φ u hi hu=>⟨g3 i φ u hi hu,kX tW φ (zMV hi)⟩
     change Y2 _ F'.O0 F'.w0.heap.size _ _ _ _ _ at this
     rwa[hP,hs.O0,hs.w0]at this
   ·cases hr
  ·cases hr
 exact Ym c (F:=F) hm (fun _ _ h=>h) hE hc (.inl ⟨rfl,rfl⟩) rfl hR (Inv.refl _) hy ⟨fun F' s' a' w' h0 h1 _ h2=>xF F' s' a' w' h0 h1 h2,fun i _ F' s' a' w' _ _ _ h2=>(nomatch h2),fun F' s' a' w' h0 h1 _ h2=>xF F' s' a' w' h0 h1 h2,fun F' s' a' _ w' _ _ _ h2=>(nomatch h2)⟩
end Go.Den
end
noncomputable section
namespace Go.Den
open Go Go.RowKit Go.Eng Go.Lift
variable {α β γ δ σ ε τ:Type}
def tell(ys:List τ)(c:Comp (List τ×β)):Comp (List τ×β):=c.bind fun p=>Comp.pure (ys++p.1,p.2)
theorem BS{ys zs:List τ}{c:Comp (List τ×β)}{n:Nat}{y:β}(h:(tell ys c).run n=some (zs,y)):∃zs',c.run n=some (zs',y)/\zs=ys++zs':=by
 obtain⟨p,h1,h2⟩:=run_bind h;have:=run_pure h2
 grind
def ZK(body:σ->Comp (List τ×Comp.Step σ ε))(n:Nat):Nat->σ->Option (List τ×ε)
 |0,_=>none
 |k+1,s=>match (body s).run n with
  |none=>none
  |some (ys,.next s')=>match ZK body n k s' with
   |some p=>some (ys++p.1,p.2)
   |none=>none
  |some (ys,.done e)=>some (ys,e)
theorem w6{body:σ->Comp (List τ×Comp.Step σ ε)}{n m:Nat}(xP:n<=m):∀ {k l:Nat} {s:σ} {e:List τ×ε},k<=l->ZK body n k s=some e->ZK body m l s=some e:=by
 intro k
 induction k with
 |zero=>intro l s e _ h;cases h
 |succ k ih =>
  intro l s e cI h;obtain⟨l,rfl⟩:∃l',l=l'+1:=⟨l-1,by omega⟩
  simp only[ZK]at h |-
  cases hb:(body s).run n with
  |none=>grind
  |some x =>
   rw[(body s).mono xP hb];grind
def YA(body:σ->Comp (List τ×Comp.Step σ ε))(s:σ):Comp (List τ×ε):=⟨fun n=>ZK body n n s,fun xP h=>w6 xP xP h⟩
theorem Aq{body:σ->Comp (List τ×Comp.Step σ ε)}{s:σ}{n m:Nat}{ys:List τ}{e:ε}(h:ZK body n m s=some (ys,e)) :
  ∃m',m'<m/\∃zs st,(body s).run n=some (zs,st)/\(∀s',st=.next s'->∃zs',ZK body n m' s'=some (zs',e)/\ys=zs++zs')/\(∀e',st=.done e'->e'=e/\ys=zs):=by
 cases m with
 |zero=>cases h
 |succ k =>
  simp only[ZK]at h
  cases hb:(body s).run n with
  |none=>grind
  |some x =>
   rw[hb]at h;obtain⟨zs,st⟩:=x;refine⟨k,by omega,zs,st,rfl,fun s' hs=>?_,fun e' he=>?_⟩
   ·grind
   grind
def H2(n:Nat):MS->MS
 | []=>[]
 |e::M=>(match e.2.2 with
  |.sl true t T xs=>(e.1,n,.fs t xs)
  |.mp true a b xs=>(e.1,n,.fm a b xs)
  |.fs .. | .fb .. | .fm ..=>e
  |_=>(e.1,n,.dead))::H2 n M
theorem YU:∀ {n:Nat} {M:MS} {k:Nat} {e:Nat×MV},look (H2 n M) k=some e->(look M k=some e/\e.2.own=false/\look (frz M) k=some e)\/(e.1=n/\e.2.own=false/\∃m,look (frz M) k=some (m,e.2))
 |n,[],k,e,h=>by cases h
 |n,f::M,k,e,h=>by
  obtain⟨k0,st,m⟩:=f;have rest:∀ {x:Nat×MV},look ((k0,x)::H2 n M) k=some e->k0≠k->look (H2 n M) k=some e:=fun {x} h hn=>by
   grind [zC]
  by_cases hk:k0=k
  ·subst hk
   cases m with
   |sl nw t T xs =>
    cases nw with
    |true =>
     rcases zC h with ⟨_,h2⟩|⟨h1,_⟩
     ·subst h2;exact .inr ⟨rfl,rfl,st,by simp[frz,look,zX,Z5]⟩
     omega
    |false =>
     rcases zC h with ⟨_,h2⟩|⟨h1,_⟩
     ·subst h2;exact .inr ⟨rfl,rfl,st,by simp[frz,look,zX,Z5]⟩
     omega
   |fs t xs =>
    rcases zC h with ⟨_,h2⟩|⟨h1,_⟩
    ·subst h2;exact .inl ⟨by simp[look,zX],rfl,by simp[frz,look,zX,Z5]⟩
    omega
   |fb t x =>
    rcases zC h with ⟨_,h2⟩|⟨h1,_⟩
    ·subst h2;exact .inl ⟨by simp[look,zX],rfl,by simp[frz,look,zX,Z5]⟩
    omega
   |mp nw a b xs =>
    cases nw with
    |true =>
     rcases zC h with ⟨_,h2⟩|⟨h1,_⟩
     ·subst h2;exact .inr ⟨rfl,rfl,st,by simp[frz,look,zX,Z5]⟩
     omega
    |false =>
     rcases zC h with ⟨_,h2⟩|⟨h1,_⟩
     ·subst h2;exact .inr ⟨rfl,rfl,st,by simp[frz,look,zX,Z5]⟩
     omega
   |fm a b xs =>
    rcases zC h with ⟨_,h2⟩|⟨h1,_⟩
    ·subst h2;exact .inl ⟨by simp[look,zX],rfl,by simp[frz,look,zX,Z5]⟩
    omega
   |bx nw c T =>
    rcases zC h with ⟨_,h2⟩|⟨h1,_⟩
    ·subst h2;exact .inr ⟨rfl,rfl,st,by simp[frz,look,zX,Z5]⟩
    omega
   |fg f =>
    rcases zC h with ⟨_,h2⟩|⟨h1,_⟩
    ·subst h2;exact .inr ⟨rfl,rfl,st,by simp[frz,look,zX,Z5]⟩
    omega
   |dead =>
    rcases zC h with ⟨_,h2⟩|⟨h1,_⟩
    ·subst h2;exact .inr ⟨rfl,rfl,st,by simp[frz,look,zX,Z5]⟩
    omega
  ·have hb:Nat.beq k0 k=false:=by grind [zX]
   have h':look (H2 n M) k=some e:=by
    grind [H2]
   rcases YU h' with ⟨g1,g2,g3⟩|⟨g1,g2,m',g3⟩
   ·grind [look,frz]
   grind [frz,look]
theorem MV.zIP{X X':Cx}{w w':World}{k:Nat}(hX:X.le w X' w')(hk:k<X.n)(m:MV)(h1:m.own=false)(h:m.holds X w k):m.holds X' w' k:=by
 cases m with
 |sl nw t T xs=>cases h1
 |bx nw c T=>cases h1
 |fs t xs =>
  show (rSl _).v _ _ _ _
  rw[hX.U k hk,hX.P];exact GR.yk _ h hX.k
 |fb t x =>
  show (KN _).v _ _ _ _
  rw[hX.U k hk,hX.P];exact GR.yk _ h hX.k
 |fg f =>
  intro t x hx;rw[hX.U k hk,hX.P];exact GR.yk _ (h t x hx) hX.k
 |mp nw a b xs=>cases h1
 |fm a b xs =>
  show ((Ty.mp a b).gr X'.P).v _ _ _ _
  rw[hX.U k hk,hX.P];exact GR.yk _ h hX.k
 |dead=>trivial
def S.yl(s:S)(d:Option Tmp)(b:Bool):S:={ L:=(match d with|some d=>(d,s.n,.rd .bool b)::s.L|none=>s.L),M:=H2 s.n s.M,n:=s.n+1,ep:=s.n }
theorem Inv.yl(s:S)(d:Option Tmp)(b:Bool):Inv s (s.yl d b):=by
 refine⟨zMb _,?_,fun k e he hl=>?_⟩
 ·cases d with
  |none=>exact yZ
  |some d=>exact vf yZ
 ·rcases YU he with ⟨g1,_⟩|⟨g1,_⟩
  ·exact g1
  ·omega
abbrev Frm.reb(F:Frm)(O:zQ)(w:World):Frm:={ F with O0:=O,w0:=w,A:=Go.Lift.Fr w,x:={ F.x with sO:=O,sw:=w,sb:=w.heap.size } }
structure GenI(P:Program)(L:Nat)(a:H7 α)(xs:List α)(J:List α->zQ->World->Prop)(Jx:zQ->World->Prop):Prop where
 ext:∀pre O1 w1 w2,J pre O1 w1->Ext w1 w2->J pre O1 w2
 extx:∀O1 w1 w2,Jx O1 w1->Ext w1 w2->Jx O1 w2
 ok:∀pre O1 w1,J pre O1 w1->OkO O1 w1
 okx:∀O1 w1,Jx O1 w1->OkO O1 w1
 y:∀pre d post O1 w1 vs,xs=pre++d::post->J pre O1 w1->a O1 w1 vs d->zIv P L vs.toArray w1 fun b w2=>∃O2,zd 0 O1 w1 O2 w2/\match b with
  |true=>J (pre++[d]) O2 w2
  |false=>Jx O2 w2
structure GenF(F:Frm):Prop where
 D:F.D=[]
 Lh:∀t φ,¬F.Lh t φ
 bl:F.bl=[]
 fe:F.fe=0
 st:F.x.st≠0
 sys:∀b o,¬F.x.sys b o
 kv:∀v φ,¬F.x.kv v φ
 rd:F.x.rd=none
 nr:F.x.nr=true
section
variable {F:Frm} {E:VE} {t:Ty} {xs:List t.D} {J:List t.D->zQ->World->Prop} {Jx:zQ->World->Prop}
theorem Q9(hF:GenF F){O1 O2:zQ}{w1 w w2:World}{s:S}{a:Act}(h:Rel (F.reb O1 w1) s a w)(hk:zd 0 O1 w O2 w2)(hO2:OkO O2 w2){d:Option Tmp}(hd:F.dst d)(b:Bool):Rel (F.reb O2 w2) (s.yl d b) (a.put d (.bool b)) w2:=by
 obtain⟨X,hX⟩:=h;have xH:=hX.q7
 let X2:Cx:={ X with O:=O2,A:=Go.Lift.Fr w2,F:=Go.Lift.Fr w2,n:=s.n+1,ep:=s.n }
 have bD:(X.out (F.reb O1 w1)).le w X2 w2:=⟨rfl,hk,fun _ _=>rfl,by show X.n<=s.n+1;rw[hX.n];omega,rfl⟩
 have old:∀t e,look s.L t=some e->e.2.zg=false->e.2.holds X2 w2 (a.get t):=fun t e he hf=>e.2.le hf bD (e.2.le hf xH (hX.l t e he (by grind [fresh])))
 have f9:∀ {e:Nat×AV},fresh s.n e=true->e.1<s.n->e.2.zg=false:=fun {e} hf hl=>by
  cases f9:e.2.zg with
  |false=>rfl
  |true =>
   simp only[fresh,f9,Bool.not_true,Bool.false_or]at hf;rw[jf]at hf;grind
 have hMo:=hX.IH;have xV:∀t e,look (s.yl d b).L t=some e->(d=some t/\e=(s.n,.rd .bool b))\/(d≠some t/\look s.L t=some e):=fun t e he=>by
  cases d with
  |none=>exact .inr ⟨by simp,he⟩
  |some d =>
   rcases zC he with ⟨h1,h2⟩|⟨h1,h2⟩
   ·grind
   grind
 refine⟨X2,hX.P,rfl,rfl,rfl,rfl,hO2,ZH hX.fit _ _,Base.start hO2,fun t e he hf=>?_,fun k e he=>?_,fun t e he=>?_,fun k e he=>?_,fun k k' e e' he he' ho=>?_,fun k e he ho=>?_,zMb _,by show F.fe<s.n+1;rw[hF.fe];omega,fun t φ hp=>zMg hp (hF.Lh t φ),⟨by show F.bl.length<=_;rw[hF.bl];grind,fun j b hj=>by rw[show (F.reb O2 w2).bl=[] from hF.bl]at hj;cases hj⟩,
  ⟨hF.st,fun b o hs=>zMg hs (hF.sys b o),fun v φ hv=>zMg hv (hF.kv v φ),zd.refl _ _ _,hX.ex.L⟩⟩
 ·rcases xV t e he with ⟨h1,h2⟩|⟨h1,h2⟩
  ·subst h2
   subst h1;rw[yW hX.fit (hd t rfl).1];exact kB.2 rfl
  ·rw[jQ h1]
   exact old t e h2 (f9 hf (hX.ln t e h2))
 ·rcases YU he with ⟨_,g2,g3⟩|⟨_,g2,m',g3⟩
  ·obtain⟨m,g4,_⟩:=JC g3
   exact MV.zIP bD (by show k<X.n;rw[hX.n];exact(hX.mn k _ g4).2) _ g2 (hMo k e g3)
  ·obtain⟨m,g4,_⟩:=JC g3
   exact MV.zIP bD (by show k<X.n;rw[hX.n];exact(hX.mn k _ g4).2) e.2 g2 (hMo k (m',e.2) g3)
 ·rcases xV t e he with ⟨_,h2⟩|⟨_,h2⟩
  ·rw[h2];exact zMc _
  ·exact Nat.lt_succ_of_lt (hX.ln t e h2)
 ·rcases YU he with ⟨g1,_⟩|⟨g1,_,m',g3⟩
  ·have:=hX.mn k e g1;exact⟨Nat.lt_succ_of_lt this.1,Nat.lt_succ_of_lt this.2⟩
  ·obtain⟨m,g4,_⟩:=JC g3
   exact⟨by rw[g1];exact zMc _,Nat.lt_succ_of_lt (hX.mn k _ g4).2⟩
 ·rcases YU he with ⟨_,g2,_⟩|⟨_,g2,_⟩<;>(grind)
 ·rcases YU he with ⟨_,g2,_⟩|⟨_,g2,_⟩<;>(grind)
def RB(s:S)(o:Oper):Option (List AV):=match o.op with
 |.call c=>match c.callee with
  |.value x=>match rdO s.ep s.L [] [] x with
   |some .yl=>jG (rdO s.ep s.L [] []) c.args.toList
   |_=>none
  |_=>none
 |_=>none
def nk(E:VE)(t:Ty)(wr:List Nat)(s:S)(o:Oper)(z:S->Comp Unit)(k:S->Comp (List t.D×β)):Comp (List t.D×β):=match RB s o with
 |some l=>match Zs l,Xi (l.map (fun φ=>φ.asT E.G (frz s.M))) t with
  |true,some x=>(z (s.yl o.dst false)).bind fun _=>tell [x] (k (s.yl o.dst true))
  |_,_=>Comp.fail
 |none=>step E wr s o k
def YH(E:VE)(t:Ty)(wr:List Nat)(all:List Oper)(z:S->Comp Unit)(k:S->Comp (List t.D×β)):List Oper->S->Comp (List t.D×β)
 | [],s=>k s
 |o::os,s=>match o.guard with
  |none=>nk E t wr s o (Zw E wr all z os) (YH E t wr all z k os)
  |some g=>match n5 all g.1 with
   |none=>Comp.fail
   |some u=>match rdO s.ep s.L [] [] (.tmp u) with
    |none=>Comp.fail
    |some φ=>match exG φ with
     |some b=>match nZ b g.2 with
      |true=>nk E t wr s o (Zw E wr all z os) (YH E t wr all z k os)
      |false=>YH E t wr all z k os (s.put o.dst (.ex undef))
     |none=>match φ.bool? with
      |none=>Comp.fail
      |some b=>if gB b g.2=true then nk E t wr (s.put (some u) (.ex (.bool g.2))) o (Zw E wr all z os) (YH E t wr all z k os) else YH E t wr all z k os ((s.put (some u) (.ex (.bool (ntB g.2)))).put o.dst (.ex undef))
structure Stp where
 k:S->Comp Unit
 ex:Nat->S->Comp Unit
 rt:S->Comp Unit
def AV.cb:AV->Option Bool
 |.rd .bool b=>some b
 |.ex (.bool b)=>some b
 |_=>none
theorem W6{X:Cx}{w:World}{v:Value}{o:Option AV}{b:Bool}(h:o.bind AV.cb=some b)(hv:∀φ,o=some φ->φ.holds X w v):v=.bool b:=by
 cases o with
 |none=>cases h
 |some φ =>
  have k:=hv φ rfl;simp only[zMO]at h;unfold AV.cb at h;split at h
  ·cases h;exact kB.1 k
  ·cases h;exact k
  ·cases h
def JI(E:VE)(t:Ty):Code->(β:Type)->H->S->(S->Comp (List t.D×β))->(Nat->S->Comp (List t.D×β))->(S->Comp (List t.D×β))->Stp->Comp (List t.D×β)
 |.skip,_,_,s,k,_,_,_=>k s
 |.label _,_,_,s,k,_,_,_=>k s
 |.region _ ops draw,_,h,s,k,_,_,z=>match h with
  |.f l h'=>match h' with
   |.y=>match draw with
    |false=>YH E t (wrS ops.toList) ops.toList z.k k ops.toList (s.Z5 E (rN s l))
    |true=>Comp.fail
   |h'=>Mz E ops draw h' (s.Z5 E (rN s l)) k fun _=>Comp.fail
  |.y=>match draw with
   |false=>YH E t (wrS ops.toList) ops.toList z.k k ops.toList s
   |true=>Comp.fail
  |h=>Mz E ops draw h s k fun _=>Comp.fail
 |.seq a b,β,h,s,k,ex,rt,z=>JI E t a β h.l1 s (fun s'=>JI E t b β h.l2 s' k ex rt z) ex rt ⟨fun s'=>den E b Unit h.l2 s' z.k (exF z.ex) z.rt,z.ex,z.rt⟩
 |.cond c x y,β,h,s,k,ex,rt,z=>match (rdO s.ep s.L [] [] c).bind AV.cb with
  |none=>Comp.fail
  |some b=>match h with
   |.j sh h1 h2=>jn (fun x=>k (sh.put s x)) fun j=>if b=true then JI E t x β h1 s (fun s'=>goJ E.G sh s s' j) ex rt z else JI E t y β h2 s (fun s'=>goJ E.G sh s s' j) ex rt z
   |h=>if b=true then JI E t x β h.l1 s k ex rt z else JI E t y β h.l2 s k ex rt z
 |.block id c,β,h,s,k,ex,rt,z=>match h with
  |.jb sh h1=>jn (fun x=>k (sh.put s x)) fun j=>JI E t c β h1 s (fun s'=>goJ E.G sh s s' j) (fun i s'=>match Nat.beq i id with|true=>goJ E.G sh s s' j|false=>ex i s') rt ⟨z.k,fun i s'=>match Nat.beq i id with|true=>z.k s'|false=>z.ex i s',z.rt⟩
  |h=>JI E t c β h.l1 s k (fun i s'=>match Nat.beq i id with|true=>k s'|false=>ex i s') rt ⟨z.k,fun i s'=>match Nat.beq i id with|true=>z.k s'|false=>z.ex i s',z.rt⟩
 |.loop c,β,h,s,k,ex,rt,z=>match h with
  |.l sh l h1=>match sh.get E.G s s with
   |none=>Comp.fail
   |some x0=>(YA (fun x=>JI E t c (Comp.Step sh.D (ED l)) h1 (sh.put s x) (fun s'=>(J7 E.G sh s s').bind fun st=>Comp.pure ([],st)) (fun i s'=>(ZT E.G s l (some i) s').bind fun st=>Comp.pure ([],st)) (fun s'=>(ZT E.G s l none s').bind fun st=>Comp.pure ([],st)) ⟨fun _=>Comp.fail,z.ex,z.rt⟩) x0).bind fun p=>tell p.1 (Hz s ex rt l p.2)
  |_=>Comp.fail
 |.scope c,β,h,s,k,ex,rt,z=>JI E t c β h.l1 s k ex rt z
 |.exit i,_,_,s,_,ex,_,_=>ex i s
 |.ret,_,_,s,_,_,rt,_=>rt s
 |_,_,_,_,_,_,_,_=>Comp.fail
structure WaysY(F:Frm)(J:List t.D->zQ->World->Prop)(T:List t.D)(s0:S)(nf:Nat){β:Type}(y:β)(k:S->Comp (List t.D×β))(ex:Nat->S->Comp (List t.D×β))(rt:S->Comp (List t.D×β))(Q:Exit->Act->World->Prop):Prop where
 k:∀O1 w1 acc s' a' w' ys,J acc O1 w1->Rel (F.reb O1 w1) s' a' w'->Inv s0 s'->(k s').run nf=some (ys,y)->acc++ys=T->Q .normal a' w'
 ex:∀i O1 w1 acc s' a' w' ys,J acc O1 w1->Rel (F.reb O1 w1) s' a' w'->Inv s0 s'->(ex i s').run nf=some (ys,y)->acc++ys=T->Q (.exit i) a' w'
 rt:∀O1 w1 acc s' a' w' ys,J acc O1 w1->Rel (F.reb O1 w1) s' a' w'->Inv s0 s'->(rt s').run nf=some (ys,y)->acc++ys=T->Q .ret a' w'
structure WaysX(F:Frm)(Jx:zQ->World->Prop)(s0:S)(nf:Nat)(z:Stp)(Q:Exit->Act->World->Prop):Prop where
 k:∀O1 w1 s' a' w',Jx O1 w1->Rel (F.reb O1 w1) s' a' w'->Inv s0 s'->(z.k s').run nf=some ()->Q .normal a' w'
 ex:∀i O1 w1 s' a' w',Jx O1 w1->Rel (F.reb O1 w1) s' a' w'->Inv s0 s'->(z.ex i s').run nf=some ()->Q (.exit i) a' w'
 rt:∀O1 w1 s' a' w',Jx O1 w1->Rel (F.reb O1 w1) s' a' w'->Inv s0 s'->(z.rt s').run nf=some ()->Q .ret a' w'
theorem WaysX.inv{F:Frm}{Jx:zQ->World->Prop}{s0 s1:S}{nf:Nat}{z:Stp}{Q:Exit->Act->World->Prop}(h:WaysX F Jx s0 nf z Q)(hi:Inv s0 s1):WaysX F Jx s1 nf z Q :=
 ⟨fun O1 w1 s' a' w' h1 h2 h3=>h.k O1 w1 s' a' w' h1 h2 (hi.trans h3),fun i O1 w1 s' a' w' h1 h2 h3=>h.ex i O1 w1 s' a' w' h1 h2 (hi.trans h3),fun O1 w1 s' a' w' h1 h2 h3=>h.rt O1 w1 s' a' w' h1 h2 (hi.trans h3)⟩
theorem NU(hF:GenF F)(hE:E.ok F.P)(hG:GenI F.P F.x.Lp (t.args F.P) xs J Jx)(wr:List Nat){o:Oper}(ho:(∀c,o.op≠.defer c)/\F.dst o.dst){nf:Nat}{y:β}{Q:Exit->Act->World->Prop}{s:S}{a:Act}{w:World}{O1:zQ}{w1:World}{acc ys T rest:List t.D}(hT:T++rest=xs){z:S->Comp Unit}{k:S->Comp (List t.D×β)}{K:Act->World->Prop}
  (hJ:J acc O1 w1) (h:Rel (F.reb O1 w1) s a w) (hr:(nk E t wr s o z k).run nf=some (ys,y)) (sE:acc++ys=T)
  (hK:∀O2 w2 acc' s' v w' ys',J acc' O2 w2->Rel (F.reb O2 w2) s' (a.put o.dst v) w'->Inv s s'->(k s').run nf=some (ys',y)->acc'++ys'=T->K (a.put o.dst v) w')
  (hZ:∀O2 w2 s' v w',Jx O2 w2->Rel (F.reb O2 w2) s' (a.put o.dst v) w'->Inv s s'->(z s').run nf=some ()->K (a.put o.dst v) w'):F.W Q o a w K:=by
 unfold nk at hr;split at hr
 ·rename_i l hl
  split at hr
  ·rename_i x tW hx
   obtain⟨u,hu,hr⟩:=run_bind hr;obtain⟨ys',hr',sS⟩:=BS hr;obtain⟨X,hX⟩:=h;obtain⟨d,op,T,pos,aft,g⟩:=o;unfold RB at hl;split at hl
   case h_2=>cases hl
   rename_i c x9;simp only at x9;subst x9;obtain⟨cal,cx,ts⟩:=c;split at hl
   case h_2=>cases hl
   rename_i f bB;simp only at bB;subst bB;split at hl
   case h_2=>cases hl
   rename_i hf;rw[<-hX.ep]at hf hl;have hfv:a.eval f=.func (.yield F.x.Lp) #[] #[]:=by
    have:=hX.rd #[f] f _ (by simp) hf
    rw[show a.eval f=_ from this,hX.ex.L]
   have fA:=jV hl;have fU:t.args X.P O1 w (cx.toList.map a.eval) x:=by
    refine kS (O:=(X.out (F.reb O1 w1)).O) hx (by grind) fun i f v hf hv t y hy=>?_
    rw[List.getElem?_map,Option.map_eq_some_iff]at hf hv;obtain⟨ψ,g1,rfl⟩:=hf;obtain⟨q,g2,rfl⟩:=hv;obtain⟨q',g3,g4⟩:=Za hl i ψ g1;rw[g2]at g3;cases g3;have hψ:=hX.rd #[q] q ψ (by simp) g4
    have hnfψ:=kX tW ψ (zMV g1);exact AV.Z0 (X:=X.out (F.reb O1 w1)) (by show FOk X.P E.G;rw[hX.P];exact hE.G) hX.IH hy (ψ.le hnfψ hX.q7 hψ)
   have hP:X.P=F.P:=hX.P;rw[hP]at fU;have hJw:=hG.ext acc O1 w1 w hJ hX.base.ext
   have hxs':xs=acc++x::(ys'++rest):=by grind
   obtain⟨fn,tm,eJ,bd,q1,q2⟩:=hG.y acc x _ O1 w _ hxs' hJw fU;refine⟨fun _ _=>trivial,?_⟩
   rw[show (fw F.x.rd).round=none from hF.rd,Oper.semAt_none]
   have fI:(execOp a.eval ⟨d,.call ⟨.value f,cx,ts⟩,T,pos,aft,g⟩).run F.P w=.ok (.round F.x.Lp fn tm eJ bd) w:=by
    have e:(cx.map a.eval)=(cx.toList.map a.eval).toArray:=by grind
    grind [execOp,resolve,Deferred.ofValue,invoke]
   rw[fI];have hfw:fw F.x.rd=Fence.wide:=by rw[hF.rd];rfl
   rw[hfw];refine⟨fun h=>by grind [Fence.wide],RoundIn.mono q2 fun e w2 he=>?_⟩
   obtain⟨b,rfl,O2,hk,hb⟩:=he
   cases b with
   |true =>
    exact hK O2 w2 _ _ _ w2 ys' hb (Q9 hF ⟨X,hX⟩ hk (hG.ok _ _ _ hb) ho.2 true) (Inv.yl _ _ _) hr' (by grind)
   |false =>
    exact hZ O2 w2 _ _ w2 hb (Q9 hF ⟨X,hX⟩ hk (hG.okx _ _ hb) ho.2 false) (Inv.yl _ _ _) hu
  ·cases hr
 ·exact jq ho.1 (Ko (F:=F.reb O1 w1) hE h wr o ho.2 nf _ hr K Q fun s' v w' g1 g2 g3=>hK O1 w1 acc s' v w' ys hJ g1 g2 g3 sE)
theorem wH(hF:GenF F)(hE:E.ok F.P)(hG:GenI F.P F.x.Lp (t.args F.P) xs J Jx)(wr:List Nat){all:List Oper}{nf:Nat}{y:β}{T rest:List t.D}(hT:T++rest=xs){Q:Exit->Act->World->Prop}{s0:S}{z:S->Comp Unit}{k:S->Comp (List t.D×β)}
  (hK:∀O2 w2 acc s' a' w' ys,J acc O2 w2->Rel (F.reb O2 w2) s' a' w'->Inv s0 s'->(k s').run nf=some (ys,y)->acc++ys=T->Q .normal a' w')
  (hZ:∀O2 w2 s' a' w',Jx O2 w2->Rel (F.reb O2 w2) s' a' w'->Inv s0 s'->(z s').run nf=some ()->Q .normal a' w'):∀ {os:List Oper} {s:S} {a:Act} {w:World} {O1:zQ} {w1:World} {acc ys:List t.D},
  J acc O1 w1->Rel (F.reb O1 w1) s a w->Inv s0 s->(YH E t wr all z k os s).run nf=some (ys,y)->acc++ys=T->(∀o∈os,(∀c,o.op≠.defer c)/\F.dst o.dst)->vv (F.W Q) all.toArray (Q .normal) os a w
 | [],s,a,w,O1,w1,acc,ys,hJ,h,hi,hr,sE,_=>hK O1 w1 acc s a w ys hJ h hi hr sE
 |o::os,s,a,w,O1,w1,acc,ys,hJ,h,hi,hr,sE,ho=>by
  have h1:=ho o (by simp)
  have ho':∀o∈os,(∀c,o.op≠.defer c)/\F.dst o.dst:=fun o' ho'=>ho o' (by grind)
  have act:∀ {s:S},Rel (F.reb O1 w1) s a w->Inv s0 s->(nk E t wr s o (Zw E wr all z os) (YH E t wr all z k os)).run nf=some (ys,y)->Region.wanted o (yielded all.toArray a.tmps)=true->vv (F.W Q) all.toArray (Q .normal) (o::os) a w:=fun {s} h hi hr hw=>by
   simp only[vv,hw,if_true];refine NU hF hE hG wr h1 hT hJ h hr sE (fun O2 w2 acc' s' v w' ys' g1 g2 g3 g4 g5=>?_) fun O2 w2 s' v w' g1 g2 g3 g4=>?_
   ·exact wH hF hE hG wr hT hK hZ g1 g2 (hi.trans g3) g4 g5 ho'
   ·exact XQ (F:=F.reb O2 w2) hE wr g2 (hi.trans g3) g4 ho' fun s2 a2 w3 e1 e2 e3=>hZ O2 w2 s2 a2 w3 g1 e1 e2 e3
  have off:∀ {s:S},Rel (F.reb O1 w1) s a w->Inv s0 s->(YH E t wr all z k os (s.put o.dst (.ex undef))).run nf=some (ys,y)->Region.wanted o (yielded all.toArray a.tmps)=false->vv (F.W Q) all.toArray (Q .normal) (o::os) a w:=fun {s} h hi hr hw=>by
   simp only[vv,hw,Bool.false_eq_true,if_false];exact wH hF hE hG wr hT hK hZ hJ (h.skip h1.2) (hi.trans (Inv.put _ _ _)) hr sE ho'
  simp only[YH]at hr;split at hr
  ·grind [Region.wanted]
  ·rename_i g hg
   have sJ:Region.wanted o (yielded all.toArray a.tmps)=(yielded all.toArray a.tmps g.1 == some g.2):=by grind [Region.wanted]
   split at hr
   ·cases hr
   ·rename_i u ht
    split at hr
    ·cases hr
    ·rename_i φ hφ
     obtain⟨X,hX⟩:=h;rw[<-hX.ep]at hφ;have hv:φ.holds X w (a.get u):=hX.rd #[.tmp u] (.tmp u) φ (by simp) hφ
     split at hr
     ·rename_i b hb
      have hy:yielded all.toArray a.tmps g.1=b:=by
       cases b with
       |none=>rw[CK hb]at hv;exact Jp ht hv
       |some b=>rw[CJ hb]at hv;exact YC ht hv
      rw[hy]at sJ;split at hr
      ·rename_i hw
       refine act ⟨X,hX⟩ hi hr ?_;rw[sJ];unfold nZ at hw;grind
      ·rename_i hw
       refine off ⟨X,hX⟩ hi hr ?_;rw[sJ]
       cases b with
       |none=>rfl
       |some b =>
        generalize g.2=v at hw;cases b<;>cases v<;>first|rfl|grind [nZ]
     ·split at hr
      ·cases hr
      ·rename_i b hb
       have iP:a.get u=.bool b:=by rw[AV.ZZ hb]at hv;exact kB.1 hv
       have hy:=YC ht iP;rw[hy]at sJ;split at hr
       ·rename_i cR
        have e:=SF.1 cR;refine act (Rel.Xq hX (φ:=.ex (.bool g.2)) fun X' _=>(by rw[iP,e];exact rfl)) (hi.trans (Inv.put _ _ _)) hr ?_
        grind
       ·rename_i cR
        have e:=R2 cR;refine off (Rel.Xq hX (φ:=.ex (.bool (ntB g.2))) fun X' _=>(by rw[iP,e];exact rfl)) (hi.trans (Inv.put _ _ _)) hr ?_
        rw[sJ,e];cases g.2<;>rfl
theorem BV{c:Comp σ}{n:Nat}{ys:List τ}{y:σ}(h:(c.bind fun st=>Comp.pure (([]:List τ),st)).run n=some (ys,y)):ys=[]/\c.run n=some y:=by
 obtain⟨x,h1,h2⟩:=run_bind h;have:=run_pure h2
 grind
theorem Wp(hF:GenF F)(hm:F.P.follows .mixedOrders=true)(hE:E.ok F.P)(hG:GenI F.P F.x.Lp (t.args F.P) xs J Jx):∀(c:Code),okC F.N c=true->kj c=true->∀ {β:Type} {h:H} {s0 s:S} {a:Act} {w:World} {k:S->Comp (List t.D×β)} {ex:Nat->S->Comp (List t.D×β)} {rt:S->Comp (List t.D×β)} {z:Stp} {nf:Nat} {y:β} {Q:Exit->Act->World->Prop} {O1:zQ} {w1:World} {acc ys T rest:List t.D},T++rest=xs ->
  J acc O1 w1->Rel (F.reb O1 w1) s a w->Inv s0 s->(JI E t c β h s k ex rt z).run nf=some (ys,y)->acc++ys=T->WaysY F J T s0 nf y k ex rt Q->WaysX F Jx s0 nf z Q->F.wp c Q a w:=by
 have fD:∀(O1:zQ) (w1:World) t φ,¬(F.reb O1 w1).Lh t φ:=fun _ _=>hF.Lh
 have hA8:∀ {c:Code},okC F.N c=true->kj c=true->∀ {h:H} {s0 s:S} {a:Act} {w:World} {z:Stp} {nf:Nat} {Q:Exit->Act->World->Prop} {O1:zQ} {w1:World},Jx O1 w1->Rel (F.reb O1 w1) s a w->Inv s0 s->(den E c Unit h s z.k (exF z.ex) z.rt).run nf=some ()->WaysX F Jx s0 nf z Q->F.wp c Q a w:=by
  intro c kA hn h s0 s a w z nf Q O1 w1 hJ hR hi hr hW;have aX:(F.reb O1 w1).x.nr=true:=hF.nr
  exact Ym c (F:=F.reb O1 w1) hm (fD _ _) hE kA (.inr hn) rfl hR hi hr ⟨fun F' s' a' w' g0 g1 g2 g3=>(by rw[g0.nr aX]at g1;exact hW.k O1 w1 s' a' w' hJ g1 g2 g3),fun i fE F' s' a' w' g0 g1 g2 g3=>(by rw[g0.nr aX]at g1;exact hW.ex i O1 w1 s' a' w' hJ g1 g2 (by grind [SQ])),fun F' s' a' w' g0 g1 g2 g3=>(by rw[g0.nr aX]at g1;exact hW.rt O1 w1 s' a' w' hJ g1 g2 g3),fun F' s' a' _ w' _ _ _ g3=>(SR g3).elim⟩
 have eO:∀ {id:Nat} {ops:Array Oper},Xh F.N ops.toList=true->∀ {β:Type} {s0 s:S} {a:Act} {w:World} {k:S->Comp (List t.D×β)} {zk:S->Comp Unit} {nf:Nat} {y:β} {Q:Exit->Act->World->Prop} {O1:zQ} {w1:World} {acc ys T rest:List t.D},T++rest=xs->J acc O1 w1->Rel (F.reb O1 w1) s a w->Inv s0 s->(YH E t (wrS ops.toList) ops.toList zk k ops.toList s).run nf=some (ys,y)->acc++ys=T ->
   (∀O2 w2 acc s' a' w' ys,J acc O2 w2->Rel (F.reb O2 w2) s' a' w'->Inv s0 s'->(k s').run nf=some (ys,y)->acc++ys=T->Q .normal a' w')->(∀O2 w2 s' a' w',Jx O2 w2->Rel (F.reb O2 w2) s' a' w'->Inv s0 s'->(zk s').run nf=some ()->Q .normal a' w')->F.wp (.region id ops false) Q a w:=by
  intro id ops kA β s0 s a w k zk nf y Q O1 w1 acc ys T rest hT hJ hR hi hr sE hK hZ;have key:vv (F.W Q) ops.toList.toArray (Q .normal) ops.toList a w:=wH hF hE hG (wrS ops.toList) hT hK hZ hJ hR hi hr sE fun o ho=>⟨Ku kA o ho,fun t ht=>?_⟩
  ·refine Jg (fun h=>nomatch h) ?_
   show Y3 (F.W Q) ops (Q .normal) (List.range ops.size) a w
   rw[List.range_eq_range',<-Array.length_toList,kI ops.toList 0 (by simp)]
   omega
  ·obtain⟨j,hj⟩:=List.mem_iff_getElem?.1 ho
   exact⟨((zS (Xn kA) hj).2.1 t ht).1,fun φ=>hF.Lh t φ⟩
 intro c
 induction c with
 |skip=>intro _ _ β h s0 s a w k ex rt z nf y Q O1 w1 acc ys T rest hT hJ hR hi hr sE hW hX;exact wpIn_skip (hW.k O1 w1 acc s a w ys hJ hR hi hr sE)
 |label l=>intro _ _ β h s0 s a w k ex rt z nf y Q O1 w1 acc ys T rest hT hJ hR hi hr sE hW hX;exact wpIn_label (hW.k O1 w1 acc s a w ys hJ hR hi hr sE)
 |exit i=>intro _ _ β h s0 s a w k ex rt z nf y Q O1 w1 acc ys T rest hT hJ hR hi hr sE hW hX;exact wpIn_exit (hW.ex i O1 w1 acc s a w ys hJ hR hi hr sE)
 |ret=>intro _ _ β h s0 s a w k ex rt z nf y Q O1 w1 acc ys T rest hT hJ hR hi hr sE hW hX;exact wpIn_ret (hW.rt O1 w1 acc s a w ys hJ hR hi hr sE)
 |region id ops draw =>
  intro kA _ β h s0 s a w k ex rt z nf y Q O1 w1 acc ys T rest hT hJ hR hi hr sE hW hX;simp only[JI]at hr;simp only[okC,zMQ]at kA;have hN:=tF kA.2
  have kA:=kA.1;split at hr
  ·rename_i l h'
   have hR':=Rel.Z5 (F:=F.reb O1 w1) (E:=E) hE hR (rN s l);have hi':=hi.trans (Inv.Z5 (E:=E) s (rN s l))
   split at hr
   ·split at hr
    ·exact eO kA hT hJ hR' hi' hr sE hW.k hX.k
    ·cases hr
   ·exact uq (F:=F.reb O1 w1) (fD _ _) hE hm (zMS _) hN kA hR' hi' hr (fun s' a' w' g1 g2 g3=>hW.k O1 w1 acc s' a' w' ys hJ g1 g2 g3 sE) fun s' a' _ w' _ _ g3=>(nomatch g3)
  ·split at hr
   ·exact eO kA hT hJ hR hi hr sE hW.k hX.k
   ·cases hr
  ·exact uq (F:=F.reb O1 w1) (fD _ _) hE hm (zMS _) hN kA hR hi hr (fun s' a' w' g1 g2 g3=>hW.k O1 w1 acc s' a' w' ys hJ g1 g2 g3 sE) fun s' a' _ w' _ _ g3=>(nomatch g3)
 |seq x v ihx ihv =>
  intro kA hn β h s0 s a w k ex rt z nf y Q O1 w1 acc ys T rest hT hJ hR hi hr sE hW hX;simp only[okC,zMQ]at kA;simp only[kj,zMQ]at hn;simp only[JI]at hr;refine wpIn_seq (ihx kA.1 hn.1 hT hJ hR hi hr sE ⟨fun O2 w2 acc' s' a' w' ys' g0 g1 g2 g3 g4=>?_,hW.ex,hW.rt⟩ ⟨fun O2 w2 s' a' w' g0 g1 g2 g3=>?_,hX.ex,hX.rt⟩)
  ·exact ihv kA.2 hn.2 hT g0 g1 g2 g3 g4 hW hX
  ·exact hA8 kA.2 hn.2 g0 g1 g2 g3 hX
 |scope x ih =>
  intro kA hn β h s0 s a w k ex rt z nf y Q O1 w1 acc ys T rest hT hJ hR hi hr sE hW hX;simp only[JI]at hr;exact tO (ih kA hn hT hJ hR hi hr sE ⟨hW.k,hW.ex,hW.rt⟩ ⟨hX.k,hX.ex,hX.rt⟩)
 |cond c x e ihx ihe =>
  intro kA hn β h s0 s a w k ex rt z nf y Q O1 w1 acc ys T rest hT hJ hR hi hr sE hW hX;simp only[okC,zMQ]at kA;simp only[kj,zMQ]at hn;simp only[JI]at hr;split at hr
  ·cases hr
  ·rename_i b hb
   have hc:a.eval c=.bool b:=by
    obtain⟨X,hX⟩:=hR;rw[<-hX.ep]at hb;exact W6 hb fun φ h1=>hX.rd #[c] c φ (by simp) h1
   split at hr
   ·rename_i sh h1 h2
    dsimp only [jn]at hr;have hW':WaysY F J T s nf y (fun s'=>goJ E.G sh s s' (fun x=>k (sh.put s x))) ex rt Q:=by
     refine⟨fun O2 w2 acc' s' a' w' ys' g0 g1 g2 g3 g4=>?_,fun i O2 w2 acc' s' a' w' ys' g0 g1 g2 g3 g4=>hW.ex i O2 w2 acc' s' a' w' ys' g0 g1 (hi.trans g2) g3 g4,fun O2 w2 acc' s' a' w' ys' g0 g1 g2 g3 g4=>hW.rt O2 w2 acc' s' a' w' ys' g0 g1 (hi.trans g2) g3 g4⟩
     obtain⟨x,q1,q2,q3⟩:=q9 (F:=F.reb O2 w2) (F0:=F.reb O1 w1) (fD _ _) hE ⟨rfl,rfl,rfl⟩ hR g1 g2 g3;exact hW.k O2 w2 acc' _ _ _ ys' g0 q1 (hi.trans q2) q3 g4
    refine wpIn_cond_split hc (fun aL=>?_) (fun hbf=>?_)
    ·rw[zMq aL]at hr;exact ihx kA.1 hn.1 hT hJ hR (Inv.refl s) hr sE hW' (hX.inv hi)
    ·rw[zMr (by simp_all)]at hr;exact ihe kA.2 hn.2 hT hJ hR (Inv.refl s) hr sE hW' (hX.inv hi)
   ·refine wpIn_cond_split hc (fun aL=>?_) (fun hbf=>?_)
    ·rw[zMq aL]at hr;exact ihx kA.1 hn.1 hT hJ hR hi hr sE hW hX
    ·rw[zMr (by grind)]at hr;exact ihe kA.2 hn.2 hT hJ hR hi hr sE hW hX
 |block id x ih =>
  intro kA hn β h s0 s a w k ex rt z nf y Q O1 w1 acc ys T rest hT hJ hR hi hr sE hW hX;simp only[JI]at hr;refine wpIn_block ?_;have hX':WaysX F Jx s0 nf ⟨z.k,fun i s'=>match Nat.beq i id with|true=>z.k s'|false=>z.ex i s',z.rt⟩ (Exit.inBlock id Q):=by
   refine⟨hX.k,fun i O2 w2 s' a' w' g0 g1 g2 g3=>?_,hX.rt⟩
   show (if i=id then Q .normal a' w' else Q (.exit i) a' w')
   cases hb:Nat.beq i id with
   |true=>simp only[hb]at g3;rw[zMq (zMP hb)];exact hX.k O2 w2 s' a' w' g0 g1 g2 g3
   |false =>
    simp only[hb]at g3;rw[zX]at hb;rw[zMr (by grind)];exact hX.ex i O2 w2 s' a' w' g0 g1 g2 g3
  have kA:=(show okC F.N x=true by simp_all [okC,zMQ])
  split at hr
  ·rename_i sh h1
   dsimp only [jn]at hr;have hk:∀O2 w2 acc' s' a' w' ys',J acc' O2 w2->Rel (F.reb O2 w2) s' a' w'->Inv s s'->(goJ E.G sh s s' (fun x=>k (sh.put s x))).run nf=some (ys',y)->acc'++ys'=T->Q .normal a' w':=by
    intro O2 w2 acc' s' a' w' ys' g0 g1 g2 g3 g4;obtain⟨x,q1,q2,q3⟩:=q9 (F:=F.reb O2 w2) (F0:=F.reb O1 w1) (fD _ _) hE ⟨rfl,rfl,rfl⟩ hR g1 g2 g3;exact hW.k O2 w2 acc' _ _ _ ys' g0 q1 (hi.trans q2) q3 g4
   refine ih kA hn hT hJ hR (Inv.refl s) hr sE ⟨hk,fun i O2 w2 acc' s' a' w' ys' g0 g1 g2 g3 g4=>?_,fun O2 w2 acc' s' a' w' ys' g0 g1 g2 g3 g4=>hW.rt O2 w2 acc' s' a' w' ys' g0 g1 (hi.trans g2) g3 g4⟩ (hX'.inv hi)
   show (if i=id then Q .normal a' w' else Q (.exit i) a' w')
   cases hb:Nat.beq i id with
   |true=>rw[hb]at g3;rw[zMq (zMP hb)];exact hk O2 w2 acc' s' a' w' ys' g0 g1 g2 g3 g4
   |false =>
    rw[hb]at g3;rw[zX]at hb;rw[zMr (by grind)];exact hW.ex i O2 w2 acc' s' a' w' ys' g0 g1 (hi.trans g2) g3 g4
  ·refine ih kA hn hT hJ hR hi hr sE ⟨hW.k,fun i O2 w2 acc' s' a' w' ys' g0 g1 g2 g3 g4=>?_,hW.rt⟩ hX'
   show (if i=id then Q .normal a' w' else Q (.exit i) a' w')
   cases hb:Nat.beq i id with
   |true=>rw[hb]at g3;rw[zMq (zMP hb)];exact hW.k O2 w2 acc' s' a' w' ys' g0 g1 g2 g3 g4
   |false =>
    rw[hb]at g3;rw[zX]at hb;rw[zMr (by grind)];exact hW.ex i O2 w2 acc' s' a' w' ys' g0 g1 g2 g3 g4
 |loop c ih =>
  intro kA hn β h s0 s a w k ex rt z nf y Q O1 w1 acc ys T rest hT hJ hR hi hr sE hW hX;simp only[JI]at hr;split at hr
  ·rename_i sh l h1
   split at hr
   ·cases hr
   ·rename_i x0 bJ
    obtain⟨p,hp,hr⟩:=run_bind hr;obtain⟨ys0,e⟩:=p;obtain⟨zs,hr,sS⟩:=BS hr;simp only at hr sS;obtain⟨g1,g2⟩:=YQ (F:=F.reb O1 w1) (fD _ _) hE (Frm.KZ _) hR hR (Inv.refl s) bJ
    generalize hB:(fun x=>JI E t c (Comp.Step sh.D (ED l)) h1 (sh.put s x) (fun s'=>(J7 E.G sh s s').bind fun st=>Comp.pure ([],st)) (fun i s'=>(ZT E.G s l (some i) s').bind fun st=>Comp.pure ([],st)) (fun s'=>(ZT E.G s l none s').bind fun st=>Comp.pure ([],st)) ⟨fun _=>Comp.fail,z.ex,z.rt⟩)=B at *
    refine pA (fun m a' w'=>∃O2 w2 acc' x ys',J acc' O2 w2/\Rel (F.reb O2 w2) (sh.put s x) a' w'/\Inv s (sh.put s x)/\ZK B nf m x=some (ys',e)/\acc'++(ys'++zs)=T) (fun m a' w' hI=>?_) ⟨O1,w1,acc,x0,ys0,hJ,g1,g2,hp,by grind⟩
    obtain⟨O2,w2,acc',x,ys',q0,q1,q2,q3,q4⟩:=hI;obtain⟨m',gF,us,st,f8,hnx,hdn⟩:=Aq q3;rw[<-hB]at f8
    have b9:∀(o:Option Nat) O3 w3 tT s' a3 w' vs,J tT O3 w3->Rel (F.reb O3 w3) s' a3 w'->Inv s s'->((ZT (σ:=sh.D) E.G s l o s').bind fun st=>Comp.pure (([]:List t.D),st)).run nf=some (vs,st)->tT++vs=acc'++us->∃s2,Rel (F.reb O3 w3) s2 a3 w'/\Inv s s2/\(match o with|some i=>ex i s2|none=>rt s2).run nf=some (zs,y)/\tT++zs=T:=by
     intro o O3 w3 tT s' a3 w' vs f0 f1 f2 f3 f4;obtain⟨rfl,f5⟩:=BV (c:=ZT (σ:=sh.D) E.G s l o s') f3;unfold ZT at f5;split at f5
     ·rename_i v hv
      have f8:=run_pure f5;obtain⟨he,cO⟩:=hdn v f8.symm;subst he;obtain⟨s2,r1,r2,r3⟩:=u5 (F:=F.reb O3 w3) (F0:=F.reb O1 w1) (fD _ _) hE ⟨rfl,rfl,rfl⟩ hR f1 f2 hv hr;refine⟨s2,r1,r2,r3,?_⟩;simp_all
     ·cases f5
    have hT':∃rest',(acc'++us)++rest'=xs:=by
     cases st with
     |next s' =>
      obtain⟨zs',_,h2⟩:=hnx s' rfl;exact⟨zs'++zs++rest,by rw[<-hT,<-q4,h2];simp⟩
     |done e' =>
      obtain⟨_,h2⟩:=hdn e' rfl;exact⟨zs++rest,by rw[<-hT,<-q4,h2];simp⟩
    obtain⟨rest',hT'⟩:=hT';refine ih kA hn hT' q0 q1 q2 f8 rfl ⟨fun O3 w3 tT s' a3 w' vs f0 f1 f2 f3 f4=>?_,fun i O3 w3 tT s' a3 w' vs f0 f1 f2 f3 f4=>?_,fun O3 w3 tT s' a3 w' vs f0 f1 f2 f3 f4=>?_⟩ ⟨fun _ _ _ _ _ _ _ _ f=>(nomatch f),(hX.inv hi).ex,(hX.inv hi).rt⟩
    ·obtain⟨rfl,f5⟩:=BV (c:=J7 E.G sh s s') f3
     unfold J7 at f5;split at f5
     ·rename_i v hv
      have f8:=run_pure f5;obtain⟨zs',k1,k2⟩:=hnx v f8.symm;obtain⟨r1,r2⟩:=YQ (F:=F.reb O3 w3) (F0:=F.reb O1 w1) (fD _ _) hE ⟨rfl,rfl,rfl⟩ hR f1 f2 hv;refine⟨m',gF,O3,w3,tT,v,zs',f0,r1,r2,k1,?_⟩;simp_all
     ·cases f5
    ·obtain⟨s2,r1,r2,r3,r4⟩:=b9 (some i) O3 w3 tT s' a3 w' vs f0 f1 f2 f3 f4
     exact hW.ex i O3 w3 tT s2 a3 w' zs f0 r1 (hi.trans r2) r3 r4
    ·obtain⟨s2,r1,r2,r3,r4⟩:=b9 none O3 w3 tT s' a3 w' vs f0 f1 f2 f3 f4
     exact hW.rt O3 w3 tT s2 a3 w' zs f0 r1 (hi.trans r2) r3 r4
  ·cases hr
 |goto l=>intro _ _ β h s0 s a w k ex rt z nf y Q O1 w1 acc ys T rest hT hJ hR hi hr;cases hr
 |refuse l=>intro _ _ β h s0 s a w k ex rt z nf y Q O1 w1 acc ys T rest hT hJ hR hi hr;cases hr
 |rangeFunc f ps pa bd _ _=>intro _ hn;cases hn
end
def SI(E:VE)(c:Code)(h:H)(ps t:Ty)(x:ps.D):Comp (List t.D) :=
 (JI E t c Unit h ⟨(0,0,.yl)::Ye ps x 1,[],1,0⟩ (fun _=>Comp.pure ([],())) (fun _ _=>Comp.fail) (fun _=>Comp.pure ([],())) ⟨fun _=>Comp.pure (),fun _ _=>Comp.fail,fun _=>Comp.pure ()⟩).bind fun p=>Comp.pure p.1
theorem zEv{P:Program}{E:VE}(hE:E.ok P)(hm:P.follows .mixedOrders=true){f:FuncId}{fn:Func}{c:Code}{h:H}{fs:GS}(hF:FnOk P f)(hf:P.funcs[f]?=some fn)(hb:fn.body=some c)(hc:(okC fn.ntmps c && kj c)=true)(tS:fn.results.size=0)(hl:Nat.ble (fs.ps.len+1) fn.ntmps=true)
  (hs:∀x,SI E c h fs.ps fs.t x=fs.sem x):fs.ok P f:=by
 rw[zMQ]at hc;refine⟨hF,fun O w hO us x ha n xs hy L J Jx hR=>?_⟩
 rw[<-hs x]at hy;obtain⟨⟨ys,u⟩,hy2,hp⟩:=run_bind hy;have:=run_pure hp
 simp only at this;subst this;have sT:=Z1 ha
 refine calls_of_wp hf hb ?_;have fL:=ki (Value.func (.yield L) #[] #[]::us).toArray fn.ntmps (by simp_all)
 have fC:∀(j:Nat) v,(Value.func (.yield L) #[] #[]::us)[j]?=some v->Act.get { tmps:=(Value.func (.yield L) #[] #[]::us).toArray++Array.replicate (fn.ntmps-(Value.func (.yield L) #[] #[]::us).toArray.size) undef,defers:=[] } j=v:=fun j v hj=>kh (by grind)
 generalize ({ tmps:=(Value.func (.yield L) #[] #[]::us).toArray++Array.replicate (fn.ntmps-(Value.func (.yield L) #[] #[]::us).toArray.size) undef,defers:=[] }:Act)=a at fL fC |-
 let F:Frm:=⟨P,fn.ntmps,[],Go.Lift.Fr w,O,w,fun _ _=>False,0,[],{ FrX.no 1 O w with Lp:=L,nr:=true }⟩
 let X:Cx:=⟨P,O,fun _=>.nilIface,1,fun k=>k,Go.Lift.Fr w,Go.Lift.Fr w,0,L⟩
 have hGF:GenF F:=⟨rfl,fun _ _ h=>h,rfl,rfl,Nat.one_ne_zero,fun _ _ h=>h,fun _ _ h=>h,rfl,rfl⟩
 have hG:GenI P L (fs.t.args P) ys J Jx:=⟨hR.ext,hR.extx,hR.ok,hR.okx,hR.y⟩;have iC:Rel (F.reb O w) ⟨(0,0,.yl)::Ye fs.ps x 1,[],1,0⟩ a w:=by
  have fW:=fun {t e}=>Zz (X:=X) (a:=a) (i:=1) rfl rfl ha (fun j v hj=>by grind) (u:=t) (e:=e)
  refine⟨X,rfl,rfl,rfl,rfl,rfl,hO,fL,Base.start hO,fun t e he _=>(by
   rcases zC he with ⟨rfl,rfl⟩|⟨_,he⟩
   ·exact fC 0 _ rfl
   grind),fun k e he=>(nomatch he),fun t e he=>(by
   rcases zC he with ⟨rfl,rfl⟩|⟨_,he⟩
   ·grind
   grind),fun k e he=>(nomatch he),fun k k' e e' he=>(nomatch he),fun k e he=>(nomatch he),Nat.zero_le _,Nat.zero_lt_one,fun _ _ h=>h.elim,⟨Nat.zero_le _,fun j b hj=>(nomatch hj)⟩,⟨Nat.one_ne_zero,fun _ _ h=>h.elim,fun _ _ h=>h.elim,zd.refl _ _ _,rfl⟩⟩
 have xA:∀(a':Act) (w':World),a'.defers=[]->((∃O'',J ys O'' w')\/∃O'',Jx O'' w')->bodyPost P fn (fun e w''=>e=.returned (.tuple #[])/\((∃O'',J ys O'' w'')\/∃O'',Jx O'' w'')) .normal a' w':=fun a' w' hd h=>by
  have hr:fn.results=#[]:=Array.eq_empty_of_size_eq_zero tS;exact⟨hd,.tuple #[],by simp[results,hr],rfl,h⟩
 refine(wpIn_wide (n:=0)).1 ?_
 refine Wp (F:=F) (xs:=ys) (T:=ys) (rest:=[]) (acc:=[]) hGF hm hE hG c hc.1 hc.2 (by simp) hR.z iC (Inv.refl _) hy2 rfl ⟨fun O1 w1 acc s' a' w' zs h1 h2 h3 h4 h5=>?_,fun i O1 w1 acc s' a' w' zs h1 h2 h3 h4=>(nomatch h4),fun O1 w1 acc s' a' w' zs h1 h2 h3 h4 h5=>?_⟩ ⟨fun O1 w1 s' a' w' h1 h2 h3 h4=>?_,fun i O1 w1 s' a' w' h1 h2 h3 h4=>(nomatch h4),fun O1 w1 s' a' w' h1 h2 h3 h4=>?_⟩
 ·have:=run_pure h4
  cases this
  obtain⟨X',hX'⟩:=h2;rw[zMw]at h5;subst h5;exact xA a' w' hX'.fit.defers (.inl ⟨O1,hR.ext _ _ _ _ h1 hX'.base.ext⟩)
 ·have:=run_pure h4
  cases this
  obtain⟨X',hX'⟩:=h2;rw[zMw]at h5;subst h5;exact xA a' w' hX'.fit.defers (.inl ⟨O1,hR.ext _ _ _ _ h1 hX'.base.ext⟩)
 ·obtain⟨X',hX'⟩:=h2
  exact xA a' w' hX'.fit.defers (.inr ⟨O1,hR.extx _ _ _ h1 hX'.base.ext⟩)
 ·obtain⟨X',hX'⟩:=h2
  exact xA a' w' hX'.fit.defers (.inr ⟨O1,hR.extx _ _ _ h1 hX'.base.ext⟩)
end Go.Den
end
noncomputable section
namespace Go.Den
open Go Go.RowKit Go.Eng Go.Lift
variable {α β γ δ:Type}
def rng:Nat->Nat->List Nat
 |0,_=>[]
 |m+1,j=>j::rng m (j+1)
def initK(f:FuncId)(all:List Nat)(q:Nat):(cs:List CQ)->CR cs->CB cs->Nat->Nat->LS×MS
 | [],_,_,_,_=>([],[])
 |.r t T::l,x,y,i,j=>((i,0,.bx j 0)::(initK f all q l x.2 y (i+1) (j+1)).1,(j,0,.bx false (.rd t x.1) T)::(initK f all q l x.2 y (i+1) (j+1)).2)
 |.p t T::l,x,y,i,j=>((i,0,.bx j 0)::(initK f all q l x y.2 (i+1) (j+1)).1,(j,0,.bx false (.rd t y.1) T)::(initK f all q l x y.2 (i+1) (j+1)).2)
 |.o t T' T::l,x,y,i,j=>((i,0,.bx j 0)::(initK f all q l x y.2 (i+1) (j+1)).1,(j,0,.bx false (.ob q) T)::(q,0,.sl false t T' y.1)::(initK f all q l x y.2 (i+1) (j+1)).2)
 |.s T::l,x,y,i,j=>((i,0,.bx j 0)::(initK f all q l x y (i+1) (j+1)).1,(j,0,.bx false (.cl f .un (rJ all)) T)::(initK f all q l x y (i+1) (j+1)).2)
def Ja:List CQ->List Nat->MS->Nat->Bool
 |.r _ _::l,k::ks,M,n=>(match look M k with
  |some e=>Nat.blt e.1 n
  |none=>false) && Ja l ks M n
 |_::l,_::ks,M,n=>Ja l ks M n
 |_,_,_,_=>true
def rtK(E:VE)(f:FuncId)(fs:FK)(s:S):Comp (Sum fs.zt.D (CB fs.cs)):=match gH E.G f (rng fs.cs.length 0) s.M fs.cs (rng fs.cs.length 0) with
 |some p=>match Nat.ble p.2.2.length 1 && Ja fs.cs (rng fs.cs.length 0) s.M (fs.cs.length+2) with
  |true=>Comp.pure (.inr p.2.1)
  |false=>Comp.fail
 |none=>Comp.fail
def pnK(E:VE)(fs:FK)(s:S):Comp (Sum fs.zt.D (CB fs.cs)):=match rdO s.ep s.L [] [] (.tmp 0) with
 |some φ=>match φ.asT E.G [] fs.zt with
  |some z=>Comp.pure (.inl z)
  |none=>Comp.fail
 |none=>Comp.fail
def SN(E:VE)(f:FuncId)(c:Code)(h:H)(fs:FK)(x:fs.ps.D)(r:CR fs.cs)(y:CB fs.cs):Comp (Sum fs.zt.D (CB fs.cs)) :=
 den E c (Sum fs.zt.D (CB fs.cs)) h ⟨Ye fs.ps x 0++(initK f (rng fs.cs.length 0) fs.cs.length fs.cs r y fs.ps.len 0).1,(initK f (rng fs.cs.length 0) fs.cs.length fs.cs r y fs.ps.len 0).2,fs.cs.length+2,0⟩ (rtK E f fs)
  (fun i s=>match Nat.beq i PL with|true=>pnK E fs s|false=>Comp.fail) (rtK E f fs)
theorem Cnt.len{P:Program}{f:FuncId}{us:List Value}{O:zQ}{w:World}{G:Nat->Prop}:∀ {l:List CQ} {x:CR l} {y:CB l} {bl ts σs:List Nat} {vs:List Value},Cnt P f us O w G l x y bl ts σs vs->bl.length=l.length/\ts.length=l.length/\vs.length=σs.length
 | [],x,y,bl,ts,σs,vs,h=>by obtain⟨rfl,rfl,rfl,rfl⟩:=h;omega
 |.r t T::l,x,y,bl,ts,σs,vs,h=>by
  obtain⟨b,bl',τ,ts',cs,rfl,rfl,_,_,_,h⟩:=h;obtain⟨h1,h2,h3⟩:=h.len;grind
 |.p t T::l,x,y,bl,ts,σs,vs,h=>by
  obtain⟨b,bl',τ,ts',cs,rfl,rfl,_,_,_,h⟩:=h;obtain⟨h1,h2,h3⟩:=h.len;grind
 |.o t T' T::l,x,y,bl,ts,σs,vs,h=>by
  obtain⟨b,bl',τ,ts',σ,σs',u,vs',rfl,rfl,rfl,rfl,_,_,_,_,h⟩:=h;obtain⟨h1,h2,h3⟩:=h.len;grind
 |.s T::l,x,y,bl,ts,σs,vs,h=>by
  obtain⟨b,bl',τ,ts',rfl,rfl,_,_,h⟩:=h;obtain⟨h1,h2,h3⟩:=h.len;grind
theorem Cnt.mem{P:Program}{f:FuncId}{us:List Value}{O:zQ}{w:World}{G:Nat->Prop}:∀ {l:List CQ} {x:CR l} {y:CB l} {bl ts σs:List Nat} {vs:List Value},Cnt P f us O w G l x y bl ts σs vs->(∀b∈bl,b<w.heap.size)/\ts=bl.map O
 | [],x,y,bl,ts,σs,vs,h=>by obtain⟨rfl,rfl,rfl,rfl⟩:=h;grind
 |.r t T::l,x,y,bl,ts,σs,vs,h=>by
  obtain⟨b,bl',τ,ts',cs,rfl,rfl,h1,h2,_,h⟩:=h;obtain⟨h3,h4⟩:=h.mem;refine⟨fun c hc=>?_,by grind⟩
  rcases zMU.1 hc with rfl|hc
  ·exact h1.lt
  grind
 |.p t T::l,x,y,bl,ts,σs,vs,h=>by
  obtain⟨b,bl',τ,ts',cs,rfl,rfl,h1,h2,_,h⟩:=h;obtain⟨h3,h4⟩:=h.mem;refine⟨fun c hc=>?_,by grind⟩
  rcases zMU.1 hc with rfl|hc
  ·exact h1.lt
  grind
 |.o t T' T::l,x,y,bl,ts,σs,vs,h=>by
  obtain⟨b,bl',τ,ts',σ,σs',u,vs',rfl,rfl,rfl,rfl,_,h1,h2,_,h⟩:=h;obtain⟨h3,h4⟩:=h.mem;refine⟨fun c hc=>?_,by grind⟩
  rcases zMU.1 hc with rfl|hc
  ·exact h1.lt
  grind
 |.s T::l,x,y,bl,ts,σs,vs,h=>by
  obtain⟨b,bl',τ,ts',rfl,rfl,h1,h2,h⟩:=h;obtain⟨h3,h4⟩:=h.mem;refine⟨fun c hc=>?_,by grind⟩
  rcases zMU.1 hc with rfl|hc
  ·exact h1.lt
  grind
theorem Cnt.Cv{P:Program}{f:FuncId}{us:List Value}{O O':zQ}{w:World}{G G':Nat->Prop}(hk:zd 0 O w O' w):∀ {l:List CQ} {x:CR l} {y:CB l} {bl ts σs ts' σs':List Nat} {vs:List Value},Cnt P f us O w G l x y bl ts σs vs->ts'=bl.map O'->σs'.length=σs.length ->
  (∀(i:Nat) u σ',vs[i]?=some u->σs'[i]?=some σ'->∀g,u.ownBlock=some g->G g->O' g=σ'/\G' g)->Cnt P f us O' w G' l x y bl ts' σs' vs
 | [],x,y,bl,ts,σs,ts',σs',vs,h,h1,h2,h3=>by
  obtain⟨rfl,rfl,rfl,rfl⟩:=h;exact⟨rfl,h1,List.length_eq_zero_iff.1 h2,rfl⟩
 |.r t T::l,x,y,bl,ts,σs,ts',σs',vs,h,h1,h2,h3=>by
  obtain⟨b,bl',τ,iY,cs,rfl,rfl,g1,g2,g3,h⟩:=h;subst h1;exact⟨b,bl',O' b,_,cs,rfl,rfl,g1,rfl,GR.mono _ hk g3,Cnt.Cv hk h rfl h2 h3⟩
 |.p t T::l,x,y,bl,ts,σs,ts',σs',vs,h,h1,h2,h3=>by
  obtain⟨b,bl',τ,iY,cs,rfl,rfl,g1,g2,g3,h⟩:=h;subst h1;exact⟨b,bl',O' b,_,cs,rfl,rfl,g1,rfl,GR.mono _ hk g3,Cnt.Cv hk h rfl h2 h3⟩
 |.o t T' T::l,x,y,bl,ts,σs,ts',σs',vs,h,h1,h2,h3=>by
  obtain⟨b,bl',τ,iY,σ,σs0,u,vs',rfl,rfl,rfl,rfl,g0,g1,g2,g3,h⟩:=h;subst h1
  cases σs' with
  |nil=>grind
  |cons σ' σs' =>
   refine⟨b,bl',O' b,_,σ',σs',u,vs',rfl,rfl,rfl,rfl,g0,g1,rfl,?_,Cnt.Cv hk h rfl (by grind) fun i u' σ2 hu hσ=>h3 (i+1) u' σ2 (by grind) (by grind)⟩
   obtain⟨ws,k1,k2,k3⟩:=g3;have cM:=fun g hg=>h3 0 u σ' rfl rfl g hg (k3 g hg).2
   exact⟨ws,k1,k2.mono hk,cM⟩
 |.s T::l,x,y,bl,ts,σs,ts',σs',vs,h,h1,h2,h3=>by
  obtain⟨b,bl',τ,iY,rfl,rfl,g1,g2,h⟩:=h;subst h1;exact⟨b,bl',O' b,_,rfl,rfl,g1,rfl,Cnt.Cv hk h rfl h2 h3⟩
def nO:List CQ->Nat
 | []=>0
 |.o ..::l=>nO l+1
 |_::l=>nO l
theorem Cnt.nO{P:Program}{f:FuncId}{us:List Value}{O:zQ}{w:World}{G:Nat->Prop}:∀ {l:List CQ} {x:CR l} {y:CB l} {bl ts σs:List Nat} {vs:List Value},Cnt P f us O w G l x y bl ts σs vs->σs.length=nO l/\∀u∈vs,∀g,u.ownBlock=some g->(O g∈σs/\G g)/\g<w.heap.size
 | [],x,y,bl,ts,σs,vs,h=>by obtain⟨rfl,rfl,rfl,rfl⟩:=h;exact⟨rfl,by simp⟩
 |.r t T::l,x,y,bl,ts,σs,vs,h=>by
  obtain⟨b,bl',τ,ts',cs,rfl,rfl,h1,h2,_,h⟩:=h;exact h.nO
 |.p t T::l,x,y,bl,ts,σs,vs,h=>by
  obtain⟨b,bl',τ,ts',cs,rfl,rfl,h1,h2,_,h⟩:=h;exact h.nO
 |.o t T' T::l,x,y,bl,ts,σs,vs,h=>by
  obtain⟨b,bl',τ,ts',σ,σs',u,vs',rfl,rfl,rfl,rfl,_,h1,h2,hO,h⟩:=h;obtain⟨h3,h4⟩:=h.nO;refine⟨by grind [Den.nO],fun v hv g hg=>?_⟩
  rcases zMU.1 hv with rfl|hv
  ·exact⟨⟨by rw[hO.tagged g hg];simp,(hO.ge g hg).1⟩,(hO.ge g hg).2⟩
  grind
 |.s T::l,x,y,bl,ts,σs,vs,h=>by
  obtain⟨b,bl',τ,ts',rfl,rfl,h1,h2,h⟩:=h;exact h.nO
theorem HJ:∀ {m j k:Nat},k∈rng m j↔j<=k/\k<j+m
 |0,j,k=>by simp[rng]
 |m+1,j,k=>by simp only[rng,zMU,HJ (m:=m)];omega
theorem Ho{X:Cx}:∀ {m j:Nat} {bl:List Nat},BKs X (rng m j) bl->bl.length=m/\∀(r:Nat) b,bl[r]?=some b->X.U (j+r)=.pointer (some ⟨b,0,none⟩)
 |0,j,[],_=>⟨rfl,fun r b h=>by simp at h⟩
 |0,j,_::_,h=>h.elim
 |m+1,j,[],h=>h.elim
 |m+1,j,c::bl,h=>by
  obtain⟨h1,h2⟩:=Ho h.2;refine⟨by grind,fun r b hr=>?_⟩
  cases r with
  |zero=>simp at hr;subst hr;exact h.1
  |succ r=>grind
theorem mW{α:Type}{g:Nat->α}:∀ {m j:Nat} {l:List α},l.length=m->(∀(r:Nat) v,l[r]?=some v->g (j+r)=v)->(rng m j).map g=l
 |0,j,[],_,_=>rfl
 |m+1,j,v::l,hl,h=>by
  rw[rng,List.map_cons,show g j=v from h 0 v rfl,mW (l:=l) (by grind) fun r u hr=>by rw[show j+1+r=j+(r+1) by omega];simp_all]
theorem Kw{f:FuncId}{all:List Nat}{q:Nat}:∀ {l:List CQ} {x:CR l} {y:CB l} {i j t:Nat} {e:Nat×AV},look (initK f all q l x y i j).1 t=some e->∃r,r<l.length/\t=i+r/\e=(0,.bx (j+r) 0)
 | [],x,y,i,j,t,e,h=>nomatch h
 |.r T t'::l,x,y,i,j,t,e,h=>by
  rcases zC h with ⟨h1,h2⟩|⟨_,h2⟩
  ·exact⟨0,by simp,h1.symm,h2.symm⟩
  ·obtain⟨r,g1,g2,g3⟩:=Kw h2;exact⟨r+1,by grind,by omega,by grind⟩
 |.p T t'::l,x,y,i,j,t,e,h=>by
  rcases zC h with ⟨h1,h2⟩|⟨_,h2⟩
  ·exact⟨0,by simp,h1.symm,h2.symm⟩
  ·obtain⟨r,g1,g2,g3⟩:=Kw h2;exact⟨r+1,by grind,by omega,by grind⟩
 |.o T t' t2::l,x,y,i,j,t,e,h=>by
  rcases zC h with ⟨h1,h2⟩|⟨_,h2⟩
  ·exact⟨0,by simp,h1.symm,h2.symm⟩
  ·obtain⟨r,g1,g2,g3⟩:=Kw h2;exact⟨r+1,by grind,by omega,by grind⟩
 |.s T::l,x,y,i,j,t,e,h=>by
  rcases zC h with ⟨h1,h2⟩|⟨_,h2⟩
  ·exact⟨0,by simp,h1.symm,h2.symm⟩
  ·obtain⟨r,g1,g2,g3⟩:=Kw h2;exact⟨r+1,by grind,by omega,by grind⟩
theorem Kv{P:Program}{f:FuncId}{us:List Value}{all:List Nat}{q:Nat}{O:zQ}{w:World}{G:Nat->Prop}{X:Cx}(hP:X.P=P)(hO:X.O=O)(hq:q<X.n)(sP:((rJ all).sem X w).l us)(hG:∀g,G g->X.A g):∀ {l:List CQ} {x:CR l} {y:CB l} {i j:Nat} {bl ts σs:List Nat} {vs:List Value},Cnt P f us O w G l x y bl ts σs vs->σs.length<=1 ->
  (∀(r:Nat) b,bl[r]?=some b->X.U (j+r)=.pointer (some ⟨b,0,none⟩))->(∀(r:Nat) τ,ts[r]?=some τ->X.ι (j+r)=τ)->(∀u,vs.head?=some u->X.U q=u)->(∀σ,σs.head?=some σ->X.ι q=σ)->(∀b∈bl,X.A b) ->
  ∀ {k:Nat} {e:Nat×MV},look (initK f all q l x y i j).2 k=some e->(e.1=0/\e.2.own=true)/\e.2.holds X w k/\((∃r,r<l.length/\k=j+r)\/(k=q/\σs≠[]))
 | [],x,y,i,j,bl,ts,σs,vs,h,h1,h2,h3,h4,h5,h6,k,e,he=>nomatch he
 |.r t T::l,x,y,i,j,bl,ts,σs,vs,h,h1,h2,h3,h4,h5,h6,k,e,he=>by
  obtain⟨b,bl',τ,iY,cs,rfl,rfl,g1,g2,g3,h⟩:=h;rcases zC he with ⟨e1,e2⟩|⟨_,e2⟩
  ·subst e1 e2
   refine⟨⟨rfl,rfl⟩,⟨b,cs,h2 0 b rfl,⟨g1,h6 b (by simp),by rw[hO,g2];exact(h3 0 τ rfl).symm⟩,?_,rfl⟩,.inl ⟨0,by simp,rfl⟩⟩
   show (t.gr X.P).rel X.O w _ _
   grind
  ·obtain⟨k1,k2,k3⟩:=Kv hP hO hq sP hG h h1 (fun r b hr=>by rw[show j+1+r=j+(r+1) by omega];simp_all) (fun r b hr=>by rw[show j+1+r=j+(r+1) by omega];simp_all) h4 h5 (fun b hb=>h6 b (by grind)) e2
   exact⟨k1,k2,k3.imp (fun ⟨r,a1,a2⟩=>⟨r+1,by grind,by omega⟩) id⟩
 |.p t T::l,x,y,i,j,bl,ts,σs,vs,h,h1,h2,h3,h4,h5,h6,k,e,he=>by
  obtain⟨b,bl',τ,iY,cs,rfl,rfl,g1,g2,g3,h⟩:=h;rcases zC he with ⟨e1,e2⟩|⟨_,e2⟩
  ·subst e1 e2
   refine⟨⟨rfl,rfl⟩,⟨b,cs,h2 0 b rfl,⟨g1,h6 b (by simp),by rw[hO,g2];exact(h3 0 τ rfl).symm⟩,?_,rfl⟩,.inl ⟨0,by simp,rfl⟩⟩
   show (t.gr X.P).rel X.O w _ _
   grind
  ·obtain⟨k1,k2,k3⟩:=Kv hP hO hq sP hG h h1 (fun r b hr=>by rw[show j+1+r=j+(r+1) by omega];simp_all) (fun r b hr=>by rw[show j+1+r=j+(r+1) by omega];simp_all) h4 h5 (fun b hb=>h6 b (by grind)) e2
   exact⟨k1,k2,k3.imp (fun ⟨r,a1,a2⟩=>⟨r+1,by grind,by omega⟩) id⟩
 |.o t T' T::l,x,y,i,j,bl,ts,σs,vs,h,h1,h2,h3,h4,h5,h6,k,e,he=>by
  obtain⟨b,bl',τ,iY,σ,σs0,u,vs',rfl,rfl,rfl,rfl,g0,g1,g2,g3,h⟩:=h;have iZ:σs0=[]:=by simp_all
  subst iZ;have hUq:=h4 u rfl
  rcases zC he with ⟨e1,e2⟩|⟨_,e2⟩
  ·subst e1 e2
   refine⟨⟨rfl,rfl⟩,⟨b,#[u],h2 0 b rfl,⟨g1,h6 b (by simp),by rw[hO,g2];exact(h3 0 τ rfl).symm⟩,⟨u,rfl,g0,hUq.symm,hq,g0⟩,rfl⟩,.inl ⟨0,by simp,rfl⟩⟩
  ·rcases zC e2 with ⟨e3,e4⟩|⟨_,e4⟩
   ·subst e3 e4
    refine⟨⟨rfl,rfl⟩,?_,.inr ⟨rfl,by simp⟩⟩
    show zq _ _ _ _ _ _ _ _
    rw[hUq,h5 σ rfl,hP,hO];exact zq.zIt g3 fun g hg=>hG g hg
   ·have sT:vs'=[]:=by have:=h.len.2.2;grind
    subst sT;obtain⟨k1,k2,k3⟩:=Kv hP hO hq sP hG h (by simp) (fun r b hr=>by rw[show j+1+r=j+(r+1) by omega];simp_all) (fun r b hr=>by rw[show j+1+r=j+(r+1) by omega];simp_all) (fun u hu=>by grind) (fun u hu=>by grind) (fun b hb=>h6 b (by grind)) e4
    exact⟨k1,k2,k3.imp (fun ⟨r,a1,a2⟩=>⟨r+1,by grind,by omega⟩) fun h=>zMg rfl h.2⟩
 |.s T::l,x,y,i,j,bl,ts,σs,vs,h,h1,h2,h3,h4,h5,h6,k,e,he=>by
  obtain⟨b,bl',τ,iY,rfl,rfl,g1,g2,h⟩:=h;rcases zC he with ⟨e1,e2⟩|⟨_,e2⟩
  ·subst e1 e2
   refine⟨⟨rfl,rfl⟩,⟨b,_,h2 0 b rfl,⟨g1,h6 b (by simp),by rw[hO,g2];exact(h3 0 τ rfl).symm⟩,⟨_,rfl,rfl,[],_,rfl,sP,rfl⟩,?_⟩,.inl ⟨0,by simp,rfl⟩⟩
   show (false || (rJ all).zg)=false;rw[qI];rfl
  ·obtain⟨k1,k2,k3⟩:=Kv hP hO hq sP hG h h1 (fun r b hr=>by rw[show j+1+r=j+(r+1) by omega];simp_all) (fun r b hr=>by rw[show j+1+r=j+(r+1) by omega];simp_all) h4 h5 (fun b hb=>h6 b (by grind)) e2
   exact⟨k1,k2,k3.imp (fun ⟨r,a1,a2⟩=>⟨r+1,by grind,by omega⟩) id⟩
theorem Wx{f:FuncId}{all alls:List Nat}{q n:Nat}{G:FE}{M M0:MS}(fW:∀k e,look M k=some e->e.1<n->look M0 k=some e):∀ {l:List CQ} {x x':CR l} {y y':CB l} {qs:List (Option Nat)} {i j:Nat},(∀k e,j<=k->k≠q->look M0 k=some e->look (initK f all q l x y i j).2 k=some e)->j+l.length<=q->gH G f alls M l (rng l.length j)=some (x',y',qs)->Ja l (rng l.length j) M n=true->x'=x:=by
 intro l
 induction l with
 |nil=>intro x x' y y' qs i j _ _ _ _;rfl
 |cons c l ih =>
  intro x x' y y' qs i j h0 hq hi hf;simp only[zMY]at hq
  cases c with
  |r t T =>
   simp only[zMY,rng,gH]at hi;simp only[zMY,rng,Ja,zMQ]at hf;split at hi
   ·rename_i st nw t' x1 T' hk
    split at hi
    ·rename_i x0 p hT hc hp
     cases hi
     rw[hk]at hf;have h1:=h0 j _ (zMS _) (by omega) (fW j _ hk (by grind [zb]))
     simp only[initK,look,Nat.beq_refl,cond_true,zMn,Prod.mk.injEq,MV.bx.injEq,AV.rd.injEq]at h1;obtain⟨_,_,⟨h2,h3⟩,_⟩:=h1;obtain⟨e1,e2⟩:=Ty.jO hc;have hx:x0=x.1:=by
      subst e1;have h3:=eq_of_heq h3
      rw[<-e2,h3];rfl
     have dF:p.1=x.2:=ih (x:=x.2) (i:=i+1) (j:=j+1) (fun k e i6 xO bN=>by
      have:=h0 k e (by omega) xO bN
      rcases zC this with ⟨g1,_⟩|⟨_,g2⟩
      ·omega
      ·exact g2) (by omega) hp hf.2
     exact Prod.ext hx dF
    ·cases hi
   ·cases hi
  |p t T =>
   simp only[zMY,rng,gH]at hi;simp only[zMY,rng,Ja]at hf;split at hi
   ·split at hi
    ·rename_i x0 p hT hc hp
     cases hi
     exact ih (x:=x) (y:=y.2) (i:=i+1) (j:=j+1) (fun k e i6 xO bN=>by
      have:=h0 k e (by omega) xO bN
      rcases zC this with ⟨g1,_⟩|⟨_,g2⟩
      ·omega
      ·exact g2) (by omega) hp hf
    ·cases hi
   ·cases hi
  |s T =>
   simp only[zMY,rng,gH]at hi;simp only[zMY,rng,Ja]at hf;split at hi
   ·split at hi
    ·rename_i p hT hc hp
     cases hi
     exact ih (x:=x) (y:=y) (i:=i+1) (j:=j+1) (fun k e i6 xO bN=>by
      have:=h0 k e (by omega) xO bN
      rcases zC this with ⟨g1,_⟩|⟨_,g2⟩
      ·omega
      ·exact g2) (by omega) hp hf
    ·cases hi
   ·cases hi
  |o t T' T =>
   simp only[zMY,rng,gH]at hi;simp only[zMY,rng,Ja]at hf;have key:∀k e,j+1<=k->k≠q->look M0 k=some e->look (initK f all q l x y.2 (i+1) (j+1)).2 k=some e:=fun k e i6 xO bN=>by
    have:=h0 k e (by omega) xO bN
    rcases zC this with ⟨g1,_⟩|⟨_,g2⟩
    ·omega
    grind [zC]
   split at hi
   ·split at hi
    ·split at hi
     ·rename_i xs p oE hx hp
      cases hi
      exact ih (x:=x) (y:=y.2) (i:=i+1) (j:=j+1) key (by omega) hp hf
     ·cases hi
    ·split at hi
     ·rename_i p hn hp
      cases hi
      exact ih (x:=x) (y:=y.2) (i:=i+1) (j:=j+1) key (by omega) hp hf
     ·cases hi
    ·cases hi
   ·cases hi
theorem zEz{P:Program}{E:VE}(hE:E.ok P)(hm:P.follows .mixedOrders=true){f:FuncId}{fn:Func}{c:Code}{h:H}{fs:FK}(hF:FnOk P f)(hf:P.funcs[f]?=some fn)(hb:fn.body=some c)(hc:okC fn.ntmps c=true)(aX:kj c=true)(tS:fn.results=#[])(hl:Nat.ble (fs.ps.len+fs.cs.length) fn.ntmps=true)(hN:Nat.blt 0 fn.ntmps=true)(hZ:fs.zT=E.Z)
  (hs:∀x c' y,SN E f c h fs x c' y=fs.sem x c' y):fs.ok P f:=by
 refine⟨hF,fun O w hO vs x cr y bl ts σs ss G ha hC sC h0 hGG hσ n r hr=>?_⟩
 rw[<-hs x cr y]at hr;obtain⟨dS,xR,hC6⟩:=hC.len;obtain⟨hblt,htsO⟩:=hC.mem;have hA9:=Z1 ha
 have fH:=Nat.le_of_ble_eq_true hl;have fL:=ki (vs++K4 bl).toArray fn.ntmps (by grind)
 have fC:∀(j:Nat) v,(vs++K4 bl)[j]?=some v->Act.get { tmps:=(vs++K4 bl).toArray++Array.replicate (fn.ntmps-(vs++K4 bl).toArray.size) undef,defers:=[] } j=v:=fun j v hj=>kh (by grind)
 refine callsIn_wide.1 (callsIn_of_wp_marks (n:=0) hf hb trivial ?_);generalize ({ tmps:=(vs++K4 bl).toArray++Array.replicate (fn.ntmps-(vs++K4 bl).toArray.size) undef,defers:=[] }:Act)=a at fL fC |-
 let m:=fs.cs.length
 let all:=rng m 0
 let A:Nat->Prop:=fun b=>(b∈bl\/G b)\/w.heap.size<=b
 let U:Nat->Value:=fun k=>if k<m then .pointer (some ⟨bl.getD k 0,0,none⟩) else ss.headD .nilIface
 let ι:Nat->Nat:=fun k=>if k<m then ts.getD k 0 else σs.headD 0
 let s0:S:=⟨Ye fs.ps x 0++(initK f all m fs.cs cr y fs.ps.len 0).1,(initK f all m fs.cs cr y fs.ps.len 0).2,m+2,0⟩
 let X:Cx:=⟨P,O,U,m+2,ι,A,Go.Lift.Fr w,0,0⟩
 obtain⟨st,⟨iX,_⟩,f8⟩:=ZE ι s0.M 0
 let F:Frm:=⟨P,fn.ntmps,[],A,O,w,fun _ _=>False,0,bl,{ FrX.no st O w with nr:=true }⟩
 have hU:∀(r:Nat) b,bl[r]?=some b->U r=.pointer (some ⟨b,0,none⟩):=fun r b hr=>by
  grind
 have hι:∀(r:Nat) τ,ts[r]?=some τ->ι r=τ:=fun r τ hr=>by
  grind
 have hUm:∀u,ss.head?=some u->U m=u:=fun u hu=>by
  grind
 have hιm:∀σ,σs.head?=some σ->ι m=σ:=fun u hu=>by
  grind
 have hptr:∀k∈all,k<X.n/\∃b,X.U k=.pointer (some ⟨b,0,none⟩):=fun k hk=>by
  have:=HJ.1 hk;have gF:k<bl.length:=by omega
  exact⟨by grind,_,hU k _ (zMu gF)⟩
 have cO:all.map X.U=K4 bl:=mW (by grind) fun r v hr=>by
  grind
 have sP:((rJ all).sem X w).l (K4 bl):=by grind [qm]
 have hM:=fun {k e}=>Kv (X:=X) (q:=m) (all:=all) (i:=fs.ps.len) (j:=0) rfl rfl (by grind) sP (fun g hg=>.inl (.inr hg)) hC hσ (fun r b hr=>by grind) (fun r b hr=>by grind) hUm hιm (fun b hb=>.inl (.inl hb)) (k:=k) (e:=e)
 have cA:∀ {k e},look s0.M k=some e->(∃t,(ts++σs)[k]?=some t/\ι k=t)/\k<m+1:=fun {k e} he=>by
  obtain⟨_,_,h3⟩:=hM he;rcases h3 with ⟨r,h4,h5⟩|⟨h4,h5⟩
  ·grind
  ·subst h4
   cases σs with
   |nil=>grind
   |cons σ σs=>exact⟨⟨σ,by rw[zMf (by omega),xR];simp[m],hιm σ rfl⟩,zMc _⟩
 have hL:∀ {t e},look s0.L t=some e->e.1=0/\e.2.holds X w (a.get t):=fun {t e} he=>by
  rcases gC he with h1|⟨_,h1⟩
  ·exact Zz (X:=X) (a:=a) (i:=0) rfl rfl ha (fun j v hj=>by grind) h1
  ·obtain⟨q,h2,h3,h4⟩:=Kw h1
   subst h3 h4;have gF:q<bl.length:=by omega
   have hg:=fC (fs.ps.len+q) (.pointer (some ⟨bl[q],0,none⟩)) (by rw[zMf (by omega),hA9,Nat.add_sub_cancel_left];simp[gF])
   refine⟨rfl,by grind,bl[q],?_,?_⟩
   ·grind
   ·rw[hg]
 have hX0:RelX F s0 a w X:=by
  refine⟨rfl,rfl,rfl,rfl,rfl,hO,fL,⟨rfl,rfl,rfl,zMS _,fun _ _ _=>rfl,hO,fun _ _ _=>rfl,fun _ _ h=>h,fun b hb=>.inr hb⟩,fun t e he _=>(hL he).2,fun k e he=>(hM he).2.1,fun t e he=>by grind,fun k e he=>⟨by grind,by grind⟩,fun k k' e e' he he' _ _ fV=>?_,fun k e he _=>⟨fun hz=>?_,f8 k e he⟩,Nat.zero_le _,Nat.succ_pos _,fun _ _ h=>h.elim,⟨by grind,fun j b hj=>hU j b hj⟩,?_⟩
  ·obtain⟨⟨t,a1,a2⟩,_⟩:=cA he
   obtain⟨⟨t',b1,b2⟩,_⟩:=cA he';have fV:ι k=ι k':=fV
   rw[a2,b2]at fV;subst fV;exact(List.getElem?_inj (zMW.1 a1).1 sC).1 (a1.trans b1.symm)
  ·obtain⟨⟨t,a1,a2⟩,_⟩:=cA he
   grind
  ·exact⟨iX,fun _ _ h=>h.elim,fun _ _ h=>h.elim,zd.refl _ _ _,rfl⟩
 have hWA:∀b,b<w.heap.size->¬(b∈bl\/G b)->¬A b:=fun b hb hn hA=>hA.elim hn fun h=>zMg hb (Nat.not_lt.2 h)
 have hWnz:∀b,(b∈bl\/G b)->O b≠0:=fun b hW hz=>by
  grind
 -- tags at the end
 have sF:∀ {X':Cx} {w':World} (g0:Option Nat) (σ:Nat),Base A O w X'.O w'->(∀g,g0=some g->X'.O g≠0/\g<w'.heap.size)->∃O'':zQ,zd 0 X'.O w' O'' w'/\KeepK (fun b=>b∈bl\/G b) O w O'' w'/\(∀b,b<w.heap.size->O'' b=O b)/\∀g,g0=some g->w.heap.size<=g->O'' g=σ:=by
  intro X' w' g0 σ hB hg0;refine⟨fun b=>if b<w.heap.size then O b else if g0=some b then σ else X'.O b,⟨zMS _,fun b hb hz=>⟨?_,rfl⟩⟩,⟨hB.os,hB.tape,hB.output,hB.size,fun b hb hn=>hB.block b hb (hWA b hb hn),fun b hb _=>zMq hb,fun b hb hW=>?_,fun b hb=>?_⟩,fun b hb=>zMq hb,fun g hg t6=>?_⟩
  ·show (if b<w.heap.size then O b else if g0=some b then σ else X'.O b)=0
   split
   ·exact hB.zero b hb hz
   grind
  ·grind
  ·have t6:=hB.size
   show (if b<w.heap.size then O b else if g0=some b then σ else X'.O b)=0
   rw[zMr (by omega),zMr fun e=>by grind]
   exact hB.ok b hb
  grind
 have xF:∀F' s' a' w',F.To F'->Rel F' s' a' w'->Inv s0 s'->(rtK E f fs s').run n=some r->LeavesInM Fence.wide 0 P fn a'.tmps (fs.post P f cr O w bl ts σs G r) a'.defers .returning w':=by
  intro F' s' a' w' hT h' hi hr;have x8:=hT.nr rfl
  subst x8;refine leaves (.refl F) rfl (fun _ _ h=>h) (zMS _) h' fun q n' ep' w2 hX'=>?_
  obtain⟨X',hX'⟩:=hX';have hP:X'.P=P:=hX'.P
  have hE':E.ok X'.P:=by grind
  unfold rtK at hr;split at hr
  ·rename_i p hp
   split at hr
   ·rename_i dG
    rw[zMQ]at dG;have e:=run_pure hr
    subst e;have hfk:=dG.2
    have dG:=Nat.le_of_ble_eq_true dG.1;obtain⟨i1,i2,bl2,ss2,i3,i4⟩:=Kh (fr:=0) hE'.G hX'.m hp;obtain⟨sY,aT⟩:=Ho i3;have hbl2:bl2=bl:=by
     refine List.ext_getElem? fun r=>?_
     by_cases hr:r<m
     ·have e1:bl2[r]?=some bl2[r]:=zMu (by omega)
      have e2:bl[r]?=some bl[r]:=zMu (by omega)
      have q1:=aT r _ e1;have q2:=hX'.bl.2 r _ e2
      rw[Nat.zero_add,q2]at q1;simp only[Value.pointer.injEq,zMn,Addr.mk.injEq,and_true]at q1;rw[e1,e2,q1]
     ·rw[List.getElem?_eq_none (by omega),List.getElem?_eq_none (by omega)]
    subst hbl2;have hus':(rng m 0).map X'.U=K4 bl2:=mW (by simp[sY];rfl) fun r v hr=>by
     rw[List.getElem?_map,Option.map_eq_some_iff]at hr;obtain⟨b,hb,rfl⟩:=hr;exact aT r b hb
    have hC':=i4 (lv X' p.2.2) fun g hg=>hg
    have aN:p.1=cr:=Wx (f:=f) (all:=all) (q:=m) (x:=cr) (y:=y) (i:=fs.ps.len) (j:=0) hi.m (fun k e _ _ h=>h) (by omega) hp hfk
    rw[aN]at hC';rw[hus',hP]at hC';obtain⟨n1,n2⟩:=hC'.nO;have n3:=hC.nO.1
    have cB:Base A O w X'.O w2:=hX'.base
    -- its slice
    have xI:∀g,lv X' p.2.2 g->A g/\X'.O g≠0/\g ∉ bl2:=fun g hg=>by
     obtain⟨j,hj,hg⟩:=hg;obtain⟨st',nw,t,T',xs',hl'⟩:=i2 j hj;have hOj:=hX'.m j _ hl'
     change zq (X'.ι j) (t.gr X'.P) T' (X'.B nw) X'.O w2 (X'.U j) xs' at hOj
     refine⟨(hX'.okB nw).sub _ (hOj.ge g hg).1,by rw[hOj.tagged g hg];exact(hX'.pos j _ hl' rfl).1,fun hm=>?_⟩
     obtain⟨k,i6,xO⟩:=i3.mem g hm;obtain⟨st2,nw2,c2,T2,bN⟩:=i1 k i6;obtain⟨b',cs',k1,k2,k3,k4⟩:=hX'.m k _ bN;rw[xO]at k1;simp only[Value.pointer.injEq,zMn,Addr.mk.injEq,and_true]at k1;subst k1;have:=hX'.inj j k _ _ hl' bN rfl rfl ((hOj.tagged g hg).symm.trans k2.tag)
     subst this;rw[hl']at bN;cases bN
    have hss:∀u∈ss2,∀g,u.ownBlock=some g->lv X' p.2.2 g/\g<w2.heap.size:=fun u hu g hg=>⟨(n2 u hu g hg).1.2,(n2 u hu g hg).2⟩
    obtain⟨O'',q1,q2,q3,q4⟩:=sF (X':=X') (w':=w2) (ss2.head?.bind Value.ownBlock) (σs.headD 0) cB fun g hg=>by
     cases ss2 with
     |nil=>cases hg
     |cons u ss2=>exact⟨(xI g (hss u (by simp) g hg).1).2.1,(hss u (by simp) g hg).2⟩
    refine⟨_,by simp[results,tS];rfl,O'',q2,⟨_,rfl⟩,ss2,Cnt.Cv q1 hC' ?_ (by omega) fun i u σ' hu hσ' g hg hQ=>?_⟩
    ·rw[htsO];exact List.map_congr_left fun b hb=>(q3 b (hblt b hb)).symm
    ·have hi:i=0:=by have:=(zMW.1 hσ').1;omega
     subst hi;obtain⟨h1,h2,h3⟩:=xI g hQ;have hσh:σs.headD 0=σ':=by cases σs with|nil=>simp at hσ'|cons _ _=>simpa using hσ'
     by_cases gF:g<w.heap.size
     ·have hGg:G g:=by
       rcases h1 with (h1|h1)|h1
       ·exact zMg h1 h3
       ·exact h1
       ·omega
      refine⟨?_,.inr hGg⟩;rw[q3 g gF];have sQ:=(hGG g hGg).2
      cases σs with
      |nil=>cases sQ
      |cons σ σs =>
       cases σs with
       |nil=>simp at sQ hσ';omega
       |cons _ _=>simp at hσ
     ·refine⟨?_,.inl (Nat.le_of_not_lt gF)⟩
      rw[q4 g ?_ (Nat.le_of_not_lt gF),hσh]
      cases ss2 with
      |nil=>simp at hu
      |cons v ss2=>simp at hu;subst hu;exact hg
   ·cases hr
  ·cases hr
 refine Ym c (F:=F) hm (fun _ _ h=>h) hE hc (.inr aX) rfl ⟨X,hX0⟩ (Inv.refl _) hr ⟨fun F' s' a' w' h0 h1 hi h2=>xF F' s' a' w' h0 h1 hi h2,fun i fE F' s' a' w' _ _ _ h2=>?_,fun F' s' a' w' h0 h1 hi h2=>xF F' s' a' w' h0 h1 hi h2,fun F' s' a'' v0 w' hT h1 _ h2=>?_⟩
 ·rw[show Nat.beq i PL=false by rw[zX];grind]at h2;cases h2
 ·have x8:=hT.nr rfl
  subst x8;obtain⟨X',hX'⟩:=h1;have hP:X'.P=P:=hX'.P
  rw[Nat.beq_refl]at h2
  change (pnK E fs s').run n=some r at h2
  unfold pnK at h2;split at h2
  ·rename_i φ oH
   split at h2
   ·rename_i z hz
    have e:=run_pure h2;subst e;have hdd:a''.defers=[]:=(Act.put_defers a'' (some 0) v0).symm.trans hX'.fit.defers
    show LeavesInM Fence.wide 0 P fn a''.tmps _ a''.defers (.panicking _) w'
    rw[hdd];rw[<-hX'.ep]at oH;have hv:=hX'.rd #[.tmp 0] (.tmp 0) _ (by simp) oH
    change φ.holds X' w' ((a''.put (some 0) v0).get 0) at hv
    rw[yW (wX hX'.fit) (tF hN)]at hv;obtain⟨O'',q1,q2,_,_⟩:=sF (X':=X') (w':=w') none 0 hX'.base fun g hg=>nomatch hg
    refine⟨O'',q2,v0,?_,?_⟩
    ·rw[hZ]
    ·have hE':E.ok X'.P:=by grind
     have:=GR.yk _ (AV.Z0 hE'.G (M:=[]) (fun k e he=>nomatch he) hz hv) q1
     grind
   ·cases h2
  ·cases h2
def cl:Code->Code
 |.seq a _=>a
 |c=>c
def cr:Code->Code
 |.seq _ b=>b
 |c=>c
def opsOf:Code->List Oper
 |.region _ ops _=>ops.toList
 |_=>[]
structure RecG(P:Program)(g:FuncId)(gn:Func)(R0 rest:Code)(m se so:Nat)(T:TypeId)(zt:Ty):Prop where
 fn:P.funcs[g]?=some gn
 ok:FnOk P g
 body:gn.body=some (.seq R0 rest)
 res:gn.results=#[]
 sl:m<=se/\m<=so/\se≠so
 pan:∀(caps:List Value),caps.length=m->∀(c₀:Frame) cs w v,(∃O w z,(zt.gr P).v O w v z)->c₀.mode=.panicking [{ v:=.iface T v,recovered:=false }]->∀Q:Exit->Act->List Frame->World->Prop,
  (∀a1 w1,Ext w w1->a1.fitD gn.ntmps []->(∀(i:Nat) u,caps[i]?=some u->a1.get i=u)->a1.get se=v->a1.get so=.bool true->Q .normal a1 ({ c₀ with mode:=.panicking [{ v:=.iface T v,recovered:=true }] }::cs) w1) ->
  R0.wpSIn Fence.wide 0 P Q { tmps:=caps.toArray++Array.replicate (gn.ntmps-caps.toArray.size) undef,defers:=[] } (c₀::cs) w
 ret:∀(caps:List Value),caps.length=m->∀(c₀:Frame) cs w,c₀.mode=.returning->∀Q:Exit->Act->List Frame->World->Prop,
  (∀a1 w1,Ext w w1->a1.fitD gn.ntmps []->(∀(i:Nat) u,caps[i]?=some u->a1.get i=u)->a1.get so=.bool false->Q .normal a1 (c₀::cs) w1) ->
  R0.wpSIn Fence.wide 0 P Q { tmps:=caps.toArray++Array.replicate (gn.ntmps-caps.toArray.size) undef,defers:=[] } (c₀::cs) w
def H4(n:Nat):List Nat->Nat->LS
 | [],_=>[]
 |k::l,i=>(i,n,.bx k 0)::H4 n l (i+1)
theorem pz{n:Nat}:∀ {l:List Nat} {i t:Nat} {e:Nat×AV},look (H4 n l i) t=some e->∃r k,l[r]?=some k/\t=i+r/\e=(n,.bx k 0)
 | [],_,_,_,h=>nomatch h
 |k::l,i,t,e,h=>by
  rcases zC h with ⟨h1,h2⟩|⟨_,h2⟩
  ·exact⟨0,k,rfl,h1.symm,h2.symm⟩
  ·obtain⟨r,k',g1,g2,g3⟩:=pz h2;exact⟨r+1,k',g1,by omega,g3⟩
def AP(E:VE)(rest:Code)(hG:H)(se so:Nat)(ks:List Nat)(s:S)(e:AV)(ok:Bool)(k:S->Comp β):Comp β :=
 den E rest β hG ⟨H4 s.n ks 0++[(se,s.n,e),(so,s.n,.rd .bool ok)],s.M,s.n+1,s.ep⟩ (fun s2=>k (s2.back (JY s.n s.L)).tick) (fun _ _=>Comp.fail) (fun s2=>k (s2.back (JY s.n s.L)).tick)
def zFk(T:TypeId)(v:Value):Bool->FrameMode
 |true=>.panicking [{ v:=.iface T v,recovered:=false }]
 |false=>.returning
section
variable {F:Frm} {E:VE}
theorem Qr{g:FuncId}{gn:Func}{R0 rest:Code}{m se so:Nat}{T:TypeId}{zt:Ty}{P:Program}(hP:F.P=P)(hg:RecG P g gn R0 rest m se so T zt)(hm:P.follows .mixedOrders=true)(hE:E.ok P)(kA:okC gn.ntmps rest=true)(aX:kj rest=true)(fD:∀t φ,¬F.Lh t φ)(sD:F.x.sb=F.w0.heap.size)(tR:F.x.rd=none)(hxn:F.x.nr=true)
  {ks:List Nat} {us:List Value} (d9:ks.length=m) (cO:us.length=m) (sP:∀(i k:Nat) u,ks[i]?=some k->us[i]?=some u->F.x.kv u (.bx k 0)) (hD:F.D=[{ target:=.fn (.func g) us.toArray,args:=#[] }])
  {fn:Func} {R:Ending->World->Prop} {s:S} {a:Act} {w:World} (hR:Rel F s a w) {e:AV} {ok:Bool} {v:Value} (he:ok=true->e.zg=false/\(∃O w z,(zt.gr P).v O w v z)/\∃X,RelX F s a w X/\e.holds X w v) (hft:ok=false->e=.top) {hG:H} {k:S->Comp β} {nf:Nat} {y:β} (hr:(AP E rest hG se so ks s e ok k).run nf=some y)
  (hk:∀s' w',Rel F s' a w'->(k s').run nf=some y->∃v,(results fn a.tmps).run P w'=.ok v w'/\R (.returned v) w') :
  LeavesInM Fence.wide 0 P fn a.tmps R a.defers (zFk T v ok) w:=by
 subst hP
 -- what is known in all
 obtain⟨X,hX,heX⟩:∃X,RelX F s a w X/\(ok=true->e.holds X w v):=by
  cases ok with
  |true=>grind
  |false=>obtain⟨X,h1⟩:=hR;grind
 have hef:e.zg=false:=by
  cases ok with
  |true=>grind
  |false=>rw[hft rfl];rfl
 rw[show a.defers=F.D from hX.fit.defers,hD]
 obtain⟨gn',k1,k2,k3⟩:=hg.ok.h;have hinv:(invoke (Target.fn (.func g) us.toArray) #[]).run F.P w=.ok (.enter g us.toArray) w:=by
  grind [invoke,callFunc,run_program,Sem.run_bind,Sem.run_pure,Result.andThen]
 let L1:=JY s.n s.L
 have o8:∀t e,look L1 t=some e->e.2.zg=false:=fun t e he=>(jI he).1
 let kv1:Value->AV->Prop:=fun u φ=>F.x.kv u φ\/∃t e,look L1 t=some e/\u=a.get t/\φ=e.2
 let F1:Frm:={ F with N:=gn.ntmps,D:=[],x:={ F.x with kv:=kv1 } }
 have hXn:∀t e,look L1 t=some e->e.2.holds X w (a.get t):=fun t e he=>by
  rcases(jI he).2 with h1|h1
  ·exact hX.l t e h1 (by grind [fresh])
  ·rw[h1];trivial
 -- behind its first region
 have xD:∀(a1:Act) (w1:World) (cs':List Frame) (c₀:Frame) (cs:List Frame) (u':FrameMode),Ext w w1->a1.fitD gn.ntmps []->(∀(i:Nat) u,us[i]?=some u->a1.get i=u)->(ok=true->a1.get se=v)->a1.get so=.bool ok->cs'={ c₀ with mode:=u' }::cs->settle u'=.returning ->
   rest.wpSIn Fence.wide 0 F.P (bodyPostS F.P gn c₀ cs fun e u w=>match e with
    |.returned _=>LeavesInM Fence.wide 0 F.P fn a.tmps R [] (settle u) w
    |.panicked chain=>LeavesInM Fence.wide 0 F.P fn a.tmps R [] (raised u chain) w
    |.outgrown=>R .outgrown w) a1 cs' w1:=by
  intro a1 w1 cs' c₀ cs u' fY fL hC7 hse hso xB bT;subst xB;have xN:=hX.ext fY
  have fH:X.le w X w1:=X.le_ext fY
  let X2:Cx:={ X with n:=s.n+1 }
  have bD:X.le w X2 w1:=⟨rfl,zd.ext fY,fun _ _=>rfl,by rw[hX.n];grind,rfl⟩
  have hle3:X.le w1 X2 w1:=⟨rfl,zd.refl _ _ _,fun _ _=>rfl,by rw[hX.n];grind,rfl⟩
  have hex:Exx F1.x X2 w1:=⟨xN.ex.st,xN.ex.sys,fun u φ hu=>by
   rcases hu with hu|⟨t,e,he,rfl,rfl⟩
   ·have h1:=xN.ex.kv u φ hu
    exact⟨h1.1,φ.le h1.1 hle3 h1.2⟩
   ·exact⟨o8 t e he,e.2.le (o8 t e he) bD (hXn t e he)⟩,xN.ex.since,xN.ex.L⟩
  have hL2:∀t e',look (H4 s.n ks 0++[(se,s.n,e),(so,s.n,.rd .bool ok)]) t=some e'->e'.1=s.n/\e'.2.holds X2 w1 (a1.get t):=fun t e' he'=>by
   rcases gC he' with h1|⟨_,h1⟩
   ·obtain⟨r,k,q1,q2,q3⟩:=pz h1
    subst q2 q3;have gF:r<us.length:=by grind
    have hu:=zMu gF;have hb:=(hex.kv _ _ (.inl (sP r k _ q1 hu))).2
    grind
   ·rcases zC h1 with ⟨q1,q2⟩|⟨_,h2⟩
    ·subst q1 q2
     refine⟨rfl,?_⟩
     cases ok with
     |true=>show e.holds X2 w1 (a1.get se);rw[hse rfl];exact e.le hef bD (heX rfl)
     |false=>show e.holds X2 w1 _;rw[hft rfl];trivial
    ·rcases zC h2 with ⟨q1,q2⟩|⟨_,h3⟩
     ·subst q1 q2
      refine⟨rfl,?_⟩;rw[hso];exact kB.2 rfl
     ·cases h3
  have xZ:RelX { F with x:=F.x } ⟨s.L,s.M,s.n+1,s.ep⟩ a w1 X2:=xN.go xN.fit rfl rfl rfl (fun _ _=>zd.refl _ _ _) (fun _ _=>rfl) rfl xN.ep (zMb _) (Nat.le_succ_of_le xN.epn) xN.base (fun hf=>⟨hf,Ext.refl _⟩) (fun _ _ _=>rfl) (fun t e he=>.inr ⟨he,rfl,fun _ hf=>⟨hf,Ext.refl _⟩⟩) (fun k e he=>.inr ⟨he,rfl,fun _=>zd.refl _ _ _⟩) xN.inj xN.pos
  have hB1:RelX F1 ⟨H4 s.n ks 0++[(se,s.n,e),(so,s.n,.rd .bool ok)],s.M,s.n+1,s.ep⟩ a1 w1 X2 :=
   xZ.conv (F':=F1) (L':=H4 s.n ks 0++[(se,s.n,e),(so,s.n,.rd .bool ok)]) rfl rfl rfl rfl fD rfl rfl rfl fL (fun t e he _=>(hL2 t e he).2) (fun t e he=>by grind) hex
  have hfin:∀F2 s2 a2 w2,F1.To F2->Rel F2 s2 a2 w2->Inv ⟨H4 s.n ks 0++[(se,s.n,e),(so,s.n,.rd .bool ok)],s.M,s.n+1,s.ep⟩ s2->(k (s2.back (JY s.n s.L)).tick).run nf=some y->a2.defers=[]/\∃v,(results gn a2.tmps).run F.P w2=.ok v w2/\LeavesInM Fence.wide 0 F.P fn a.tmps R [] (settle u') w2:=by
   intro F2 s2 a2 w2 hT ⟨Xc,bC⟩ hi xO;have x8:=hT.nr hxn
   subst x8;refine⟨bC.fit.defers,_,by simp[results,hg.res];rfl,?_⟩
   rw[bT];have cT:RelX F (s2.back L1) a w2 Xc:=by
    refine bC.conv (F':=F) (L':=L1) rfl rfl rfl rfl fD rfl rfl rfl hX.fit (fun t e he _=>?_) (fun t e he=>?_) ⟨bC.ex.st,bC.ex.sys,fun u φ hu=>bC.ex.kv u φ (.inl hu),bC.ex.since,bC.ex.L⟩
    ·exact(bC.ex.kv _ _ (.inr ⟨t,e,he,rfl,rfl⟩)).2
    ·have gF:e.1<s.n+1:=by
      rcases(jI he).2 with h1|h1
      ·exact Nat.lt_succ_of_lt (hX.ln t e h1)
      grind
     exact zMd gF hi.le
   have nK:RelX F (s2.back L1).tick a w2 { Xc with n:=s2.n+1,ep:=s2.n }:=by
    refine cT.go cT.fit rfl rfl rfl (fun _ _=>zd.refl _ _ _) (fun _ _=>rfl) rfl rfl (zMb _) (zMb _) cT.base (fun hf=>zMg (hf:s2.n<=F.fe) (Nat.not_le.2 cT.fe)) (fun _ _ _=>rfl) (fun t e he=>.inr ⟨he,rfl,fun f9 _=>?_⟩) (fun k e he=>.inr ⟨he,rfl,fun _=>zd.refl _ _ _⟩) cT.inj cT.pos
    rw[o8 t e he]at f9;cases f9
   exact hk _ _ ⟨_,nK⟩ xO
  have hden:rest.wpIn Fence.wide 0 F.P (fun e a' w'=>bodyPostS F.P gn c₀ cs (fun e u w=>match e with
    |.returned _=>LeavesInM Fence.wide 0 F.P fn a.tmps R [] (settle u) w
    |.panicked chain=>LeavesInM Fence.wide 0 F.P fn a.tmps R [] (raised u chain) w
    |.outgrown=>R .outgrown w) e a' ({ c₀ with mode:=u' }::cs) w') a1 w1:=by
   have hd:=Ym rest (F:=F1) (Q:=fun e a' w'=>bodyPostS F.P gn c₀ cs (fun e u w=>match e with
    |.returned _=>LeavesInM Fence.wide 0 F.P fn a.tmps R [] (settle u) w
    |.panicked chain=>LeavesInM Fence.wide 0 F.P fn a.tmps R [] (raised u chain) w
    |.outgrown=>R .outgrown w) e a' ({ c₀ with mode:=u' }::cs) w') hm fD hE kA (.inr aX) sD ⟨X2,hB1⟩ (Inv.refl _) hr ⟨fun F2 s2 a2 w2 h0 h1 h2 h3=>?_,fun i fE F2 s2 a2 w2 _ _ _ h3=>(nomatch h3),fun F2 s2 a2 w2 h0 h1 h2 h3=>?_,fun F2 s2 a2 _ w2 _ _ _ h3=>(nomatch h3)⟩
   ·unfold Frm.wp at hd
    change rest.wpIn (fw F.x.rd) 0 F.P _ a1 w1 at hd
    rw[tR]at hd;exact hd
   ·obtain⟨q1,v',q2,q3⟩:=hfin F2 s2 a2 w2 h0 h1 h2 h3
    exact⟨q1,u',rfl,v',q2,q3⟩
   ·obtain⟨q1,v',q2,q3⟩:=hfin F2 s2 a2 w2 h0 h1 h2 h3
    exact⟨q1,u',rfl,v',q2,q3⟩
  exact wpSIn_of_wpIn rfl hden
 cases ok with
 |true =>
  refine⟨by simp[zFk],.inr ⟨fun h=>by grind [Fence.wide],.func g,us.toArray,g,us.toArray,rfl,hinv,fun _ _=>trivial,?_⟩⟩
  refine callsDIn_of_wpSIn (n:=0) hg.fn hg.body trivial fun c₀ cs hu=>?_
  refine wpSIn_seq (hg.pan us cO c₀ cs w v (he rfl).2.1 hu _ fun a1 w1 q1 q2 q3 q4 q5=>?_)
  exact xD a1 w1 _ c₀ cs _ q1 q2 q3 (fun _=>q4) q5 rfl rfl
 |false =>
  refine⟨by simp[zFk],.inr ⟨fun h=>by grind [Fence.wide],.func g,us.toArray,g,us.toArray,rfl,hinv,fun _ _=>trivial,?_⟩⟩
  refine callsDIn_of_wpSIn (n:=0) hg.fn hg.body trivial fun c₀ cs hu=>?_
  refine wpSIn_seq (hg.ret us cO c₀ cs w hu _ fun a1 w1 q1 q2 q3 q5=>?_)
  refine xD a1 w1 _ c₀ cs .returning q1 q2 q3 (fun h=>nomatch h) q5 ?_ rfl
  have hu:c₀.mode=.returning:=hu;rw[<-hu]
end
theorem RelX.zGQ{F:Frm}{s:S}{a:Act}{w:World}{X:Cx}{d:Nat}{v:Value}(h:RelX F s (a.put (some d) v) w X)(fD:∀t φ,¬F.Lh t φ):RelX F (s.put (some d) .top) a w { X with n:=s.n+1 }:=by
 refine h.go (wX h.fit) rfl rfl rfl (fun _ _=>zd.refl _ _ _) (fun _ _=>rfl) rfl h.ep (zMb _) (Nat.le_succ_of_le h.epn) h.base (fun hf=>⟨hf,Ext.refl _⟩) (fun t φ hp=>zMg hp (fD t φ)) (fun u e he=>?_) (fun k e he=>.inr ⟨he,rfl,fun _=>zd.refl _ _ _⟩) h.inj h.pos
 rcases zC he with ⟨h1,h2⟩|⟨h1,h2⟩
 ·subst h1 h2;exact .inl ⟨zMc _,fun _=>trivial⟩
 ·exact .inr ⟨h2,(vm h1 v).symm,fun f9 hf=>⟨hf,Ext.refl _⟩⟩
def dfD(E:VE)(g:FuncId)(m:Nat)(ops:List Oper)(s:S)(k:List Nat->S->Comp β):Comp β:=match ops with
 | [o,p]=>match p.op with
  |.defer c=>match c.callee with
   |.value x=>match c.args.toList,o.guard.isNone && (p.guard.isNone && (p.dst.isNone && C8 [o])) with
    | [],true=>step E (wrS ops) s o fun s1=>match rdO s1.ep s1.L [] [] x with
     |some (.cl f a b)=>match Nat.beq f g && zAf a,nx b with
      |true,some ks=>match Nat.beq ks.length m with
       |true=>k ks s1
       |false=>Comp.fail
      |_,_=>Comp.fail
     |_=>Comp.fail
    |_,_=>Comp.fail
   |_=>Comp.fail
  |_=>Comp.fail
 |_=>Comp.fail
def exR(E:VE)(zt:Ty)(rest:Code)(hG:H)(se so:Nat)(ks:List Nat)(k:S->Comp β)(i:Nat)(s:S):Comp β:=match Nat.beq i PL with
 |true=>match rdO s.ep s.L [] [] (.tmp 0) with
  |some φ=>match φ.asT E.G [] zt with
   |some z=>AP E rest hG se so ks (s.put (some 0) .top) (.rd zt z) true k
   |none=>Comp.fail
  |none=>Comp.fail
 |false=>Comp.fail
def SH(E:VE)(A B:Code)(dops:List Oper)(C:Code)(hA hB hC:H)(rest:Code)(hG:H)(g:FuncId)(m se so:Nat)(zt:Ty)(l:List ResultVar)(ps rs:Ty)(rk:List (Option TypeId))(x:ps.D):Comp rs.D :=
 den E A rs.D hA ⟨Ye ps x 0,[],1,0⟩ (fun s=>den E B rs.D hB s (fun s=>dfD E g m dops s fun ks s=>den E C rs.D hC s (fun s=>AP E rest hG se so ks s .top false (rtF E rk rs l)) (exR E zt rest hG se so ks (rtF E rk rs l)) (fun s=>AP E rest hG se so ks s .top false (rtF E rk rs l)))
  (fun _ _=>Comp.fail) (rtF E rk rs l)) (fun _ _=>Comp.fail) (rtF E rk rs l)
theorem zEu{P:Program}{E:VE}(hE:E.ok P)(hm:P.follows .mixedOrders=true){f:FuncId}{fn:Func}{A B C:Code}{id:Nat}{dops:List Oper}{hA hB hC:H}{fs:FS}(hF:FnOk P f)(hf:P.funcs[f]?=some fn)(hb:fn.body=some (.seq A (.seq B (.seq (.region id dops.toArray false) C))))
  (hcA:okC fn.ntmps A=true) (hcB:okC fn.ntmps B=true) (hcC:okC fn.ntmps C=true) (aX:(kj A && (kj B && kj C))=true) (hdd:z6 fn.ntmps dops=true) (hl:Nat.ble fs.ps.len fn.ntmps=true) (hN:Nat.blt 0 fn.ntmps=true)
  {g:FuncId} {gn:Func} {R0 rest:Code} {m se so:Nat} {zt:Ty} (hg:RecG P g gn R0 rest m se so E.Z zt) {hG:H} (hcG:okC gn.ntmps rest=true) (hnG:kj rest=true)
  (hs:∀x,SH E A B dops C hA hB hC rest hG g m se so zt fn.results.toList fs.ps fs.rs fs.rk x=fs.sem x):fs.ok P f:=by
 refine⟨hF,fun O w hO vs x ha n y hy=>?_⟩
 rw[<-hs x]at hy;simp only[zMQ]at aX;have fL:=ki vs.toArray fn.ntmps (by have:=Z1 ha;simp_all)
 have fC:∀(j:Nat) v,vs[j]?=some v->Act.get { tmps:=vs.toArray++Array.replicate (fn.ntmps-vs.toArray.size) undef,defers:=[] } j=v:=fun j v hj=>kh (by grind)
 refine callsIn_wide.1 (callsIn_of_wp_marks (n:=0) hf hb trivial ?_);generalize ({ tmps:=vs.toArray++Array.replicate (fn.ntmps-vs.toArray.size) undef,defers:=[] }:Act)=a at fL fC |-
 let F:Frm:=⟨P,fn.ntmps,[],Go.Lift.Fr w,O,w,fun _ _=>False,0,[],{ FrX.no 1 O w with nr:=true }⟩
 let X:Cx:=⟨P,O,fun _=>.nilIface,1,fun k=>k,Go.Lift.Fr w,Go.Lift.Fr w,0,0⟩
 have hR:Rel F ⟨Ye fs.ps x 0,[],1,0⟩ a w:=by
  have fW:=fun {u e}=>Zz (X:=X) (a:=a) (i:=0) rfl rfl ha (fun j v hj=>by grind) (u:=u) (e:=e)
  refine⟨X,rfl,rfl,rfl,rfl,rfl,hO,fL,Base.start hO,fun t e he _=>(fW he).2,fun k e he=>(nomatch he),fun t e he=>(by grind),fun k e he=>(nomatch he),fun k k' e e' he=>(nomatch he),fun k e he=>(nomatch he),Nat.zero_le _,Nat.zero_lt_one,fun _ _ h=>h.elim,⟨Nat.zero_le _,fun j b hj=>(nomatch hj)⟩,⟨Nat.one_ne_zero,fun _ _ h=>h.elim,fun _ _ h=>h.elim,zd.refl _ _ _,rfl⟩⟩
 -- the results
 have tS:∀ {F':Frm},F'.P=P->F'.A=Go.Lift.Fr w->F'.O0=O->F'.w0=w->∀s' a' w',Rel F' s' a' w'->(rtF E fs.rk fs.rs fn.results.toList s').run n=some y->∃v,(results fn a'.tmps).run P w'=.ok v w'/\∃v',Ending.returned v=.returned v'/\Ext w w'/\∃rs,kU rs v'/\Y2 P O w.heap.size w' fs.rk fs.rs rs y:=by
  intro F' e1 e2 e3 e4 s' a' w' ⟨X',hX'⟩ hr;have hP:X'.P=P:=hX'.P.trans e1
  have hE':E.ok X'.P:=by grind
  unfold rtF at hr;split at hr
  ·rename_i m' hm'
   split at hr
   ·rename_i y' tW hy'
    have e:=run_pure hr;subst e;obtain⟨vs',g1,g2,g3⟩:=Xm hE' hX' hm';obtain⟨v,g4,g5⟩:=kg g1;rw[hP]at g4;refine⟨v,g4,v,rfl,?_,vs',g5,?_⟩
    ·have:=hX'.base
     rw[e2,e3,e4]at this;exact this.ext
    ·have:=uj hE'.G hX' hy' g2 fun i φ u hi hu=>⟨g3 i φ u hi hu,kX tW φ (zMV hi)⟩
     grind
   ·cases hr
  ·cases hr
 have xF:∀F' s' a' w',F.To F'->Rel F' s' a' w'->(rtF E fs.rk fs.rs fn.results.toList s').run n=some y->LeavesInM Fence.wide 0 P fn a'.tmps (fun e w'=>∃v,e=.returned v/\Ext w w'/\∃rs,kU rs v/\Y2 P O w.heap.size w' fs.rk fs.rs rs y) a'.defers .returning w':=by
  intro F' s' a' w' hT h' hr;have x8:=hT.nr rfl
  subst x8;have:=tS rfl rfl rfl rfl s' a' w' h' hr
  obtain⟨X',hX'⟩:=h';rw[show a'.defers=[] from hX'.fit.defers]
  exact this
 refine wpIn_seq ?_;refine Ym A (F:=F) hm (fun _ _ h=>h) hE hcA (.inr aX.1) rfl hR (Inv.refl _) hy ⟨fun F' s1 a1 w1 h0 h1 _ h2=>?_,fun i _ F' s' a' w' _ _ _ h2=>(nomatch h2),fun F' s' a' w' h0 h1 _ h2=>xF F' s' a' w' h0 h1 h2,fun F' s' a' _ w' _ _ _ h2=>(nomatch h2)⟩
 have x8:=h0.nr rfl;subst x8;show Code.wpIn Fence.wide 0 P (.seq B _) _ a1 w1
 refine wpIn_seq ?_;refine Ym B (F:=F) hm (fun _ _ h=>h) hE hcB (.inr aX.2.1) rfl h1 (Inv.refl _) h2 ⟨fun F' s2 a2 w2 h0 h1 _ h2=>?_,fun i _ F' s' a' w' _ _ _ h2=>(nomatch h2),fun F' s' a' w' h0 h1 _ h2=>xF F' s' a' w' h0 h1 h2,fun F' s' a' _ w' _ _ _ h2=>(nomatch h2)⟩
 have x8:=h0.nr rfl;subst x8;show Code.wpIn Fence.wide 0 P (.seq _ C) _ a2 w2
 refine wpIn_seq ?_;obtain⟨o,p,rfl⟩:∃o p,dops=[o,p]:=by
  unfold dfD at h2;split at h2
  ·grind
  ·cases h2
 simp only[dfD]at h2;split at h2
 ·rename_i c x9
  split at h2
  ·rename_i xf bB
   split at h2
   ·rename_i fU xL
    simp only[zMQ]at xL;have sC:=qc xL.2.2.2 o (by simp)
    have cH:o.guard=none:=by simp_all
    have hpg:p.guard=none:=by simp_all
    have hpd:p.dst=none:=by simp_all
    have fZ:F.dst o.dst:=fun t ht=>⟨((zS hdd (show ([o,p]:List Oper)[0]?=some o from rfl)).2.1 t ht).1,fun φ h=>h⟩
    show F.wp (.region id _ false) _ a2 w2
    refine Jg (fun h=>nomatch h) ?_
    show Y3 (F.W _) _ _ (List.range 2) a2 w2
    rw[List.range_eq_range'];show Y3 (F.W _) _ _ (List.range' 0 ([o,p]:List Oper).length) a2 w2
    rw[kI [o,p] 0 (by simp)]
    simp only[vv,Region.wanted,cH,hpg,if_true];refine jq sC (Ko hE h1 _ _ fZ n y h2 _ _ fun s3 v w3 k1 k2 k3=>?_)
    split at k3
    ·rename_i f' ca cb hφ
     split at k3
     ·rename_i ks hfa d9
      rw[zMQ]at hfa;split at k3
      ·rename_i fA
       obtain⟨X3,xZ⟩:=k1;rw[<-xZ.ep]at hφ;have hP3:X3.P=P:=xZ.P
       have xM:=xZ.rd #[xf] xf _ (by simp) hφ
       obtain⟨vs3,us,c1,c2,c3⟩:=xM;have nP:=mq hfa.2
       subst nP;have hvs3:vs3=[]:=c1
       subst hvs3;have hcb:=qb d9
       subst hcb;obtain⟨c4,c5⟩:=AU c2;have hfg:=zMP hfa.1
       subst hfg;have hks3:ks.length=m:=zMP fA
       have hC3:c.args=#[]:=Array.ext' (by omega)
       have fI:(execOp (a2.put o.dst v).eval p).run P w3=.ok (.defer { target:=.fn (.func f') us.toArray,args:=#[] }) w3:=by
        simp_all [execOp,resolve,Deferred.ofValue]
       let dfr:Deferred:={ target:=.fn (.func f') us.toArray,args:=#[] }
       let F2:Frm:={ F with D:=[dfr],x:={ F.x with kv:=fun u φ=>∃(i k:Nat),ks[i]?=some k/\us[i]?=some u/\φ=.bx k 0 } }
       have i7:us.length=m:=by grind
       let a4:Act:={ tmps:=(a2.put o.dst v).tmps,defers:=dfr::(a2.put o.dst v).defers }
       have hR4:Rel F2 s3 a4 w3:=by
        refine⟨X3,xZ.conv (F':=F2) (L':=s3.L) rfl rfl rfl rfl (fun _ _ h=>h) rfl rfl rfl ⟨xZ.fit.size,by show dfr::_=[dfr];rw[show (a2.put o.dst v).defers=[] from xZ.fit.defers]⟩ xZ.l xZ.ln ⟨xZ.ex.st,xZ.ex.sys,fun u φ hu=>?_,xZ.ex.since,xZ.ex.L⟩⟩
        obtain⟨i,k,q1,q2,rfl⟩:=hu;refine⟨rfl,?_⟩;obtain⟨q3,b,q4⟩:=c5 k (zMV q1);rw[c4,List.getElem?_map,q1]at q2;simp only[Option.map_some,zMn]at q2;exact⟨q3,b,q4,q2.symm.trans q4⟩
       refine⟨fun _ _=>trivial,?_⟩
       show Oper.uponIn (fw none) 0 P p _ _ _ ((execOp (a2.put o.dst v).eval p).run P w3)
       rw[fI];show Code.wpIn Fence.wide 0 P C _ (Act.put { tmps:=(a2.put o.dst v).tmps,defers:=dfr::(a2.put o.dst v).defers } p.dst undef) w3
       rw[hpd];show Code.wpIn Fence.wide 0 P C _ a4 w3
       have aO:=fun {s':S} {a':Act} {w':World} (hR':Rel F2 s' a' w') (e:AV) (ok:Bool) (v':Value)=>Qr (F:=F2) (P:=P) (E:=E) (fn:=fn) (R:=fun e w'=>∃v,e=.returned v/\Ext w w'/\∃rs,kU rs v/\Y2 P O w.heap.size w' fs.rk fs.rs rs y) rfl hg hm hE hcG hnG (fun _ _ h=>h) rfl rfl rfl hks3 i7 (fun i k u q1 q2=>⟨i,k,q1,q2,rfl⟩) rfl hR' (e:=e) (ok:=ok) (v:=v') (hG:=hG) (k:=rtF E fs.rk fs.rs fn.results.toList) (nf:=n) (y:=y)
       refine Ym C (F:=F2) hm (fun _ _ h=>h) hE hcC (.inr aX.2.2) rfl hR4 (Inv.refl _) k3 ⟨fun F' s5 a5 w5 t0 t1 _ t2=>?_,fun i fE F' s5 a5 w5 t0 t1 _ t2=>?_,fun F' s5 a5 w5 t0 t1 _ t2=>?_,fun F' s5 a5 v5 w5 t0 t1 _ t2=>?_⟩
       ·have x8:=t0.nr rfl
        subst x8;exact aO t1 .top false undef (fun h=>nomatch h) (fun _=>rfl) t2 fun s' w' q1 q2=>tS rfl rfl rfl rfl s' a5 w' q1 q2
       ·unfold exR at t2
        rw[show Nat.beq i PL=false by grind [zX]]at t2
        cases t2
       ·have x8:=t0.nr rfl
        subst x8;exact aO t1 .top false undef (fun h=>nomatch h) (fun _=>rfl) t2 fun s' w' q1 q2=>tS rfl rfl rfl rfl s' a5 w' q1 q2
       ·have x8:=t0.nr rfl
        subst x8;unfold exR at t2;rw[Nat.beq_refl]at t2;dsimp only at t2;split at t2
        ·rename_i φ hφ5
         split at t2
         ·rename_i z hz
          obtain⟨X5,aC⟩:=t1;have hX6:=aC.zGQ (fun _ _ h=>h)
          rw[<-aC.ep]at hφ5;have hv5:=aC.rd #[.tmp 0] (.tmp 0) _ (by simp) hφ5
          change φ.holds X5 w5 ((a5.put (some 0) v5).get 0) at hv5
          rw[yW (wX aC.fit) (tF hN)]at hv5;have fH:X5.le w5 { X5 with n:=s5.n+1 } w5:=⟨rfl,zd.refl _ _ _,fun _ _=>rfl,by rw[aC.n];grind,rfl⟩
          have hP5:X5.P=P:=aC.P;have hE5:E.ok X5.P:=by grind
          have hz5:=AV.Z0 hE5.G (M:=[]) (fun k e he=>nomatch he) hz hv5
          exact aO ⟨_,hX6⟩ (.rd zt z) true v5 (fun _=>⟨rfl,⟨_,_,z,by rw[<-hP5];exact hz5⟩,_,hX6,hz5⟩) (fun h=>nomatch h) t2 fun s' w' q1 q2=>tS rfl rfl rfl rfl s' a5 w' q1 q2
         ·cases t2
        ·cases t2
      ·cases k3
     ·cases k3
    ·cases k3
   ·cases h2
  ·cases h2
 ·cases h2
def asQ(k:Knd)(φ:AV):Option AV:=match k,K7 φ with
 |.pr _ (.pr _ _),some (.pr (.ag a) .un)=>some a
 |_,o=>o
theorem GN{k:Knd}{φ ψ:AV}(h:asQ k φ=some ψ):K7 φ=some ψ\/K7 φ=some (.pr (.ag ψ) .un):=by
 unfold asQ at h;grind
def Knd.ks(M:MS):Knd->AV->List (Option Nat)
 |.o ..,φ=>match Xt M φ with
  |some p=>[some p.1]
  |none=>[none]
 |.pr a b,φ=>match φ with
  |.pr φ1 φ2=>a.ks M φ1++b.ks M φ2
  |_=>[]
 |.ag l,φ=>match asQ l φ with
  |some φ=>l.ks M φ
  |none=>[]
 |_,_=>[]
def ES(ks:List (Option Nat)):MS->MS
 | []=>[]
 |e::M=>(e.1,e.2.1,match vi e.1 (yY ks) with
  |true=>.dead
  |false=>Z5 e.2.2)::ES ks M
theorem ph{ks:List (Option Nat)}:∀ {M:MS} {k:Nat} {e:Nat×MV},look (ES ks M) k=some e->∃m,look M k=some (e.1,m)/\((e.2=.dead)\/(e.2=Z5 m/\some k ∉ ks))
 | [],k,e,h=>by cases h
 |f::M,k,e,h=>by
  obtain⟨k0,st,m⟩:=f;simp only[ES,look]at h |-
  cases hb:Nat.beq k0 k with
  |true =>
   rw[hb]at h;have hk:=zMP hb
   subst hk
   cases hm:vi k0 (yY ks) with
   |true=>grind
   |false =>
    rw[hm]at h;cases h;exact⟨m,rfl,.inr ⟨rfl,fun hi=>by grind [kc,YT]⟩⟩
  |false=>rw[hb]at h;exact ph h
def Knd.rt(G:FE)(M M':MS):(k:Knd)->AV->Option k.D
 |.v t,φ=>φ.asT G M' t
 |.o _ t T,φ=>match Xt M φ with
  |some p=>match p.2.1 && Nat.beq p.2.2.1 T,zFf p.2.2.2.2 (.sl t) with
   |true,some x=>some x
   |_,_=>none
  |none=>match Yl φ with
   |true=>some ([]:List t.D)
   |false=>none
 |.un,φ=>match φ with
  |.un=>some ()
  |_=>none
 |.pr a b,φ=>match φ with
  |.pr φ1 φ2=>match a.rt G M M' φ1,b.rt G M M' φ2 with
   |some x,some y=>some (x,y)
   |_,_=>none
  |_=>none
 |.ag l,φ=>match asQ l φ with
  |some φ=>l.rt G M M' φ
  |none=>none
 |.m ..,_=>none
 |.bv ..,_=>none
def Knd.rtL(G:FE)(M M':MS):(k:Knd)->List AV->Option k.D
 |.pr a b,l=>match l with
  |φ::l=>match a.rt G M M' φ,b.rtL G M M' l with
   |some x,some y=>some (x,y)
   |_,_=>none
  | []=>none
 |.un,l=>match l with
  | []=>some ()
  |_=>none
 |_,_=>none
def Knd.ksL(M:MS):Knd->List AV->List (Option Nat)
 |.pr a b,l=>match l with
  |φ::l=>a.ks M φ++b.ksL M l
  | []=>[]
 |_,_=>[]
def uOf(X:Cx):Option Nat->Value
 |some k=>X.U k
 |none=>.slice none 0 0
section
variable {F:Frm} {s:S} {a:Act} {w:World} {X:Cx} {E:VE}
def Cx.outJ(X:Cx)(F:Frm)(us:List Value):Cx:={ X with O:=uM F.O0 us }
theorem RK{O:zQ}{us:List Value}{b:Nat}(h:O b=0)(hn:∀u∈us,u.ownBlock≠some b):uM O us b=0:=by
 simp_all [uM]
def Cs(X:Cx)(s:S)(ks:List (Option Nat)):Prop:=∀k,some k∈ks->∃st t T xs,look s.M k=some (st,.sl true t T xs)
theorem ux(h:RelX F s a w X){ks:List (Option Nat)}(hk:Cs X s ks){u:Value}(hu:u∈ks.map (uOf X)){g:Nat}(hg:u.ownBlock=some g):∃k e,some k∈ks/\look s.M k=some e/\e.2.own=true/\X.O g=X.ι k/\X.ι k≠0:=by
 obtain⟨o,ho,rfl⟩:=List.mem_map.1 hu
 cases o with
 |none=>cases hg
 |some k =>
  obtain⟨st,t,T,xs,hl⟩:=hk k ho;have hO:=h.m k _ hl
  change zq (X.ι k) (t.gr X.P) T (X.B true) X.O w (X.U k) xs at hO
  exact⟨k,_,ho,hl,rfl,hO.tagged g hg,(h.pos k _ hl rfl).1⟩
theorem RelX.mm(h:RelX F s a w X){ks:List (Option Nat)}(hk:Cs X s ks):X.le w (X.outJ F (ks.map (uOf X))) w:=⟨rfl,⟨zMS _,fun b hb hz=>⟨RK (h.base.zero b hb hz) fun u hu hg=>by
 grind [ux],rfl⟩⟩,fun _ _=>rfl,zMS _,rfl⟩
theorem RelX.Ra(h:RelX F s a w X){ks:List (Option Nat)}(hk:Cs X s ks):yE (ES ks s.M) (X.outJ F (ks.map (uOf X))) w:=by
 intro k e he;obtain⟨m,h1,h2⟩:=ph he;have sM:=(h.mm hk).k
 rcases h2 with h2|⟨h2,h3⟩
 ·rw[h2];trivial
 have hh:=h.m k _ h1;rw[h2]
 -- a block of its own isn't among those
 have hz:∀g,m.own=true->X.O g=X.ι k->F.w0.heap.size<=g->uM F.O0 (ks.map (uOf X)) g=0:=fun g ho ht t6=>RK (h.ok0 g t6) fun u hu hg=>by
  obtain⟨k',e',q1,q2,q3,q4,_⟩:=ux h hk hu hg;have:=h.inj k k' _ _ h1 q2 ho q3 (ht.symm.trans q4)
  grind
 cases m with
 |sl nw t T xs =>
  cases nw with
  |false=>trivial
  |true =>
   obtain⟨vs,g1,g2,g3⟩:=hh;refine Yd.2 ⟨vs,g1.slv,g2.mono sM,fun _ g hg=>⟨g1.gI g hg,hz g rfl (g3 g hg).1 ?_⟩⟩
   have:=(g3 g hg).2
   change X.F g at this
   rw[h.Fn]at this;exact this
 |bx nw c T=>cases nw<;>trivial
 |fs t xs=>exact GR.yk _ hh sM
 |fb t x=>exact GR.yk _ hh sM
 |fg f=>trivial
 |mp nw a b xs =>
  cases nw with
  |false=>trivial
  |true =>
   obtain⟨c,es,clock,g1,g2,g3,g4,g5⟩:=hh;have hc:F.w0.heap.size<=c:=by
    have:X.F c:=g4;rw[h.Fn]at this;exact this
   exact⟨_,.inr ⟨c,es,clock,rfl,g2,g3.mono sM,hz c rfl g5 hc⟩,g1⟩
 |fm a b xs=>exact GR.yk _ hh sM
 |dead=>trivial
end
section
variable {F:Frm} {s:S} {a:Act} {w:World} {X:Cx} {E:VE}
theorem qD:∀(t:Ty) (x:t.D),(U0 t x).zg=false
 |.cons a b,x=>by show (_ || _)=false;rw[qD b];rfl
 |.nil,_|.int _,_|.bool,_|.str,_|.sl _,_|.arr ..,_|.box ..,_|.fn ..,_|.seq ..,_|.slo ..,_|.mp ..,_=>rfl
theorem Sq{φ ψ:AV}(hψ:K7 φ=some ψ){cs:List Value}(hc:(φ.sem X w).c cs):(ψ.sem X w).c cs:=by
 unfold K7 at hψ;split at hψ
 ·cases hψ;exact hc
 ·split at hψ
  ·rename_i hb
   cases hψ
   rw[zMQ]at hb;exact GA hb.2 hc
  ·cases hψ
 ·cases hψ
theorem zFR{φ ψ:AV}(hψ:K7 φ=some ψ){u:Value}(hu:φ.holds X w u):∃cs,(φ.sem X w).c cs/\u=yJ true cs:=by
 unfold K7 at hψ;split at hψ
 ·obtain⟨cs,h1,h2⟩:=hu;exact⟨cs,h1,h2⟩
 ·split at hψ
  ·rename_i hb
   rw[zMQ]at hb;obtain⟨cs,h1,h2⟩:=hu;refine⟨cs,h1,?_⟩;grind [Ty.jJ]
  ·cases hψ
 ·cases hψ
theorem zHy{k:Knd}{φ ψ:AV}(hψ:asQ k φ=some ψ){cs:List Value}(hc:(φ.sem X w).c cs):(ψ.sem X w).c cs:=by
 rcases GN hψ with e|e
 ·exact Sq e hc
 ·obtain⟨c1,c2,g1,g2,g3⟩:=Sq e hc
  have g3:c2=[]:=g3;rw[g1,g3,zMw];exact g2
theorem qL{φ ψ:AV}(hψ:K7 φ=some ψ)(hf:φ.zg=false):ψ.zg=false:=by
 unfold K7 at hψ;split at hψ
 ·cases hψ;exact hf
 ·grind [qD]
 ·cases hψ
theorem Mp{k:Knd}{φ ψ:AV}(hψ:asQ k φ=some ψ)(hf:φ.zg=false):ψ.zg=false:=by
 rcases GN hψ with e|e
 ·exact qL e hf
 ·have:=qL e hf
  grind [AV.zg]
theorem zIH(hG:FOk X.P E.G)(h:RelX F s a w X){all:List (Option Nat)}(fG:Cs X s all):∀ {k:Knd} {φ:AV} {x:k.D} {cs:List Value},k.rt E.G s.M (ES all s.M) φ=some x->(∀o∈k.ks s.M φ,o∈all)->φ.zg=false->(φ.sem X w).c cs ->
  Cp X.P (uM F.O0 (all.map (uOf X))) w F.w0.heap.size k x cs ((k.ks s.M φ).map (uOf X)):=by
 have fH:=h.mm fG;intro k
 induction k with
 |v t =>
  intro φ x cs hr _ hf hc;exact⟨(AV.jU (X:=X.outJ F (all.map (uOf X))) hG φ (h.Ra fG)).vc hr ((φ.mono fH fun hf'=>by grind).2.2 _ hc),rfl⟩
 |o nw t T =>
  intro φ x cs hr fW hf hc;simp only[Knd.rt]at hr;simp only[Knd.ks]at fW |-;split at hr
  ·rename_i p hp
   split at hr
   ·rename_i y hb hy
    cases hr
    rw[zMQ]at hb;have aV:φ=.ob p.1/\∃st,look s.M p.1=some (st,.sl p.2.1 p.2.2.2.1 p.2.2.1 p.2.2.2.2):=by
     unfold Xt at hp;grind
    obtain⟨hφ,st,hk⟩:=aV;subst hφ;obtain⟨u,g1,g2,g3,g4,g5⟩:=hc;have hO:=h.m _ _ hk
    change zq (X.ι p.1) (p.2.2.2.1.gr X.P) p.2.2.1 (X.B p.2.1) X.O w (X.U p.1) p.2.2.2.2 at hO
    rw[hb.1]at hO
    change zq _ _ _ X.F _ _ _ _ at hO
    rw[h.Fn]at hO;obtain⟨vs,q1,q2,q3⟩:=hO;obtain⟨e1,e2⟩:=Ty.jO hy;injection e1 with e1;subst e1;have e2:p.2.2.2.2=x:=e2
    have q2':yx (p.2.2.2.1.gr X.P) X.O w vs x:=by grind
    have hT:=zMP hb.2;refine⟨u,vs,g1,by grind [uOf],g2,?_,q2'.mono fH.k⟩
    rw[g3,<-hT];exact q1.RX fun g hg=>(q3 g hg).2
   ·cases hr
  ·rename_i hp
   split at hr
   ·rename_i hn
    cases hr
    have hφ:=jW hn;subst hφ;refine⟨.slice none 0 0,[],hc,rfl,rfl,OwnS.nil _ _ _ _,trivial⟩
   ·cases hr
 |m nw a b=>intro φ x cs hr;cases hr
 |bv nw t T=>intro φ x cs hr;cases hr
 |un =>
  intro φ x cs hr _ hf hc;simp only[Knd.rt]at hr;split at hr
  ·exact⟨hc,rfl⟩
  ·cases hr
 |pr k1 k2 ih1 ih2 =>
  intro φ x cs hr fW hf hc;simp only[Knd.rt]at hr;split at hr
  ·rename_i φ1 φ2
   split at hr
   ·rename_i x1 x2 oH dF
    cases hr
    simp only[AV.zg,Bool.or_eq_false_iff]at hf;obtain⟨c1,c2,g1,g2,g3⟩:=hc;refine⟨c1,c2,_,_,g1,by grind [Knd.ks],ih1 oH (fun o ho=>fW o (by grind [Knd.ks])) hf.1 g2,ih2 dF (fun o ho=>fW o (by grind [Knd.ks])) hf.2 g3⟩
   ·cases hr
  ·cases hr
 |ag l ih =>
  intro φ x cs hr fW hf hc;simp only[Knd.rt]at hr;split at hr
  ·rename_i ψ hψ
   have d9:(Knd.ag l).ks s.M φ=l.ks s.M ψ:=by grind [Knd.ks]
   rw[d9]at fW |-;exact ih hr fW (Mp hψ hf) (zHy hψ hc)
  ·cases hr
theorem zLN(hG:FOk X.P E.G)(h:RelX F s a w X){all:List (Option Nat)}(fG:Cs X s all){k:Knd}{φ:AV}{x:k.D}{v:Value}(hr:k.rt E.G s.M (ES all s.M) φ=some x)(fW:∀o∈k.ks s.M φ,o∈all)(hf:φ.zg=false)(i6:k.zFo=true)(hv:φ.holds X w v) :
  ∃cs,v=yJ k.agg cs/\Cp X.P (uM F.O0 (all.map (uOf X))) w F.w0.heap.size k x cs ((k.ks s.M φ).map (uOf X)):=by
 have fH:=h.mm fG
 cases k with
 |v t =>
  have hv2:=AV.Z0 (X:=X.outJ F (all.map (uOf X))) hG (h.Ra fG) hr (φ.le hf fH hv);obtain⟨cs,h1,h2⟩:=hv2;exact⟨cs,by rw[h2,Ty.jJ];rfl,h1,rfl⟩
 |o nw t T =>
  have a7:∀ {u:Value},φ.holds X w u->u.oneCell'=true->(φ.sem X w).c [u]:=by
   intro u hu h1;simp only[Knd.rt]at hr;split at hr
   ·rename_i p hp
    have aV:φ=.ob p.1:=by
     unfold Xt at hp;grind
    rw[aV]at hu |-;exact⟨u,rfl,h1,hu⟩
   ·split at hr
    ·rename_i hn
     have hφ:=jW hn;subst hφ;rw[show u=_ from hu];rfl
    ·cases hr
  have h1:v.oneCell'=true:=by
   simp only[Knd.rt]at hr;split at hr
   ·rename_i p hp
    have aV:φ=.ob p.1:=by
     unfold Xt at hp;grind
    rw[aV]at hv;exact hv.2.2
   ·split at hr
    ·rename_i hn
     have hφ:=jW hn;subst hφ;rw[show v=_ from hv];rfl
    ·cases hr
  exact⟨[v],rfl,zIH hG h fG hr fW hf (a7 hv h1)⟩
 |ag l =>
  have hψ:∃ψ,K7 φ=some ψ:=by
   grind [Knd.rt,GN]
  obtain⟨ψ,hψ⟩:=hψ;obtain⟨cs,h1,h2⟩:=zFR hψ hv;exact⟨cs,h2,zIH hG h fG hr fW hf h1⟩
 |_=>cases i6
theorem zCQ(hG:FOk X.P E.G)(h:RelX F s a w X){all:List (Option Nat)}(fG:Cs X s all):∀ {k:Knd} {l:List AV} {x:k.D} {vs:List Value},k.rtL E.G s.M (ES all s.M) l=some x->(∀o∈k.ksL s.M l,o∈all)->k.EU=true->vs.length=l.length->(∀(i:Nat) φ v,l[i]?=some φ->vs[i]?=some v->φ.holds X w v/\φ.zg=false) ->
  wA X.P (uM F.O0 (all.map (uOf X))) w F.w0.heap.size k x vs ((k.ksL s.M l).map (uOf X)):=by
 intro k
 induction k with
 |pr k1 k2 _ ih =>
  intro l x vs hr fW hv hl hh;simp only[Knd.EU,zMQ]at hv
  match l,vs,hl with
  | [],[],hl=>cases hr
  |φ::l,v::vs,hl =>
   simp only[Knd.rtL]at hr;split at hr
   ·rename_i x1 x2 oH dF
    cases hr
    obtain⟨q1,q2⟩:=hh 0 φ v rfl rfl;obtain⟨cs,r1,r2⟩:=zLN hG h fG oH (fun o ho=>fW o (by grind [Knd.ksL])) q2 hv.1 q1
    refine⟨v,vs,_,_,cs,rfl,by grind [Knd.ksL],r1,r2,ih dF (fun o ho=>fW o (by grind [Knd.ksL])) hv.2 (by grind) fun i ψ u hi hu=>hh (i+1) ψ u (by grind) (by grind)⟩
   ·cases hr
 |un =>
  intro l x vs hr fW hv hl hh;simp only[Knd.rtL]at hr;split at hr
  ·exact⟨List.length_eq_zero_iff.1 (by omega),rfl⟩
  ·cases hr
 |_=>intro l x vs hr fW hv hl hh;cases hv
def IE(M:MS):List (Option Nat)->Bool
 | []=>true
 |o::l=>(match o with
  |none=>true
  |some k=>match look M k with
   |some (_,.sl true _ _ _)=>true
   |_=>false) && IE M l
theorem Bj{X:Cx}{s:S}:∀ {l:List (Option Nat)},IE s.M l=true->Cs X s l
 | [],_=>fun k hk=>by grind
 |o::l,h=>fun k hk=>by
  simp only[IE,zMQ]at h;rcases zMU.1 hk with rfl|hk
  ·grind
  ·exact Bj (X:=X) h.2 k hk
theorem nT(h:RelX F s a w X):∀ {l:List (Option Nat)},Cs X s l->(yY l).Nodup->((l.map (uOf X)).filterMap Value.ownBlock).Nodup:=by
 intro l
 induction l with
 |nil=>grind
 |cons o l ih =>
  intro hk hn;have hk':Cs X s l:=fun k cM=>hk k (by grind)
  cases o with
  |none =>
   have:=ih hk' hn;rw[List.map_cons,List.filterMap_cons_none (show (uOf X none).ownBlock=none from rfl)];omega
  |some k =>
   obtain⟨iD,iW⟩:=List.nodup_cons.1 hn;have ih:=ih hk' iW
   simp only[List.map_cons]
   cases hb:(uOf X (some k)).ownBlock with
   |none=>grind
   |some g =>
    rw[List.filterMap_cons_some hb];refine List.nodup_cons.2 ⟨fun hm=>?_,ih⟩
    obtain⟨u,hu,hg⟩:=List.mem_filterMap.1 hm;obtain⟨k',e',q1,q2,q3,q4,_⟩:=ux h (ks:=l) hk' hu hg;obtain⟨k2,e2,p1,p2,p3,p4,_⟩:=ux h (ks:=[some k]) (fun j hj=>hk j (by grind)) (List.mem_map.2 ⟨some k,by simp,rfl⟩) hb
    have p1:k2=k:=by grind
    subst p1;have:=h.inj k2 k' e2 e' p2 q2 p3 q3 (p4.symm.trans q4)
    grind [YT]
end
def rtJ(E:VE)(kd:Knd)(l:List ResultVar)(s:S):Comp kd.D:=match lf E s l with
 |some m=>match Zs m && (kd.EU && (q6 (yY (kd.ksL s.M m)) && IE s.M (kd.ksL s.M m))),kd.rtL E.G s.M (ES (kd.ksL s.M m) s.M) m with
  |true,some y=>Comp.pure y
  |_,_=>Comp.fail
 |none=>Comp.fail
def SO(E:VE)(c:Code)(h:H)(l:List ResultVar)(ps:Ty)(kd:Knd)(x:ps.D):Comp kd.D :=
 den E c kd.D h ⟨Ye ps x 0,[],1,0⟩ (rtJ E kd l) (fun _ _=>Comp.fail) (rtJ E kd l)
theorem zFA{P:Program}{E:VE}(hE:E.ok P)(hm:P.follows .mixedOrders=true){f:FuncId}{fn:Func}{c:Code}{h:H}{fs:FJ}(hF:FnOk P f)(hf:P.funcs[f]?=some fn)(hb:fn.body=some c)(hc:okC fn.ntmps c=true)(hl:Nat.ble fs.ps.len fn.ntmps=true)
  (hs:∀x,SO E c h fn.results.toList fs.ps fs.kd x=fs.sem x):fs.ok P f:=by
 refine⟨hF,fun O w hO vs x ha n y hy=>?_⟩
 rw[<-hs x]at hy;have fL:=ki vs.toArray fn.ntmps (by have:=Z1 ha;simp_all)
 have fC:∀(j:Nat) v,vs[j]?=some v->Act.get { tmps:=vs.toArray++Array.replicate (fn.ntmps-vs.toArray.size) undef,defers:=[] } j=v:=fun j v hj=>kh (by grind)
 refine callsIn_wide.1 (callsIn_of_wp_marks (n:=0) hf hb trivial ?_);generalize ({ tmps:=vs.toArray++Array.replicate (fn.ntmps-vs.toArray.size) undef,defers:=[] }:Act)=a at fL fC |-
 let F:Frm:=⟨P,fn.ntmps,[],Go.Lift.Fr w,O,w,fun _ _=>False,0,[],FrX.no 1 O w⟩
 let X:Cx:=⟨P,O,fun _=>.nilIface,1,fun k=>k,Go.Lift.Fr w,Go.Lift.Fr w,0,0⟩
 have hR:Rel F ⟨Ye fs.ps x 0,[],1,0⟩ a w:=by
  have fW:=fun {u e}=>Zz (X:=X) (a:=a) (i:=0) rfl rfl ha (fun j v hj=>by grind) (u:=u) (e:=e)
  refine⟨X,rfl,rfl,rfl,rfl,rfl,hO,fL,Base.start hO,fun t e he _=>(fW he).2,fun k e he=>(nomatch he),fun t e he=>(by grind),fun k e he=>(nomatch he),fun k k' e e' he=>(nomatch he),fun k e he=>(nomatch he),Nat.zero_le _,Nat.zero_lt_one,fun _ _ h=>h.elim,⟨Nat.zero_le _,fun j b hj=>(nomatch hj)⟩,Exx.no Nat.one_ne_zero rfl⟩
 have xF:∀F' s' a' w',F.To F'->Rel F' s' a' w'->(rtJ E fs.kd fn.results.toList s').run n=some y->LeavesInM Fence.wide 0 P fn a'.tmps (fun e w'=>∃v,e=.returned v/\Ext w w'/\∃rs us,kU rs v/\wA P (uM O us) w' w.heap.size fs.kd y rs us/\(us.filterMap Value.ownBlock).Nodup) a'.defers .returning w':=by
  intro F' s' a' w' hT h' hr;refine leaves hT rfl (fun _ _ h=>h) (zMS _) h' fun q n' ep' w' hX'=>?_
  obtain⟨X',hX'⟩:=hX';have hs:=hT.same
  have hP:X'.P=P:=hX'.P.trans hs.P;have hE':E.ok X'.P:=by grind
  unfold rtJ at hr;split at hr
  ·rename_i m hm'
   split at hr
   ·rename_i y' hb hy'
    simp only[zMQ]at hb;obtain⟨tW,hav,sC,sH⟩:=hb;have e:=run_pure hr
    subst e;obtain⟨vs',g1,g2,g3⟩:=Xm hE' hX' (Jf hm' tW);obtain⟨v,g4,g5⟩:=kg g1;rw[hP]at g4;have hJ:=Bj (X:=X') (s:={ s' with n:=n',ep:=ep' }) sH
    refine⟨v,g4,v,rfl,?_,vs',(fs.kd.ksL s'.M m).map (uOf X'),g5,?_,nT hX' hJ (wS sC)⟩
    ·have:=hX'.base
     change Base F'.A F'.O0 F'.w0 _ _ at this
     rw[hs.A,hs.O0,hs.w0]at this;exact this.ext
    ·have:=zCQ hE'.G hX' hJ hy' (fun o ho=>ho) hav g2 fun i φ u hi hu=>⟨g3 i φ u hi hu,kX tW φ (zMV hi)⟩
     change wA _ (uM F'.O0 _) _ F'.w0.heap.size _ _ _ _ at this
     rwa[hP,hs.O0,hs.w0]at this
   ·cases hr
  ·cases hr
 exact Ym c (F:=F) hm (fun _ _ h=>h) hE hc (.inl ⟨rfl,rfl⟩) rfl hR (Inv.refl _) hy ⟨fun F' s' a' w' h0 h1 _ h2=>xF F' s' a' w' h0 h1 h2,fun i _ F' s' a' w' _ _ _ h2=>(nomatch h2),fun F' s' a' w' h0 h1 _ h2=>xF F' s' a' w' h0 h1 h2,fun F' s' a' _ w' _ _ _ h2=>(nomatch h2)⟩
end Go.Den
end
noncomputable section
namespace Go.Den
open Go Go.RowKit Go.Eng Go.Lift
def Ui(P:Program)(X:TypeId):Nat->List (Nat×Nat×Nat)->Prop
 |_,[]=>True
 |k,e::l=>Fld P X k e.1 e.2.1 e.2.2/\Ui P X (k+1) l
theorem zBp{P:Program}{X:TypeId}:∀ {l:List (Nat×Nat×Nat)} {k:Nat},Ui P X k l->∀(f:Nat) e,l[f]?=some e->Fld P X (k+f) e.1 e.2.1 e.2.2
 | [],_,_,f,e,h=>by simp at h
 |e0::l,k,h,f,e,he=>by
  cases f with
  |zero=>simp at he;subst he;exact h.1
  |succ f=>have:=zBp h.2 f e (by grind);grind
theorem ya{P:Program}{X:TypeId}{i:TI}(h:i.kq=false):i.kq=true->KeyB P X i.τ:=fun h'=>by grind
def TI.zGC(P:Program)(X:TypeId)(i:TI):Prop:=i.eq≠0->EqT P X i.τ i.eq/\i.eq<=10000/\(i.τ.agg=true->P.eqGuardType P.depth X=false)
theorem ZP{P:Program}{X:TypeId}{i:TI}(h:i.eq=0):i.zGC P X:=fun h'=>zMg h h'
theorem yR{P:Program}{X:TypeId}{i:TI}(h:Eng.Ty P X i.dd i.z i.sz i.by_)(hf:i.fl=[])(he:i.zGC P X)(hk:i.kq=true->KeyB P X i.τ):i.ok P X:=⟨h,fun f e he=>(by grind),.inl hf,he,hk⟩
theorem jB{P:Program}{X:TypeId}{i:TI}(h:Eng.Ty P X i.dd i.z i.sz i.by_)(hf:Ui P X 0 i.fl)(hp:Plc P X (i.fl.map (fun e=>(e.2.1,e.2.2+1))).toArray)(he:i.zGC P X)(hk:i.kq=true->KeyB P X i.τ):i.ok P X :=
 ⟨h,fun f e he=>(by have:=zBp hf f e he;grind),.inr hp,he,hk⟩
def iS(e:TypeId)(t:Ty):TI:=⟨.slice e,.slice none 0 0,1,24,[],t,0,false⟩
theorem XH{P:Program}{X e:TypeId}{t:Ty}(h:Eng.Ty P X (.slice e) (.slice none 0 0) 1 24):(iS e t).ok P X:=yR (i:=iS e t) h rfl (ZP rfl) (ya rfl)
theorem VT(P:Program):TOk P []:=fun X i h=>nomatch h
theorem zV{P:Program}{X:TypeId}{i:TI}{l:TE}(h:i.ok P X)(hl:TOk P l):TOk P ((X,i)::l):=fun Y j hj=>by
 rcases zC hj with ⟨h1,h2⟩|⟨_,h2⟩
 ·grind
 ·exact hl Y j h2
def DF(l:List (Nat×Ty×Nat))(D:Nat):List Field->Ty->Nat->Bool
 | [],.nil,_=>true
 |f::fs,.cons a b,off=>!(f.name == "_") && (Nat.beq f.offset off && ((match look l f.type with
  |some e=>a.beq e.1 && Nat.ble e.2 D
  |none=>false) && DF l D fs b (off+a.sz)))
 |_,_,_=>false
def Ih(P:Program)(l:List (Nat×Ty×Nat)):Prop:=∀X e,look l X=some e->EqT P X e.1 e.2
theorem XN(P:Program):Ih P []:=fun X i h=>nomatch h
theorem Ya{P:Program}{X:TypeId}{t:Ty}{D:Nat}{l:List (Nat×Ty×Nat)}(h:EqT P X t D)(hl:Ih P l):Ih P ((X,t,D)::l):=fun Y j hj=>by
 rcases zC hj with ⟨h1,h2⟩|⟨_,h2⟩
 ·grind
 ·exact hl Y j h2
theorem Jh{P:Program}{l:List (Nat×Ty×Nat)}(hl:Ih P l){D:Nat}:∀ {fs:List Field} {t:Ty} {off:Nat},DF l D fs t off=true->EqTs P D fs t off
 | [],.nil,_,_=>.nil
 |f::fs,.cons a b,off,h=>by
  simp only[DF,zMQ]at h;obtain⟨h1,h2,h3,h4⟩:=h;split at h3
  ·rename_i e he
   rw[zMQ]at h3;have:=hl _ _ he
   rw[<-Ty.wD h3.1]at this;exact .cons (by grind) (zMP h2) this (Nat.le_of_ble_eq_true h3.2) (Jh hl h4)
  ·cases h3
 | [],.int _,_,h | [],.bool,_,h | [],.str,_,h | [],.sl _,_,h | [],.cons ..,_,h | [],.arr ..,_,h | [],.box _,_,h | [],.fn ..,_,h | [],.seq ..,_,h | [],.slo ..,_,h | [],.mp ..,_,h=>by grind [DF]
 |_::_,.int _,_,h|_::_,.bool,_,h|_::_,.str,_,h|_::_,.sl _,_,h|_::_,.nil,_,h|_::_,.arr ..,_,h|_::_,.box _,_,h|_::_,.fn ..,_,h|_::_,.seq ..,_,h|_::_,.slo ..,_,h|_::_,.mp ..,_,h=>by grind [DF]
theorem Yj{κ:Type}{P:Nat->κ->Prop}{f:Nat}{s:κ}{l:List (Nat×κ)}(h:P f s)(hl:∀g t,look l g=some t->P g t):∀g t,look ((f,s)::l) g=some t->P g t:=fun Y j hj=>by
 grind [zC]
section short
variable {P:Program} {T:TE} {lG:List (Nat×FS)} {lM:List (Nat×FM)} {lO:List (Nat×FO)} {lN:List (Nat×FS)} {lQ:List (Nat×GS)} {lJ:List (Nat×FJ)}
abbrev ve(T:TE)(lG:List (Nat×FS))(lM:List (Nat×FM))(lO:List (Nat×FO))(lN:List (Nat×FS))(lQ:List (Nat×GS))(lJ:List (Nat×FJ)):VE:={ T:=T,G:=look lG,H:=look lM,O:=look lO,N:=look lN,Q:=look lQ,J:=look lJ }
structure EK(P:Program)(T:TE)(lG:List (Nat×FS))(lM:List (Nat×FM))(lO:List (Nat×FO))(lN:List (Nat×FS))(lQ:List (Nat×GS))(lJ:List (Nat×FJ)):Prop where
 e:(ve T lG lM lO lN lQ lJ).ok P
 m:P.follows .mixedOrders=true
theorem e0(h:TOk P T)(hm:P.follows .mixedOrders=true):EK P T [] [] [] [] [] []:=⟨⟨h,(fun X i h=>nomatch h),(fun X i h=>nomatch h),(fun X i h=>nomatch h),(fun X i h=>nomatch h),(fun X i h=>nomatch h),(fun X i h=>nomatch h),(fun X i h=>nomatch h)⟩,hm⟩
theorem EK.S{f s}(h:EK P T lG lM lO lN lQ lJ)(hs:FS.ok P f s):EK P T ((f,s)::lG) lM lO lN lQ lJ:=⟨{ h.e with G:=Yj hs h.e.G },h.m⟩
theorem EK.M{f s}(h:EK P T lG lM lO lN lQ lJ)(hs:FM.ok P f s):EK P T lG ((f,s)::lM) lO lN lQ lJ:=⟨{ h.e with H:=Yj hs h.e.H },h.m⟩
theorem EK.O{f s}(h:EK P T lG lM lO lN lQ lJ)(hs:FO.ok P f s):EK P T lG lM ((f,s)::lO) lN lQ lJ:=⟨{ h.e with O:=Yj hs h.e.O },h.m⟩
theorem EK.N{f s}(h:EK P T lG lM lO lN lQ lJ)(hs:FS.okN P f s):EK P T lG lM lO ((f,s)::lN) lQ lJ:=⟨{ h.e with N:=Yj hs h.e.N },h.m⟩
theorem EK.Q{f s}(h:EK P T lG lM lO lN lQ lJ)(hs:GS.ok P f s):EK P T lG lM lO lN ((f,s)::lQ) lJ:=⟨{ h.e with Q:=Yj hs h.e.Q },h.m⟩
theorem EK.J{f s}(h:EK P T lG lM lO lN lQ lJ)(hs:FJ.ok P f s):EK P T lG lM lO lN lQ ((f,s)::lJ):=⟨{ h.e with J:=Yj hs h.e.J },h.m⟩
abbrev veK(T:TE)(lG:List (Nat×FS))(lM:List (Nat×FM))(lO:List (Nat×FO))(lN:List (Nat×FS))(lQ:List (Nat×GS))(lJ:List (Nat×FJ))(g:Nat)(s:FK):VE:={ ve T lG lM lO lN lQ lJ with K:=look [(g,s)],Z:=s.zT }
theorem EK.K{g:FuncId}{s:FK}(h:EK P T lG lM lO lN lQ lJ)(hs:s.ok P g):(veK T lG lM lO lN lQ lJ g s).ok P:={ h.e with K:=Yj hs fun X i h=>nomatch h }
def okA(fn:Func)(c:Code)(n:Nat):Bool:=!fn.body.isNone && (!(fn.name == "runtime.NumGoroutine") && (okC fn.ntmps c && Nat.ble n fn.ntmps))
theorem vo{fn:Func}{c:Code}{n:Nat}(h:okA fn c n=true):fn.body.isNone=false/\(fn.name == "runtime.NumGoroutine")=false/\okC fn.ntmps c=true/\Nat.ble n fn.ntmps=true:=by
 simp_all [okA]
variable {f:FuncId} {fn:Func} {c:Code}
theorem fS(hE:EK P T lG lM lO lN lQ lJ)(h:H){fs:FS}(hf:P.funcs[f]?=some fn)(hb:fn.body=some c:=by rfl)(hk:okA fn c fs.ps.len=true:=by kernel_rfl)(hs:∀x,UX (ve T lG lM lO lN lQ lJ) c h fn.results.toList fs.ps fs.rs fs.rk x=fs.sem x:=by intro x;kernel_rfl):fs.ok P f :=
 zBo hE.e hE.m ⟨_,hf,(vo hk).1,(vo hk).2.1⟩ hf hb (vo hk).2.2.1 (vo hk).2.2.2 hs
theorem fM(hE:EK P T lG lM lO lN lQ lJ)(h:H){fs:FM}(hf:P.funcs[f]?=some fn)(hb:fn.body=some c:=by rfl)(hk:okA fn c fs.ps.len=true:=by kernel_rfl)(hs:∀x,SM (ve T lG lM lO lN lQ lJ) c h fn.results.toList fs.ps fs.io fs.rs x=fs.sem x:=by intro x;kernel_rfl):fs.ok P f :=
 zEy hE.e hE.m ⟨_,hf,(vo hk).1,(vo hk).2.1⟩ hf hb (vo hk).2.2.1 (vo hk).2.2.2 hs
theorem fO(hE:EK P T lG lM lO lN lQ lJ)(h:H){fs:FO}(hf:P.funcs[f]?=some fn)(hb:fn.body=some c:=by rfl)(hk:(fs.ret && okA fn c (fs.ps.len+1))=true:=by kernel_rfl)(hs:∀xs z,SJ (ve T lG lM lO lN lQ lJ) c h fn.results.toList fs.e fs.T fs.ps xs z=fs.sem xs z:=by intro xs z;kernel_rfl):fs.ok P f:=by
 rw[zMQ]at hk;exact zEw hE.e hE.m ⟨_,hf,(vo hk.2).1,(vo hk.2).2.1⟩ hf hb (vo hk.2).2.2.1 (vo hk.2).2.2.2 hk.1 hs
theorem fN(hE:EK P T lG lM lO lN lQ lJ)(h:H){fs:FS}(hf:P.funcs[f]?=some fn)(hb:fn.body=some c:=by rfl)(hk:okA fn c (fs.ps.len+1)=true:=by kernel_rfl)(hs:∀x,SK (ve T lG lM lO lN lQ lJ) c h fn.results.toList fs.ps fs.rs fs.rk x=fs.sem x:=by intro x;kernel_rfl):fs.okN P f :=
 zEx hE.e hE.m ⟨_,hf,(vo hk).1,(vo hk).2.1⟩ hf hb (vo hk).2.2.1 (vo hk).2.2.2 hs
theorem fQ(hE:EK P T lG lM lO lN lQ lJ)(h:H){fs:GS}(hf:P.funcs[f]?=some fn)(hb:fn.body=some c:=by rfl)(hk:(Nat.beq fn.results.size 0 && (kj c && okA fn c (fs.ps.len+1)))=true:=by kernel_rfl)(hs:∀x,SI (ve T lG lM lO lN lQ lJ) c h fs.ps fs.t x=fs.sem x:=by intro x;kernel_rfl):fs.ok P f:=by
 simp only[zMQ]at hk;have ho:=vo hk.2.2
 exact zEv hE.e hE.m ⟨_,hf,ho.1,ho.2.1⟩ hf hb (by grind) (zMP hk.1) ho.2.2.2 hs
theorem fJ(hE:EK P T lG lM lO lN lQ lJ)(h:H){fs:FJ}(hf:P.funcs[f]?=some fn)(hb:fn.body=some c:=by rfl)(hk:okA fn c fs.ps.len=true:=by kernel_rfl)(hs:∀x,SO (ve T lG lM lO lN lQ lJ) c h fn.results.toList fs.ps fs.kd x=fs.sem x:=by intro x;kernel_rfl):fs.ok P f :=
 zFA hE.e hE.m ⟨_,hf,(vo hk).1,(vo hk).2.1⟩ hf hb (vo hk).2.2.1 (vo hk).2.2.2 hs
def okK(fn:Func)(c:Code)(fs:FK):Bool:=Nat.beq fn.results.size 0 && (kj c && (Nat.blt 0 fn.ntmps && okA fn c (fs.ps.len+fs.cs.length)))
theorem fK(hE:EK P T lG lM lO lN lQ lJ)(h:H){fs s0:FK}(iZ:s0.ok P f)(hf:P.funcs[f]?=some fn)(hZ:fs.zT=s0.zT:=by rfl)(hb:fn.body=some c:=by rfl)(hk:okK fn c fs=true:=by kernel_rfl)(hs:∀x r y,SN (veK T lG lM lO lN lQ lJ f s0) f c h fs x r y=fs.sem x r y:=by intro x r y;kernel_rfl):fs.ok P f:=by
 unfold okK at hk;simp only[zMQ]at hk;have ho:=vo hk.2.2.2
 exact zEz (hE.K iZ) hE.m ⟨_,hf,ho.1,ho.2.1⟩ hf hb ho.2.2.1 hk.2.1 (Array.size_eq_zero_iff.1 (zMP hk.1)) ho.2.2.2 hk.2.2.1 hZ hs
theorem zAU{s:Nat->FK}(hF:FnOk P f)(h0:∀x r y,(s 0).sem x r y=Comp.fail)(hS:∀n,(s n).ok P f->(s (n+1)).ok P f):∀n,(s n).ok P f
 |0=>⟨hF,fun O w _ vs x c y bl ts σs ss G _ _ _ _ _ _ n r hr=>by rw[h0]at hr;cases hr⟩
 |n+1=>hS n (zAU hF h0 hS n)
theorem fSK{g:FuncId}{s0:FK}(hE:EK P T lG lM lO lN lQ lJ)(iZ:s0.ok P g)(h:H){fs:FS}(hf:P.funcs[f]?=some fn)(hb:fn.body=some c:=by rfl)(hk:okA fn c fs.ps.len=true:=by kernel_rfl)(hs:∀x,UX (veK T lG lM lO lN lQ lJ g s0) c h fn.results.toList fs.ps fs.rs fs.rk x=fs.sem x:=by intro x;kernel_rfl):fs.ok P f :=
 zBo (hE.K iZ) hE.m ⟨_,hf,(vo hk).1,(vo hk).2.1⟩ hf hb (vo hk).2.2.1 (vo hk).2.2.2 hs
def okR(fn:Func)(c:Code)(n:Nat)(gn:Func):Bool:=!fn.body.isNone && (!(fn.name == "runtime.NumGoroutine") && (Nat.ble n fn.ntmps && (Nat.blt 0 fn.ntmps && (okC fn.ntmps (cl c) && (okC fn.ntmps (cl (cr c)) && (okC fn.ntmps (cr (cr (cr c))) && ((kj (cl c) && (kj (cl (cr c)) && kj (cr (cr (cr c))))) && (z6 fn.ntmps (opsOf (cl (cr (cr c)))) && (okC gn.ntmps (cr (gn.body.getD .skip)) && kj (cr (gn.body.getD .skip)))))))))))
theorem fR{g:FuncId}{s0:FK}{gn:Func}{R0:Code}{m se so:Nat}{zt:Ty}{id:Nat}(hE:EK P T lG lM lO lN lQ lJ)(iZ:s0.ok P g){d:FuncId}(hg:RecG P d gn R0 (cr (gn.body.getD .skip)) m se so s0.zT zt)(hA hB hC hG:H){fs:FS}(hf:P.funcs[f]?=some fn)(hb:fn.body=some (.seq (cl c) (.seq (cl (cr c)) (.seq (.region id (opsOf (cl (cr (cr c)))).toArray false) (cr (cr (cr c)))))):=by rfl)(hk:okR fn c fs.ps.len gn=true:=by kernel_rfl)
  (hs:∀x,SH (veK T lG lM lO lN lQ lJ g s0) (cl c) (cl (cr c)) (opsOf (cl (cr (cr c)))) (cr (cr (cr c))) hA hB hC (cr (gn.body.getD .skip)) hG d m se so zt fn.results.toList fs.ps fs.rs fs.rk x=fs.sem x:=by intro x;kernel_rfl):fs.ok P f:=by
 unfold okR at hk;simp only[zMQ,Bool.not_eq_true']at hk;obtain⟨k1,k2,k3,k4,k5,k6,k7,k8,k9,k10,k11⟩:=hk;exact zEu (hE.K iZ) hE.m ⟨_,hf,k1,k2⟩ hf hb k5 k6 k7 (by grind) k9 k3 k4 hg k10 k11 hs
def UW{T:Type}(z:T)(s:T->T)(n:Nat):T:=Nat.rec z (fun _ r=>s r) n
end short
end Go.Den
end
section
namespace Go.Lift
open Go Go.Eng
variable {α β γ δ ε σ τ:Type}
namespace Comp
def ZR(f:σ->α->Step σ ε)(fin:σ->ε):σ->List α->ε
 |s,[]=>fin s
 |s,x::xs=>match f s x with
  |.next s'=>ZR f fin s' xs
  |.done e=>e
def Step.map(g:σ->τ):Step σ ε->Step τ ε
 |.next s=>.next (g s)
 |.done e=>.done e
theorem YY{body:τ->Comp (Step τ ε)}(st:σ->Nat->τ)(xs:List α)(f:σ->α->Step σ ε)(fin:σ->ε)(I:σ->Nat->Prop)
  (hb:∀s i x,xs[i]?=some x->I s i->(body (st s i)).val=some ((f s x).map fun s'=>st s' (i+1)))
  (hI:∀s i x s',xs[i]?=some x->I s i->f s x=.next s'->I s' (i+1))
  (he:∀s,I s xs.length->(body (st s xs.length)).val=some (.done (fin s))) (s:σ) (h0:I s 0):(loop body (st s 0)).val=some (ZR f fin s xs):=by
 have key:∀(ys zs:List α) (s:σ),xs=zs++ys->I s zs.length->(loop body (st s zs.length)).val=some (ZR f fin s ys):=by
  intro ys
  induction ys with
  |nil =>
   intro zs s hx hs;rw[zMw]at hx;subst hx;rw[zJ,he s hs];rfl
  |cons y ys ih =>
   intro zs s hx hs;have hy:xs[zs.length]?=some y:=by grind
   rw[zJ,hb s _ y hy hs];simp only[ZR,zMO]
   cases hf:f s y with
   |next s' =>
    simp only[Step.map];have:=ih (zs++[y]) s' (by grind) (by grind)
    grind
   |done e=>rfl
 exact key xs [] s rfl h0
theorem XX{f:σ->α->σ}{fin:σ->ε}:∀(xs:List α) (s:σ),ZR (fun s x=>.next (f s x)) fin s xs=fin (xs.foldl f s)
 | [],_=>rfl
 |x::xs,s=>by simp only[ZR,List.foldl_cons];exact XX xs (f s x)
end Comp
theorem zI{xs:List α}{i:Nat}{x:α}(h:xs[i]?=some x):(idx xs (i:Int)).val=some x:=by
 simp_all [idx]
theorem Kb{xs:List α}{i:Int}{x:α}(h0:0<=i)(h:xs[i.toNat]?=some x):(idx xs i).val=some x:=by
 simp_all [idx]
theorem yQ{xs ys:List α}(h:xs.length+ys.length<=LIM):(app xs ys).val=some (xs++ys):=by
 unfold app;simp_all
theorem YK{xs:List α}{l h:Int}(hr:0<=l/\l<=h/\h<=xs.length):(sub xs l h).val=some ((xs.take h.toNat).drop l.toNat):=by
 unfold sub;simp_all
theorem mk_val{n:Int}{z:α}(h:0<=n/\n<=LIM):(mk n z).val=some (List.replicate n.toNat z):=by
 unfold mk;simp_all
theorem VP{xs:List α}{i:Int}{x:α}(h:0<=i/\i<xs.length):(upd xs i x).val=some (xs.set i.toNat x):=by
 unfold upd;simp_all
theorem Y5{a b:Int}(h:b≠0):(rem a b).val=some (a.tmod b):=by
 unfold rem;simp_all
theorem zL{xs:List α}{i:Nat}{x:α}(h:xs[i]?=some x):i<xs.length:=(zMW.1 h).1
def Ok(c:Comp α)(P:α->Prop):Prop:=∃a,c.val=some a/\P a
namespace Ok
theorem yN{c:Comp α}{a:α}{P:α->Prop}(h:c.val=some a):Ok c P↔P a:=by
 constructor
 ·rintro⟨b,h1,h2⟩;grind
 ·exact fun hp=>⟨a,h,hp⟩
theorem val{c:Comp α}{a:α}(h:Ok c (fun x=>x=a)):c.val=some a:=by
 obtain⟨b,h1,h2⟩:=h;grind
theorem mono{c:Comp α}{P Q:α->Prop}(h:Ok c P)(i:∀a,P a->Q a):Ok c Q:=by
 obtain⟨a,h1,h2⟩:=h;exact⟨a,h1,i a h2⟩
theorem pure{a:α}{P:α->Prop}:Ok (Comp.pure a) P↔P a:=yN (Comp.zB a)
theorem bind{c:Comp α}{f:α->Comp β}{P:β->Prop}:Ok (c.bind f) P↔Ok c fun a=>Ok (f a) P:=by
 unfold Ok;rw[zA]
 cases hc:c.val with
 |none=>simp
 |some a=>simp
theorem zK{c:Comp α}{a:α}(h:c.val=some a){f:α->Comp β}{P:β->Prop}:Ok (c.bind f) P↔Ok (f a) P:=by rw[bind,yN h]
theorem gd{g:Bool}{c:Comp α}{d:α}{P:α->Prop}:Ok (Comp.gd g c d) P↔if g=true then Ok c P else P d:=by
 cases g with
 |true=>exact Iff.rfl
 |false=>exact pure
theorem kD{g:Bool}{c:Comp α}{d:α}{P:α->Prop}(h1:g=true->Ok c P)(h2:g=false->P d):Ok (Comp.gd g c d) P:=by
 cases g with
 |true=>exact h1 rfl
 |false=>exact pure.2 (h2 rfl)
theorem idx{xs:List α}{i:Int}{P:α->Prop}{x:α}(h0:0<=i)(h:xs[i.toNat]?=some x):Ok (Lift.idx xs i) P↔P x:=yN (Kb h0 h)
theorem XA{xs:List α}{i:Nat}{P:α->Prop}{x:α}(h:xs[i]?=some x):Ok (Lift.idx xs (i:Int)) P↔P x:=yN (zI h)
theorem app{xs ys:List α}{P:List α->Prop}(h:xs.length+ys.length<=LIM):Ok (Lift.app xs ys) P↔P (xs++ys):=yN (yQ h)
theorem sub{xs:List α}{l h:Int}{P:List α->Prop}(hr:0<=l/\l<=h/\h<=xs.length):Ok (Lift.sub xs l h) P↔P ((xs.take h.toNat).drop l.toNat):=yN (YK hr)
theorem rem{a b:Int}{P:Int->Prop}(h:b≠0):Ok (Lift.rem a b) P↔P (a.tmod b):=yN (Y5 h)
theorem upd{xs:List α}{i:Int}{x:α}{P:List α->Prop}(h:0<=i/\i<xs.length):Ok (Lift.upd xs i x) P↔P (xs.set i.toNat x):=yN (VP h)
theorem mk{n:Int}{z:α}{P:List α->Prop}(h:0<=n/\n<=LIM):Ok (Lift.mk n z) P↔P (List.replicate n.toNat z):=yN (mk_val h)
theorem loop{body:σ->Comp (Comp.Step σ ε)}(I:σ->Prop)(m:σ->Nat){P:ε->Prop}{s:σ}(h0:I s)
  (hb:∀s,I s->Ok (body s) fun t=>match t with|.next s'=>I s'/\m s'<m s|.done e=>P e):Ok (Comp.loop body s) P:=by
 have key:∀k s,m s=k->I s->Ok (Comp.loop body s) P:=by
  intro k
  induction k using Nat.strongRecOn with
  |_ k ih =>
   intro s hk hI;obtain⟨t,h1,h2⟩:=hb s hI
   cases t with
   |next s' =>
    obtain⟨e,h3,h4⟩:=ih (m s') (by omega) s' rfl h2.1
    exact⟨e,by grind [zJ],h4⟩
   |done e=>exact⟨e,by grind [zJ],h2⟩
 grind
theorem count{body:σ->Comp (Comp.Step σ ε)}(N:Nat)(I:Nat->σ->Prop){P:ε->Prop}{s:σ}(h0:I 0 s)
  (hb:∀i s,i<N->I i s->Ok (body s) fun t=>match t with|.next s'=>I (i+1) s'|.done e=>P e)
  (he:∀s,I N s->Ok (body s) fun t=>match t with|.next _=>False|.done e=>P e):Ok (Comp.loop body s) P:=by
 have key:∀k i s,i+k=N->I i s->Ok (Comp.loop body s) P:=by
  intro k
  induction k with
  |zero =>
   intro i s hi hI;have:i=N:=by omega
   subst this;obtain⟨t,h1,h2⟩:=he s hI
   cases t with
   |next _=>grind
   |done e=>exact⟨e,by grind [zJ],h2⟩
  |succ k ih =>
   intro i s hi hI;obtain⟨t,h1,h2⟩:=hb i s (by omega) hI
   cases t with
   |next s' =>
    obtain⟨e,h3,h4⟩:=ih (i+1) s' (by omega) h2
    exact⟨e,by grind [zJ],h4⟩
   |done e=>exact⟨e,by grind [zJ],h2⟩
 exact key N 0 s (by omega) h0
end Ok
end Go.Lift
end
section
namespace Go.Geo
open Go Go.Eng Go.Lift Go.Den
variable {α β γ δ ε σ τ:Type}
theorem zj{m n:Int}:(ltI m n=true)=(m<n):=by simp[ltI]
theorem J8{m n:Int}:(gtI m n=true)=(n<m):=by simp[gtI]
theorem zBh{m n:Int}:(leI m n=true)=(m<=n):=by simp[leI]
theorem Jl{m n:Int}:(eqI m n=true)=(m=n):=by simp[eqI]
theorem gJ{m n:Int}:(neI m n=true)=(m≠n):=by simp[neI]
theorem vV(f:α->Comp β)(g:(α->Comp β)->Comp β):jn f g=g f:=rfl
theorem yV(b:Bool):ntB b = !b:=rfl
theorem YL(a b:Bool):sel a true b=(a || b):=by cases a<;>rfl
theorem Yh(a b:Bool):sel a b false=(a && b):=by cases a<;>rfl
theorem zR(xs:List α):zD xs=(xs.length:Int):=rfl
attribute [grind =] ltI gtI leI geI eqI neI zD ntB adB sel
def W(n:Int):Int:=IntKind.wrap .i64 n
theorem Uh(n:Int):W n=(n+9223372036854775808) % 18446744073709551616-9223372036854775808:=by
 unfold W;simp[IntKind.wrap,IntKind.bits,IntKind.signed];omega
theorem r9{n:Int}(h : -9223372036854775808<=n/\n<9223372036854775808):W n=n:=by grind [Uh]
theorem zAw{m n:Int}(k:Int)(h:m=n+18446744073709551616 * k):W m=W n:=by grind [Uh]
theorem Ie(n:Int):∃k,W n=n+18446744073709551616 * k:=⟨- ((n+9223372036854775808) / 18446744073709551616),by grind [Uh]⟩
theorem zAP(m n:Int):W (W m+n)=W (m+n):=by
 obtain⟨k,h⟩:=Ie m;grind [zAw]
theorem zAO(m n:Int):W (m+W n)=W (m+n):=by
 obtain⟨k,h⟩:=Ie n;grind [zAw]
theorem Hv(m n:Int):W (W m-n)=W (m-n):=by
 obtain⟨k,h⟩:=Ie m;grind [zAw]
theorem Hu(m n:Int):W (m-W n)=W (m-n):=by
 obtain⟨k,h⟩:=Ie n;grind [zAw]
theorem zFT(m n:Int):zH .i64 m n=W (m+n):=rfl
theorem RN(m n:Int):gZ .i64 m n=W (m-n):=rfl
theorem R6(m n:Int):kY .i64 m n=W (m * n):=rfl
theorem zEb(m:Int):Yp .i64 m=W (-m):=by unfold Yp;rw[Int.zero_sub];rfl
theorem ku{m n:Int}(h : -9223372036854775808<=m+n/\m+n<9223372036854775808):zH .i64 m n=m+n:=r9 h
theorem JW{m n:Int}(h : -9223372036854775808<=m-n/\m-n<9223372036854775808):gZ .i64 m n=m-n:=r9 h
theorem XB{m n:Int}(h : -9223372036854775808<=m * n/\m * n<9223372036854775808):kY .i64 m n=m * n:=r9 h
theorem JZ{m:Int}(h : -9223372036854775808<m/\m<9223372036854775808):Yp .i64 m = -m:=by grind [zEb,r9]
theorem zN{i:Nat}(h:i<9223372036854775807):zH .i64 (i:Int) 1=((i+1:Nat):Int):=by grind [ku]
theorem YR:LIM<9223372036854775807:=by decide
attribute [grind =] ku JW zN
theorem ga{n:Nat}{m:Int}(h:0<=m/\m<n):(inb n m).val=some ():=by simp_all [inb]
theorem zAJ{e:Bool}{c:Comp β}{y:β}(h1:e=true->c.val=some y){d:Comp β}(h2:d.val=some y):(amb e c d).val=some y:=by
 cases e with
 |false=>exact h2
 |true =>
  obtain⟨n,hn⟩:=vN.1 (h1 rfl);obtain⟨m,hm⟩:=vN.1 h2;have a1:=c.mono (Nat.le_max_left n m) hn
  have a2:=d.mono (Nat.le_max_right n m) hm;refine vN.2 ⟨max n m,?_⟩
  show (match c.run (max n m),d.run (max n m) with
  |some x,some y=>match Classical.propDecidable (x=y) with
   |.isTrue _=>some x
   |.isFalse _=>none
  |_,_=>none)=some y
  rw[a1,a2];simp only;split
  ·rfl
  grind
theorem Kx{xs:List α}{i:Int}{x:α}(h:(if 0<=i then xs[i.toNat]? else none)=some x):(idx xs i).val=some x:=by
 grind [Kb]
theorem wL{body:τ->Comp (Comp.Step τ ε)}(st:σ->Nat->τ)(xs:List α)(f:σ->α->Comp.Step σ ε)(fin:σ->ε)(s:σ)
  (hb:∀s i x,xs[i]?=some x->(body (st s i)).val=some ((f s x).map fun s'=>st s' (i+1)))
  (he:∀s,(body (st s xs.length)).val=some (.done (fin s))):(Comp.loop body (st s 0)).val=some (Comp.ZR f fin s xs) :=
 Comp.YY st xs f fin (fun _ _=>True) (fun s i x hx _=>hb s i x hx) (fun _ _ _ _ _ _ _=>trivial) (fun s _=>he s) s trivial
theorem pd{p:α->Bool}{c d:ε}:∀(xs:List α),Comp.ZR (fun (_:Unit) x=>if p x=true then .next () else .done c) (fun _=>d) () xs=bif xs.all p then d else c
 | []=>rfl
 |x::xs=>by
  have ih:=pd (p:=p) (c:=c) (d:=d) xs;grind [Comp.ZR]
theorem Zv{body:Int->Comp (Comp.Step Int ε)}(xs:List α)(p:α->Bool){c d:ε}(hb:∀(i:Nat) x,xs[i]?=some x->(body (i:Int)).val=some (if p x=true then .next ((i+1:Nat):Int) else .done c))(he:(body (xs.length:Int)).val=some (.done d)) :
  (Comp.loop body 0).val=some (bif xs.all p then d else c):=by
 have h1:=wL (fun (_:Unit) i=>((i:Nat):Int)) xs (fun (_:Unit) x=>if p x=true then .next () else .done c) (fun _=>d) () (body:=body)
  (fun s i x hx=>by rw[hb i x hx];cases p x<;>rfl) (fun s=>he)
 rw[pd]at h1;exact h1
def fnd(p:α->Bool):List α->Nat->Option Nat
 | [],_=>none
 |x::xs,i=>if p x=true then some i else fnd p xs (i+1)
theorem lA{p:α->Bool}:∀ {xs:List α} {i:Nat},(fnd p xs i).isSome=xs.any p
 | [],_=>rfl
 |x::xs,i=>by
  simp only[fnd,List.any_cons]
  cases hp:p x with
  |true=>rfl
  |false=>simp[lA (xs:=xs)]
theorem CC{p:α->Bool}:∀ {xs:List α} {i j:Nat},fnd p xs i=some j->i<=j/\∃x,xs[j-i]?=some x/\p x=true/\∀k y,k<j-i->xs[k]?=some y->p y=false
 | [],_,_,h=>by cases h
 |x::xs,i,j,h=>by
  unfold fnd at h;split at h
  ·grind
  ·rename_i hp
   obtain⟨h1,y,h2,h3,h4⟩:=CC h;grind
def IX(x0:List α)(x1:α×Unit->Comp (Bool×Unit)):Comp (Int×Unit) :=
 (Comp.loop
   (fun (x:Int)=>if ltI x (zD x0)=true then
     (idx x0 x).bind fun x_1=>(x1 (x_1,())).bind fun x_2=>if x_2.1=true then Comp.pure (.done (Sum.inr x)) else Comp.pure (.next (zH .i64 x 1))
    else Comp.pure (.done (Sum.inl ())))
   0).bind fun (x:Unit⊕Int)=>match x with
  |Sum.inl x=>Comp.pure (-1,())
  |Sum.inr x=>Comp.pure (x,())
def zAj:Option Nat->Int
 |some i=>i
 |none => -1
theorem B7{xs:List α}{f:α×Unit->Comp (Bool×Unit)}{p:α->Bool}(hl:xs.length<9223372036854775807)(hf:∀x∈xs,(f (x,())).val=some (p x,())):(IX xs f).val=some (zAj (fnd p xs 0),()):=by
 unfold IX;have key:∀(ys:List α) (i:Nat),Comp.ZR (fun (s:Nat) x=>if p x=true then .done (Sum.inr ((s:Nat):Int)) else .next (s+1)) (fun _=>(Sum.inl ():Unit⊕Int)) i ys=match fnd p ys i with|some j=>Sum.inr ((j:Nat):Int)|none=>Sum.inl ():=by
  intro ys
  induction ys with
  |nil=>intro i;rfl
  |cons y ys ih =>
   grind [Comp.ZR,fnd]
 have h:=Comp.YY (fun (s:Nat) i=>((i:Nat):Int)) xs (fun (s:Nat) x=>if p x=true then .done (Sum.inr ((s:Nat):Int)) else .next (s+1)) (fun _=>(Sum.inl ():Unit⊕Int)) (fun s i=>s=i)
  (body:=fun (x:Int)=>if ltI x (zD xs)=true then
     (idx xs x).bind fun x_1=>(f (x_1,())).bind fun x_2=>if x_2.1=true then Comp.pure (.done (Sum.inr x)) else Comp.pure (.next (zH .i64 x 1))
    else Comp.pure (.done (Sum.inl ())))
  (fun s i x hx hs=>by
   subst hs;have gF:=zL hx
   have h1:(s:Int)<zD xs:=by grind
   simp only[zj,h1,if_true,zA,zI hx,zMO,hf x (zMV hx),zN (show s<9223372036854775807 by omega)]
   cases hp:p x<;>simp[Comp.Step.map])
  (fun s i x s' hx hs he=>by
   grind)
  (fun s hs=>by
   simp[zR,zj]) 0 rfl
 rw[key xs 0]at h;rw[zA];refine(zMh (fun o=>Option.bind o _) h).trans ?_
 rw[zMO];cases fnd p xs 0<;>exact Comp.zB _
def zIn(x0:List α)(x1:α×Unit->Comp (Bool×Unit)):Comp (Bool×Unit):=(IX x0 x1).bind fun x=>Comp.pure (geI x.1 0,())
theorem Zu{xs:List α}{f:α×Unit->Comp (Bool×Unit)}{p:α->Bool}(hl:xs.length<9223372036854775807)(hf:∀x∈xs,(f (x,())).val=some (p x,())):(zIn xs f).val=some (xs.any p,()):=by
 unfold zIn;rw[zA,B7 hl hf,zMO,Comp.zB,<-lA (i:=0)];cases fnd p xs 0<;>simp[zAj,geI]
end Go.Geo
end
noncomputable section
namespace Go.Geo
open Go Go.Eng Go.Lift Go.Den
variable {α β γ δ ε σ τ:Type}
def UV(z:α)(x0:Int):Comp (List α×Unit) :=
 jn
  (fun (x:Unit)=>jn (fun (x:List α)=>Comp.pure (x,()))
    fun (j:List α->Comp (List α×Unit))=>if gtI (gZ .i64 x0 0) 0=true then
     jn (fun (x:List α)=>j x)
      fun (j:List α->Comp (List α×Unit))=>((sub [] 0 0).bind fun (x:List Unit)=>Comp.pure ()).bind fun x=>(mk (gZ .i64 x0 0) z).bind fun zs=>(sub zs 0 0).bind fun ys=>j ys
    else j [])
  fun (j:Unit->Comp (List α×Unit))=>if ltI x0 0=true then Comp.fail else j ()
theorem QY{z:α}{n:Nat}(h:n<=LIM):(UV z n).val=some ([],()):=by
 have hL:=YR;unfold UV;simp only[vV,zj,J8,JW (show -9223372036854775808<=(n:Int)-0/\(n:Int)-0<9223372036854775808 by omega)]
 rw[zMr (by omega)]
 rw[Xk];split
 ·have h1:(sub ([]:List Unit) 0 0).val=some []:=by grind [YK]
  have h2:(mk ((n:Int)-0) z).val=some (List.replicate n z):=by grind [mk_val]
  simp_all [YK,zA]
 ·exact Comp.zB _
def zIq(z:α)(x0:List (List α)):Comp (List α×Unit) :=
 (Comp.loop
   (fun (x:Int×Int)=>if ltI x.2 (zD x0)=true then
     (idx x0 x.2).bind fun x_1=>jn (fun (x_2:Unit)=>Comp.pure (.next (zH .i64 x.1 (zD x_1),zH .i64 x.2 1)))
       fun (j:Unit->Comp (Comp.Step (Int×Int) Int))=>if ltI (zH .i64 x.1 (zD x_1)) 0=true then Comp.fail else j ()
    else Comp.pure (.done x.1))
   (0,0)).bind fun x=>(UV z x).bind fun y=>(Comp.loop
     (fun (x:List α×Int)=>if ltI x.2 (zD x0)=true then
       (idx x0 x.2).bind fun x_1=>(app x.1 x_1).bind fun zs=>Comp.pure (.next (zs,zH .i64 x.2 1))
      else Comp.pure (.done x.1))
     (y.1,0)).bind fun x=>Comp.pure (x,())
theorem YG{xs:List (List α)}{i:Nat}{x:List α}(h:xs[i]?=some x):(xs.take (i+1)).flatten=(xs.take i).flatten++x:=by
 grind [List.take_add_one]
theorem qA{xs:List (List α)}(i:Nat):(xs.take i).flatten.length<=xs.flatten.length:=by
 grind [List.take_append_drop]
theorem K1{z:α}{xs:List (List α)}(h:xs.flatten.length<=LIM)(hn:xs.length<9223372036854775807):(zIq z xs).val=some (xs.flatten,()):=by
 have hL:=YR;unfold zIq;have h1:=Comp.YY (fun (s:Nat) i=>(((s:Nat):Int),((i:Nat):Int))) xs (fun (s:Nat) x=>.next (s+x.length)) (fun s=>((s:Nat):Int)) (fun s i=>s=(xs.take i).flatten.length)
  (body:=fun (x:Int×Int)=>if ltI x.2 (zD xs)=true then
     (idx xs x.2).bind fun x_1=>jn (fun (x_2:Unit)=>Comp.pure (.next (zH .i64 x.1 (zD x_1),zH .i64 x.2 1)))
       fun (j:Unit->Comp (Comp.Step (Int×Int) Int))=>if ltI (zH .i64 x.1 (zD x_1)) 0=true then Comp.fail else j ()
    else Comp.pure (.done x.1))
  (fun s i x hx hs=>by
   have gF:=zL hx;have h1:(i:Int)<zD xs:=by grind
   have h2:s+x.length<=LIM:=by
    have:=qA (xs:=xs) (i+1);rw[YG hx,zMR]at this;omega
   have h3:zH .i64 (s:Int) (zD x)=((s+x.length:Nat):Int):=by grind
   simp only[vV,zj,h1,if_true,zA,zI hx,zMO,h3];rw[zMr (by omega),Comp.zB,zN (show i<9223372036854775807 by omega)]
   rfl)
  (fun s i x s' hx hs he=>by simp_all [YG])
  (fun s hs=>by
   simp[zR,zj]) 0 (by simp)
 have hsum:Comp.ZR (fun (s:Nat) (x:List α)=>(.next (s+x.length):Comp.Step Nat Int)) (fun s=>((s:Nat):Int)) 0 xs=((xs.flatten.length:Nat):Int):=by
  have key:∀(ys:List (List α)) (s:Nat),Comp.ZR (fun (s:Nat) (x:List α)=>(.next (s+x.length):Comp.Step Nat Int)) (fun s=>((s:Nat):Int)) s ys=((s+ys.flatten.length:Nat):Int):=by
   intro ys
   induction ys with
   |nil=>grind [Comp.ZR]
   |cons y ys ih=>grind [Comp.ZR]
  grind
 rw[hsum]at h1;have h2:=Comp.YY (fun (s:List α) i=>(s,((i:Nat):Int))) xs (fun (s:List α) x=>.next (s++x)) (fun s=>s) (fun s i=>s=(xs.take i).flatten)
  (body:=fun (x:List α×Int)=>if ltI x.2 (zD xs)=true then
       (idx xs x.2).bind fun x_1=>(app x.1 x_1).bind fun zs=>Comp.pure (.next (zs,zH .i64 x.2 1))
      else Comp.pure (.done x.1))
  (fun s i x hx hs=>by
   have gF:=zL hx;have h1:(i:Int)<zD xs:=by grind
   have h2:s.length+x.length<=LIM:=by
    have:=qA (xs:=xs) (i+1);rw[YG hx,zMR]at this;grind
   simp only[zj,h1,if_true,zA,zI hx,zMO,yQ h2,Comp.zB,zN (show i<9223372036854775807 by omega)]
   rfl)
  (fun s i x s' hx hs he=>by grind [YG])
  (fun s hs=>by
   simp[zR,zj]) [] (by simp)
 have cC:Comp.ZR (fun (s:List α) (x:List α)=>(.next (s++x):Comp.Step (List α) (List α))) (fun s=>s) [] xs=xs.flatten:=by
  have key:∀(ys:List (List α)) (s:List α),Comp.ZR (fun (s:List α) (x:List α)=>(.next (s++x):Comp.Step (List α) (List α))) (fun s=>s) s ys=s++ys.flatten:=by
   intro ys
   induction ys with
   |nil=>grind [Comp.ZR]
   |cons y ys ih=>grind [Comp.ZR]
  grind
 rw[cC]at h2;rw[zA];refine(zMh (fun o=>Option.bind o _) h1).trans ?_
 rw[zMO,zA,QY h,zMO,zA];simp_all
def zIo(x0:List α):Comp (List α×Unit):=amb (uN x0) (Comp.pure ([],())) ((app [] x0).bind fun zs=>Comp.pure (zs,()))
theorem K0{xs:List α}(h:xs.length<=LIM):(zIo xs).val=some (xs,()):=by
 unfold zIo;refine zAJ (fun he=>?_) ?_
 ·cases xs with
  |nil=>exact Comp.zB _
  |cons=>cases he
 simp_all [zA,yQ]
def zIm(z:α)(xs:List α)(x0:α×Unit->Comp (Bool×Unit)):Comp (List α) :=
 (IX xs x0).bind fun x=>if eqI x.1 (-1)=true then Comp.pure xs
  else
   (Comp.loop
      (fun (x:List α×Int×Int)=>if ltI x.2.2 (zD x.1)=true then
        (idx x.1 x.2.2).bind fun x_1=>(x0 (x_1,())).bind fun x_2=>jn (fun (x_3:List α×Int)=>Comp.pure (.next (x_3.1,x_3.2,zH .i64 x.2.2 1)))
           fun (j:List α×Int->Comp (Comp.Step (List α×Int×Int) (List α×Int)))=>if ntB x_2.1=true then (inb x.1.length x.2.1).bind fun x_3=>j (gz x.1 x.2.1 x_1,zH .i64 x.2.1 1)
           else j (x.1,x.2.1)
       else Comp.pure (.done (x.1,x.2.1)))
      (xs,x.1,zH .i64 x.1 1)).bind fun x=>((sub x.1 x.2 (zD x.1)).bind fun x=>Comp.pure ()).bind fun x_1=>(sub x.1 (Int.ofNat x.2.toNat) (zD x.1)).bind fun x_2=>jn (fun (x:List α)=>Comp.pure x)
       fun (j:List α->Comp (List α))=>(sub (List.take x.2.toNat x.1++List.replicate (x.1.length.sub x.2.toNat) z) 0 x.2).bind fun ys=>j ys
theorem Hh{z:α}{l:List α}{k:Nat}(h:k<=l.length):(((sub l (k:Int) (zD l)).bind fun x=>Comp.pure ()).bind fun x_1=>(sub l (Int.ofNat (k:Int).toNat) (zD l)).bind fun x_2=>jn (fun (x:List α)=>Comp.pure x)
       fun (j:List α->Comp (List α))=>(sub (List.take (k:Int).toNat l++List.replicate (l.length.sub (k:Int).toNat) z) 0 (k:Int)).bind fun ys=>j ys).val=some (l.take k):=by
 have e:Int.ofNat (k:Int).toNat=(k:Int):=by simp
 have e2:(k:Int).toNat=k:=by simp
 rw[e,e2];have h1:(sub l (k:Int) (zD l)).val=some (l.drop k):=by simp_all [YK,zR]
 have h2:(sub (List.take k l++List.replicate (l.length.sub k) z) 0 (k:Int)).val=some (l.take k):=by
  grind [YK]
 simp_all [zA,vV]
theorem Hg{z:α}{xs:List α}{f:α×Unit->Comp (Bool×Unit)}{p:α->Bool}(hl:xs.length<9223372036854775807)(hf:∀x∈xs,(f (x,())).val=some (p x,())):(zIm z xs f).val=some (xs.filter fun x=>!p x):=by
 unfold zIm;rw[zA,B7 hl hf,zMO]
 cases lB:fnd p xs 0 with
 |none =>
  have c7:xs.any p=false:=by grind [lA]
  simp only[zAj,eqI,decide_true,if_true,Comp.zB];grind [List.filter_eq_self]
 |some i =>
  obtain⟨_,x,hx,hp,sG⟩:=CC lB;rw[Nat.sub_zero]at hx sG;have gF:=zL hx
  have fE:¬((i:Int) = -1):=by omega
  simp only[zAj,Jl,fE,if_false];have fX:(xs.take (i+1)).filter (fun x=>!p x)=xs.take i:=by
   rw[List.take_add_one,hx,List.filter_append];simp only[Option.toList_some,List.filter_cons,hp,Bool.not_true,Bool.false_eq_true,if_false,List.filter_nil,zMw];grind [List.filter_eq_self,List.mem_iff_getElem?]
  -- the state: what is kept,then what was not walked over yet
  let st:List α->Nat->List α×Int×Int:=fun l k=>(l,(((xs.take k).filter fun x=>!p x).length:Int),(k:Int))
  have inv:∀(m k:Nat) (l:List α),k+m=xs.length->i+1<=k->l.length=xs.length->l.take ((xs.take k).filter fun x=>!p x).length=(xs.take k).filter (fun x=>!p x)->l.drop k=xs.drop k->∃l',l'.length=xs.length/\l'.take (xs.filter fun x=>!p x).length=xs.filter (fun x=>!p x)/\(Comp.loop
      (fun (x:List α×Int×Int)=>if ltI x.2.2 (zD x.1)=true then
        (idx x.1 x.2.2).bind fun x_1=>(f (x_1,())).bind fun x_2=>jn (fun (x_3:List α×Int)=>Comp.pure (.next (x_3.1,x_3.2,zH .i64 x.2.2 1)))
           fun (j:List α×Int->Comp (Comp.Step (List α×Int×Int) (List α×Int)))=>if ntB x_2.1=true then (inb x.1.length x.2.1).bind fun x_3=>j (gz x.1 x.2.1 x_1,zH .i64 x.2.1 1)
           else j (x.1,x.2.1)
       else Comp.pure (.done (x.1,x.2.1)))
      (st l k)).val=some (l',((xs.filter fun x=>!p x).length:Int)):=by
   intro m
   induction m with
   |zero =>
    intro k l hk eW eP ht hd;have hk':k=xs.length:=by omega
    subst hk';rw[List.take_length]at ht;refine⟨l,eP,ht,?_⟩;rw[zJ];have h1:¬((xs.length:Int)<zD l):=by grind
    simp only[st,zj,h1,if_false,Comp.zB,zMO,List.take_length]
   |succ m ih =>
    intro k l hk eW eP ht hd;have cI:k<xs.length:=by omega
    obtain⟨y,hy⟩:∃y,xs[k]?=some y:=⟨xs[k],by grind⟩
    have hly:l[k]?=some y:=by
     have h1:(l.drop k)[0]?=some y:=by grind
     grind
    have h1:(k:Int)<zD l:=by grind
    have hcnt:((xs.take k).filter fun x=>!p x).length<=k:=by
     grind [zMl]
    -- at least one was dropped
    have hcnt':((xs.take k).filter fun x=>!p x).length<k:=by
     have:xs.take k=xs.take (i+1)++(xs.take k).drop (i+1):=by
      conv=>lhs;rw[<-List.take_append_drop (i+1) (xs.take k)]
      grind
     rw[this,List.filter_append,fX,zMR];have h2:=List.length_filter_le (fun x=>!p x) ((xs.take k).drop (i+1))
     rw[List.length_drop,zMl]at h2;rw[zMl];omega
    have fT:xs.take (k+1)=xs.take k++[y]:=by grind [List.take_add_one]
    have hd':l.drop (k+1)=xs.drop (k+1):=by rw[<-List.drop_drop,hd,List.drop_drop]
    rw[zJ];have e1:(idx l (k:Int)).val=some y:=zI hly
    have e2:=hf y (zMV hy)
    cases hpy:p y with
    |true =>
     obtain⟨l',g1,g2,g3⟩:=ih (k+1) l (by omega) (by omega) eP (by simp_all) hd'
     refine⟨l',g1,g2,?_⟩;rw[<-g3];simp only[st,zj,h1,if_true,zA,e1,zMO,e2,hpy,vV,yV,Bool.not_true,Bool.false_eq_true,if_false,Comp.zB,zN (show k<9223372036854775807 by omega)]
     simp_all
    |false =>
     have hc:((xs.take k).filter fun x=>!p x).length<l.length:=by omega
     obtain⟨l',g1,g2,g3⟩:=ih (k+1) (l.set ((xs.take k).filter fun x=>!p x).length y) (by omega) (by omega) (by grind)
      (by
       rw[fT,List.filter_append];simp only[List.filter_cons,hpy,Bool.not_false,if_true,List.filter_nil,zMR,zMT];simp_all [List.take_add_one,List.take_set_of_le])
      (by grind [List.drop_set_of_lt])
     refine⟨l',g1,g2,?_⟩;rw[<-g3];have e3:(inb l.length (((xs.take k).filter fun x=>!p x).length:Int)).val=some ():=ga (by omega)
     simp only[st,zj,h1,if_true,zA,e1,zMO,e2,hpy,vV,yV,Bool.not_false,Comp.zB,zN (show k<9223372036854775807 by omega),e3,gz,Int.toNat_natCast,zN (show ((xs.take k).filter fun x=>!p x).length<9223372036854775807 by omega)]
     simp_all
  obtain⟨l',g1,g2,g3⟩:=inv (xs.length-(i+1)) (i+1) xs (by omega) (zMS _) rfl (by grind) rfl
  have f8:st xs (i+1)=(xs,(i:Int),zH .i64 (i:Int) 1):=by
   grind
  rw[f8]at g3;rw[zA];refine(zMh (fun o=>Option.bind o _) g3).trans ?_
  rw[zMO];refine(Hh (z:=z) ?_).trans ?_
  ·grind
  ·rw[g2]
def J3 [DecidableEq α]:α->List α->List α
 |_,[]=>[]
 |x,y::l=>if y=x then J3 y l else y::J3 y l
def cpc [DecidableEq α]:List α->List α
 | []=>[]
 |x::l=>x::J3 x l
theorem wY [DecidableEq α]{a b:α}:∀ {l:List α} {x:α},J3 x (l++[a,b])=J3 x (l++[a])++if b=a then [] else [b]
 | [],x=>by
  grind [J3]
 |y::l,x=>by
  simp only[List.cons_append,J3];split
  ·exact wY
  ·rw[wY];rfl
theorem Qm [DecidableEq α]{a b:α}{l:List α}:cpc (l++[a,b])=cpc (l++[a])++if b=a then [] else [b]:=by
 cases l with
 |nil=>grind [cpc,J3]
 |cons x l=>grind [cpc,wY]
theorem JD [DecidableEq α]{xs:List α}{k:Nat}{a b:α}(ha:xs[k]?=some a)(hb:xs[k+1]?=some b):cpc (xs.take (k+1+1))=cpc (xs.take (k+1))++if b=a then [] else [b]:=by
 grind [List.take_add_one,Qm]
theorem CW [DecidableEq α]:∀ {l:List α} {x:α},(J3 x l).length<=l.length
 | [],_=>zMS _
 |y::l,x=>by
  have:=CW (l:=l) (x:=y);grind [J3]
theorem W0 [DecidableEq α]:∀ {l:List α},(cpc l).length<=l.length
 | []=>zMS _
 |x::l=>by grind [CW,cpc]
end Go.Geo
end
section
namespace Go.Geo
open Go Go.Eng Go.Lift Go.Den
variable {α β γ δ ε σ τ:Type}
def zGF(eq:α->α->Bool)(x2:Int)(x1:List α):Comp (List α×Int) :=
 Comp.loop
  (fun (x_4:List α×Int×Int)=>if ltI x_4.2.2 (zD (List.drop x2.toNat x_4.1))=true then
    (idx (List.drop x2.toNat x_4.1) x_4.2.2).bind fun x_5=>(idx (List.drop x2.toNat x_4.1) (gZ .i64 x_4.2.2 1)).bind fun x_6=>jn
       (fun (x:List α×Int)=>Comp.pure (.next (x.1,x.2,zH .i64 x_4.2.2 1)))
       fun (j:List α×Int->Comp (Comp.Step (List α×Int×Int) (List α×Int)))=>if ntB (eq x_5 x_6)=true then
        (idx (List.drop x2.toNat x_4.1) x_4.2.2).bind fun x=>(inb x_4.1.length x_4.2.1).bind fun x_7=>j (gz x_4.1 x_4.2.1 x,zH .i64 x_4.2.1 1)
       else j (x_4.1,x_4.2.1)
   else Comp.pure (.done (x_4.1,x_4.2.1)))
  (x1,x2,1)
def zGE(eq:α->α->Bool)(z:α)(xs:List α):Comp (List α) :=
 if ltI (zD xs) 2=true then Comp.pure xs
 else
  (Comp.loop
     (fun (x:List α×Int)=>if ltI x.2 (zD x.1)=true then
       (idx x.1 x.2).bind fun x_1=>(idx x.1 (gZ .i64 x.2 1)).bind fun x_2=>if eq x_1 x_2=true then
          ((sub x.1 x.2 (zD x.1)).bind fun x=>Comp.pure ()).bind fun x_3=>(zGF eq x.2 x.1).bind fun x=>((sub x.1 x.2 (zD x.1)).bind fun x=>Comp.pure ()).bind fun x_4=>(sub x.1 (Int.ofNat x.2.toNat) (zD x.1)).bind fun x_5=>jn (fun (x:List α)=>Comp.pure (.done (Sum.inr x)))
               fun (j:List α->Comp (Comp.Step (List α×Int) (List α⊕List α)))=>(sub (List.take x.2.toNat x.1++List.replicate (x.1.length.sub x.2.toNat) z) 0 x.2).bind fun ys=>j ys
         else Comp.pure (.next (x.1,zH .i64 x.2 1))
      else Comp.pure (.done (Sum.inl x.1)))
     (xs,1)).bind fun (x:List α⊕List α)=>match x with
   |Sum.inl x=>Comp.pure x
   |Sum.inr x=>Comp.pure x
theorem zO{xs:List α}{k:Nat}(h:k<xs.length):∃y,xs[k]?=some y:=⟨xs[k],by simp[h]⟩
theorem w7{l xs:List α}{i k:Nat}(h:l.drop i=xs.drop i)(hi:i<=k):l[k]?=xs[k]?:=by
 have:(l.drop i)[k-i]?=(xs.drop i)[k-i]?:=by rw[h]
 grind
theorem Qn [DecidableEq α]{eq:α->α->Bool}(fV:∀x y,eq x y=decide (x=y)){xs:List α}(hl:xs.length<9223372036854775807){i0:Nat}(h0:1<=i0)(hi:i0<xs.length)(fX:cpc (xs.take i0)=xs.take i0)(hdup:xs[i0]?=xs[i0-1]?) :
  ∃l',l'.length=xs.length/\l'.take (cpc xs).length=cpc xs/\(zGF eq (i0:Int) xs).val=some (l',((cpc xs).length:Int)):=by
 have inv:∀(m k:Nat) (l:List α),i0+k+m=xs.length->1<=k->l.length=xs.length->l.take (cpc (xs.take (i0+k))).length=cpc (xs.take (i0+k))->l.drop (i0+k-1)=xs.drop (i0+k-1)->∃l',l'.length=xs.length/\l'.take (cpc xs).length=cpc xs/\(Comp.loop
  (fun (x_4:List α×Int×Int)=>if ltI x_4.2.2 (zD (List.drop (i0:Int).toNat x_4.1))=true then
    (idx (List.drop (i0:Int).toNat x_4.1) x_4.2.2).bind fun x_5=>(idx (List.drop (i0:Int).toNat x_4.1) (gZ .i64 x_4.2.2 1)).bind fun x_6=>jn
       (fun (x:List α×Int)=>Comp.pure (.next (x.1,x.2,zH .i64 x_4.2.2 1)))
       fun (j:List α×Int->Comp (Comp.Step (List α×Int×Int) (List α×Int)))=>if ntB (eq x_5 x_6)=true then
        (idx (List.drop (i0:Int).toNat x_4.1) x_4.2.2).bind fun x=>(inb x_4.1.length x_4.2.1).bind fun x_7=>j (gz x_4.1 x_4.2.1 x,zH .i64 x_4.2.1 1)
       else j (x_4.1,x_4.2.1)
   else Comp.pure (.done (x_4.1,x_4.2.1)))
  (l,((cpc (xs.take (i0+k))).length:Int),(k:Int))).val=some (l',((cpc xs).length:Int)):=by
  intro m
  induction m with
  |zero =>
   intro k l hk h1 eP ht hd;rw[show i0+k=xs.length by omega,List.take_length]at ht |-
   refine⟨l,eP,ht,?_⟩;rw[zJ];have h1:¬((k:Int)<zD (List.drop (i0:Int).toNat l)):=by grind
   simp only[zj,h1,if_false,Comp.zB,zMO]
  |succ m ih =>
   intro k l hk h1 eP ht hd;obtain⟨b,hb⟩:=zO (xs:=xs) (k:=i0+k) (by omega)
   obtain⟨a,ha⟩:=zO (xs:=xs) (k:=i0+k-1) (by omega)
   have hlb:l[i0+k]?=some b:=by grind [w7]
   have hla:l[i0+k-1]?=some a:=by grind [w7]
   have gF:(k:Int)<zD (List.drop (i0:Int).toNat l):=by grind
   have e1:(idx (List.drop (i0:Int).toNat l) (k:Int)).val=some b:=zI (by rw[Int.toNat_natCast,List.getElem?_drop];exact hlb)
   have e2:(idx (List.drop (i0:Int).toNat l) (gZ .i64 (k:Int) 1)).val=some a:=by
    rw[JW (by omega),show (k:Int)-1=((k-1:Nat):Int) by omega]
    exact zI (by rw[Int.toNat_natCast,List.getElem?_drop,show i0+(k-1)=i0+k-1 by omega];exact hla)
   have fT:=JD (xs:=xs) (k:=i0+k-1) ha (by rw[show i0+k-1+1=i0+k by omega];exact hb)
   rw[show i0+k-1+1=i0+k by omega]at fT
   -- fewer are kept than were seen
   have hcnt:(cpc (xs.take (i0+k))).length<i0+k:=by
    have base:(cpc (xs.take (i0+1))).length=i0:=by
     obtain⟨c,hc⟩:=zO (xs:=xs) (k:=i0) hi;have h2:=JD (xs:=xs) (k:=i0-1) (a:=c) (b:=c) (by grind) (by grind)
     rw[show i0-1+1=i0 by omega,zMq rfl,zMw]at h2
     grind
    have mono:∀j,(cpc (xs.take (i0+1+j))).length<=i0+j:=by
     intro j
     induction j with
     |zero=>grind
     |succ j ihj =>
      by_cases hj:i0+1+j<xs.length
      ·obtain⟨b',hb'⟩:=zO (xs:=xs) (k:=i0+j+1) (by omega)
       obtain⟨a',ha'⟩:=zO (xs:=xs) (k:=i0+j) (by omega)
       have h3:=JD ha' hb';rw[show i0+1+(j+1)=i0+j+1+1 by omega,h3,zMR]
       rw[show i0+1+j=i0+j+1 by omega]at ihj
       split<;>simp<;>omega
      grind [List.take_of_length_le]
    have:=mono (k-1);rw[show i0+1+(k-1)=i0+k by omega]at this;omega
   have hd1:l.drop (i0+(k+1)-1)=xs.drop (i0+(k+1)-1):=by
    have:(l.drop (i0+k-1)).drop 1=(xs.drop (i0+k-1)).drop 1:=by rw[hd]
    rw[List.drop_drop,List.drop_drop,show i0+k-1+1=i0+(k+1)-1 by omega]at this
    omega
   by_cases eQ:b=a
   ·rw[zMq eQ,zMw]at fT
    rw[show i0+k+1=i0+(k+1) by omega]at fT
    obtain⟨l',g1,g2,g3⟩:=ih (k+1) l (by omega) (by omega) eP (by grind) hd1
    refine⟨l',g1,g2,?_⟩;rw[fT]at g3;rw[<-g3]
    conv=>lhs;rw[zJ]
    simp only[zj,gF,if_true,zA,e1,e2,zMO,vV,fV,eQ,decide_true,yV,Bool.not_true,Bool.false_eq_true,if_false,Comp.zB,zN (show k<9223372036854775807 by omega)]
   ·rw[zMr eQ]at fT
    rw[show i0+k+1=i0+(k+1) by omega]at fT
    have hc:(cpc (xs.take (i0+k))).length<l.length:=by omega
    obtain⟨l',g1,g2,g3⟩:=ih (k+1) (l.set (cpc (xs.take (i0+k))).length b) (by omega) (by omega) (by grind)
     (by
      rw[fT,zMR,zMT,List.take_add_one,List.take_set_of_le (zMS _),ht];grind)
     (by grind [List.drop_set_of_lt])
    refine⟨l',g1,g2,?_⟩;rw[fT]at g3;rw[<-g3];have e3:(inb l.length ((cpc (xs.take (i0+k))).length:Int)).val=some ():=ga (by omega)
    simp only[Int.toNat_natCast]at gF e1 e2
    conv=>lhs;rw[zJ]
    simp only[zj,gF,if_true,zA,e1,e2,e3,zMO,vV,fV,eQ,decide_false,yV,Bool.not_false,Comp.zB,zN (show k<9223372036854775807 by omega),gz,Int.toNat_natCast,zN (show (cpc (xs.take (i0+k))).length<9223372036854775807 by omega),zMR,zMT]
 have cB:cpc (xs.take (i0+1))=xs.take i0:=by
  obtain⟨c,hc⟩:=zO (xs:=xs) (k:=i0) hi;have h2:=JD (xs:=xs) (k:=i0-1) (a:=c) (b:=c) (by grind) (by grind)
  grind
 obtain⟨l',g1,g2,g3⟩:=inv (xs.length-(i0+1)) 1 xs (by omega) (zMS _) rfl (by grind) rfl
 refine⟨l',g1,g2,?_⟩;rw[<-g3,cB,zMl,Nat.min_eq_left (by omega)]
 rfl
theorem Wy [DecidableEq α]{eq:α->α->Bool}(fV:∀x y,eq x y=decide (x=y)){z:α}{xs:List α}(hl:xs.length<9223372036854775807):(zGE eq z xs).val=some (cpc xs):=by
 unfold zGE;rw[Xk];split
 ·rename_i h
  rw[zj,zR]at h;rw[Comp.zB]
  match xs,h with
  | [],_=>rfl
  | [x],_=>rfl
  |x::y::l,h=>grind
 ·rename_i h
  rw[zj,zR]at h;have inv:∀(m k:Nat),k+m=xs.length->1<=k->cpc (xs.take k)=xs.take k->∃r:List α⊕List α,(r=.inl (cpc xs)\/r=.inr (cpc xs))/\(Comp.loop
     (fun (x:List α×Int)=>if ltI x.2 (zD x.1)=true then
       (idx x.1 x.2).bind fun x_1=>(idx x.1 (gZ .i64 x.2 1)).bind fun x_2=>if eq x_1 x_2=true then
          ((sub x.1 x.2 (zD x.1)).bind fun x=>Comp.pure ()).bind fun x_3=>(zGF eq x.2 x.1).bind fun x=>((sub x.1 x.2 (zD x.1)).bind fun x=>Comp.pure ()).bind fun x_4=>(sub x.1 (Int.ofNat x.2.toNat) (zD x.1)).bind fun x_5=>jn (fun (x:List α)=>Comp.pure (.done (Sum.inr x)))
               fun (j:List α->Comp (Comp.Step (List α×Int) (List α⊕List α)))=>(sub (List.take x.2.toNat x.1++List.replicate (x.1.length.sub x.2.toNat) z) 0 x.2).bind fun ys=>j ys
         else Comp.pure (.next (x.1,zH .i64 x.2 1))
      else Comp.pure (.done (Sum.inl x.1)))
     (xs,(k:Int))).val=some r:=by
   intro m
   induction m with
   |zero =>
    intro k hk h1 hp;rw[show k=xs.length by omega,List.take_length]at hp
    refine⟨.inl (cpc xs),.inl rfl,?_⟩;rw[zJ];simp_all [zR,zj]
   |succ m ih =>
    intro k hk h1 hp;obtain⟨b,hb⟩:=zO (xs:=xs) (k:=k) (by omega)
    obtain⟨a,ha⟩:=zO (xs:=xs) (k:=k-1) (by omega)
    have gF:(k:Int)<zD xs:=by grind
    have e1:(idx xs (k:Int)).val=some b:=zI hb;have e2:(idx xs (gZ .i64 (k:Int) 1)).val=some a:=by
     grind [zI]
    by_cases eQ:b=a
    ·subst eQ
     obtain⟨l',g1,g2,g3⟩:=Qn fV hl h1 (by omega) hp (by grind)
     refine⟨.inr (cpc xs),.inr rfl,?_⟩;have e4:(sub xs (k:Int) (zD xs)).val=some (xs.drop k):=by grind [YK]
     have e5:=Hh (z:=z) (l:=l') (k:=(cpc xs).length) (by grind)
     rw[g2]at e5;simp only[zA,vV,Comp.zB]at e5;rw[zJ];simp only[zj,gF,if_true,zA,e1,e2,zMO,fV,decide_true,e4,Comp.zB,g3,vV]
     revert e5
     generalize (sub l' ((cpc xs).length:Int) (zD l')).val=o1;generalize (sub l' (Int.ofNat ((cpc xs).length:Int).toNat) (zD l')).val=o2;generalize (sub (List.take ((cpc xs).length:Int).toNat l'++List.replicate (l'.length.sub ((cpc xs).length:Int).toNat) z) 0 ((cpc xs).length:Int)).val=o3;intro e5;cases o1<;>cases o2<;>cases o3<;>simp_all
    ·obtain⟨r,g1,g2⟩:=ih (k+1) (by omega) (by omega) (by
      have fT:=JD (xs:=xs) (k:=k-1) ha (by rw[show k-1+1=k by omega];exact hb)
      rw[show k-1+1=k by omega,zMr eQ,hp]at fT
      grind [List.take_add_one])
     refine⟨r,g1,?_⟩;rw[<-g2]
     conv=>lhs;rw[zJ]
     simp only[zj,gF,if_true,zA,e1,e2,zMO,fV,eQ,decide_false,Bool.false_eq_true,if_false,Comp.zB,zN (show k<9223372036854775807 by omega)]
  obtain⟨r,g1,g2⟩:=inv (xs.length-1) 1 (by omega) (zMS _) (by
   match xs with
   | []=>rfl
   |x::l=>rfl)
  rw[zA];refine(zMh (fun o=>Option.bind o _) g2).trans ?_
  rw[zMO];rcases g1 with rfl|rfl<;>exact Comp.zB _
end Go.Geo
end
noncomputable section
namespace Go.Den
open Go Go.Lift
abbrev Pln:=(Int×Int×Int×Unit)×Int×Unit
def Xv(p q:Pln):Int :=
 if p.1.1<q.1.1 then -1 else if q.1.1<p.1.1 then 1 else
 if p.1.2.1<q.1.2.1 then -1 else if q.1.2.1<p.1.2.1 then 1 else
 if p.1.2.2.1<q.1.2.2.1 then -1 else if q.1.2.2.1<p.1.2.2.1 then 1 else
 if p.2.1<q.2.1 then -1 else if q.2.1<p.2.1 then 1 else 0
def K5(p:Pln):List Pln->List Pln
 | []=>[p]
 |q::l=>if Xv q p<0 then q::K5 p l else p::q::l
def Jm:List Pln->List Pln
 | []=>[]
 |p::l=>K5 p (Jm l)
open Classical in
def Ct(xs:List Pln)(c:Pln×Pln×Unit->Comp (Int×Unit)):Comp (List Pln) :=
 if xs.length<=LIM/\∀x y,∃n,(c (x,y,())).run n=some (Xv x y,()) then Comp.pure (Jm xs) else Comp.fail
def LtP(p q:Pln):Prop:=p.1.1<q.1.1\/(p.1.1=q.1.1/\(p.1.2.1<q.1.2.1\/(p.1.2.1=q.1.2.1/\(p.1.2.2.1<q.1.2.2.1\/(p.1.2.2.1=q.1.2.2.1/\p.2.1<q.2.1)))))
theorem pw(p q:Pln):(Xv p q = -1/\LtP p q)\/(Xv p q=0/\p=q)\/(Xv p q=1/\LtP q p):=by
 obtain⟨⟨a,b,c,u⟩,d,v⟩:=p;obtain⟨⟨a',b',c',u'⟩,d',v'⟩:=q;unfold Xv LtP;grind
theorem LtP.irr{p:Pln}(h:LtP p p):False:=by unfold LtP at h;omega
theorem LtP.trans{p q r:Pln}(h:LtP p q)(k:LtP q r):LtP p r:=by unfold LtP at *;omega
theorem LtP.asym{p q:Pln}(h:LtP p q)(k:LtP q p):False:=(h.trans k).irr
theorem KG{p q:Pln}:Xv p q<0↔LtP p q:=by
 rcases pw p q with ⟨h1,h2⟩|⟨h1,h2⟩|⟨h1,h2⟩
 ·grind
 ·subst h2;rw[h1];simp;exact fun h=>h.irr
 ·rw[h1];simp;exact fun h=>h.asym h2
theorem LtP.tri(p q:Pln):LtP p q\/p=q\/LtP q p:=by
 rcases pw p q with ⟨_,h⟩|⟨_,h⟩|⟨_,h⟩
 ·grind
 ·grind
 grind
theorem wT(p:Pln):∀l,(K5 p l).Perm (p::l)
 | []=>.refl _
 |q::l=>by
  unfold K5;split
  ·exact((wT p l).cons q).trans (.swap p q l)
  grind
theorem pD:∀l,(Jm l).Perm l
 | []=>.refl _
 |p::l=>(wT p _).trans ((pD l).cons p)
theorem B5(p:Pln):∀ {l:List Pln},l.Pairwise (fun p q=>¬LtP q p)->(K5 p l).Pairwise (fun p q=>¬LtP q p)
 | [],_=>by simp[K5]
 |q::l,h=>by
  rw[List.pairwise_cons]at h;unfold K5;split
  ·rename_i h1
   rw[List.pairwise_cons];refine⟨fun a ha=>?_,B5 p h.2⟩
   rcases zMU.1 ((wT p l).mem_iff.1 ha) with rfl|ha
   ·exact fun k=>(KG.1 h1).asym k
   grind
  ·rename_i h1
   rw[List.pairwise_cons];refine⟨fun a ha=>?_,List.pairwise_cons.2 h⟩
   have h2:¬LtP q p:=fun k=>h1 (KG.2 k)
   rcases zMU.1 ha with rfl|ha
   ·exact h2
   ·intro k
    rcases LtP.tri p q with h3|h3|h3
    ·exact h.1 a ha (k.trans h3)
    ·grind
    grind
theorem BM:∀l:List Pln,(Jm l).Pairwise (fun p q=>¬LtP q p)
 | []=>.nil
 |p::l=>B5 p (BM l)
end Go.Den
end
