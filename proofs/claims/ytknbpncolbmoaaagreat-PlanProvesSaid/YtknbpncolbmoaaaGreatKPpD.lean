/- Lemmas behind a claim. -/
import Derived.Test.YtknbpncolbmoaaaGreatKPpC
import Derived.Scope
import Derived.RecoverIn
set_option linter.unusedSimpArgs false
set_option linter.unusedVariables false
open Go.Lift.Comp (td run_bind qO run_pure zA Xu zM vL)
noncomputable section
namespace Go.Den
open Go Go.RowKit Go.Eng Go.Lift
variable {α β γ δ:Type}
inductive H
 |z
 |s (a b:H)
 |b (a:H)
 |j (sh:Sh) (a b:H)
 |jb (sh:Sh) (a:H)
 |l (sh:Sh) (ex:List (Option Nat×Sh)) (a:H)
 |xr (ch can:List Nat) (kl:List (Nat×List Nat))
 |xg (sh:Sh)
 |f (l:List Nat) (a:H)
 |y
 |q
def H.l1:H->H
 |.s x _|.j _ x _|.b x|.jb _ x|.l _ _ x=>x
 |.z|.xr .. | .xg _|.f .. | .y|.q=>.z
def H.l2:H->H
 |.s _ x|.j _ _ x=>x
 |_=>.z
def jn(f:α->Comp β)(g:(α->Comp β)->Comp β):Comp β:=g f
def amb{β:Type}(e:Bool)(c1 c2:Comp β):Comp β:=match e with
 |false=>c2
 |true=>⟨fun n=>match c1.run n,c2.run n with
  |some x,some y=>match Classical.propDecidable (x=y) with
   |isTrue _=>some x
   |isFalse _=>none
  |_,_=>none,by
   intro n m a xS h
   cases h1:c1.run n with
   |none=>grind
   |some x =>
    cases h2:c2.run n with
    |none=>grind
    |some y=>rw[h1,h2]at h;rw[c1.mono xS h1,c2.mono xS h2];exact h⟩
theorem tE{β:Type}{e:Bool}{c1 c2:Comp β}{n:Nat}{y:β}(h:(amb e c1 c2).run n=some y):c2.run n=some y/\(e=true->c1.run n=some y):=by
 cases e with
 |false=>exact⟨h,fun h=>nomatch h⟩
 |true =>
  unfold amb at h;simp only at h
  cases h1:c1.run n with
  |none=>grind
  |some x =>
   cases h2:c2.run n with
   |none=>grind
   |some z =>
    rw[h1,h2]at h;simp only at h;split at h
    ·grind
    ·cases h
def AV.nb?:Option AV->Option (Bool×Bool)
 |some (.nb p e)=>some (p,e)
 |_=>none
theorem AV.zDg{o:Option AV}{q:Bool×Bool}(h:AV.nb? o=some q):o=some (.nb q.1 q.2):=by
 unfold AV.nb? at h;grind
def zIC{β:Type}(p e:Bool)(c1 c2:Comp β):Comp β:=match p with
 |true=>amb e c1 c2
 |false=>amb e c2 c1
theorem Qi{β:Type}{p e b:Bool}{c1 c2:Comp β}{n:Nat}{y:β}(h:(zIC p e c1 c2).run n=some y)(hb:b=p->e=true):(b=true->c1.run n=some y)/\(b=false->c2.run n=some y):=by
 cases p with
 |true=>exact⟨fun h1=>(tE h).2 (hb h1),fun _=>(tE h).1⟩
 |false=>exact⟨fun _=>(tE h).1,fun h1=>(tE h).2 (hb h1)⟩
def goJ(G:FE)(sh:Sh)(s s':S)(j:sh.D->Comp β):Comp β:=match sh.get G s s' with
 |some x=>j x
 |none=>Comp.fail
def ED:List (Option Nat×Sh)->Type
 | []=>Empty
 | [e]=>e.2.D
 |e::e'::l=>Sum e.2.D (ED (e'::l))
def eqO:Option Nat->Option Nat->Bool
 |none,none=>true
 |some a,some b=>Nat.beq a b
 |_,_=>false
theorem Ry{a b:Option Nat}(h:eqO a b=true):a=b:=by
 cases a<;>cases b<;>simp_all [eqO]
def UQ(G:FE)(s:S)(o:Option Nat)(s':S):(l:List (Option Nat×Sh))->Option (ED l)
 | []=>none
 | [e]=>match eqO e.1 o with
  |true=>e.2.get G s s'
  |false=>none
 |e::e'::l=>match eqO e.1 o with
  |true=>match e.2.get G s s' with
   |some x=>some (Sum.inl x:Sum e.2.D (ED (e'::l)))
   |none=>none
  |false=>match UQ G s o s' (e'::l) with
   |some x=>some (Sum.inr x:Sum e.2.D (ED (e'::l)))
   |none=>none
def Zb{σ:Type}(G:FE)(s:S)(l:List (Option Nat×Sh))(o:Option Nat)(s':S):Comp (Comp.Step σ (ED l)):=match UQ G s o s' l with
 |some x=>Comp.pure (.done x)
 |none=>Comp.fail
def toE(s:S)(ex:Nat->S->Comp β)(rt:S->Comp β)(e:Option Nat×Sh)(x:e.2.D):Comp β:=match e.1 with
 |some i=>ex i (e.2.put s x)
 |none=>rt (e.2.put s x)
def Hi(s:S)(ex:Nat->S->Comp β)(rt:S->Comp β):(l:List (Option Nat×Sh))->ED l->Comp β
 | [],x=>nomatch x
 | [e],x=>toE s ex rt e x
 |e::e'::l,x=>match (x:Sum e.2.D (ED (e'::l))) with
  |.inl x=>toE s ex rt e x
  |.inr x=>Hi s ex rt (e'::l) x
def KG{ε:Type}(G:FE)(sh:Sh)(s s':S):Comp (Comp.Step sh.D ε):=match sh.get G s s' with
 |some x=>Comp.pure (.next x)
 |none=>Comp.fail
def rD(s:S):List Nat->List AV
 | []=>[]
 |t::l=>match look s.L t with
  |some e=>e.2::rD s l
  |none=>rD s l
def exF{β:Type}(ex:Nat->S->Comp β):Nat->S->Comp β:=fun i s=>match Nat.beq i PL with
 |true=>Comp.fail
 |false=>ex i s
def Md{β:Type}(E:VE)(ops:Array Oper)(draw:Bool)(h:H)(s:S)(k pn:S->Comp β):Comp β:=match h with
 |.xr ch can kl=>zFD E ops.toList ch can kl s k
 |.xg sh=>match draw with
  |false=>jn (fun x=>k (sh.put s x)) fun j=>Z2 E (wrS ops.toList) ops.toList (fun s'=>goJ E.G sh s s' j) ops.toList s
  |true=>Comp.fail
 |.q=>match draw with
  |false=>zEk E ops.toList s k pn
  |true=>Comp.fail
 |.y=>S8 0 E draw ops.toList s k
 |_=>zLK E draw ops.toList s k
def den(E:VE):Code->(β:Type)->H->S->(S->Comp β)->(Nat->S->Comp β)->(S->Comp β)->Comp β
 |.skip,_,_,s,k,_,_=>k s
 |.label _,_,_,s,k,_,_=>k s
 |.region _ ops draw,_,h,s,k,ex,_=>match h with
  |.f l h'=>Md E ops draw h' (s.YC E (rD s l)) k (ex PL)
  |h=>Md E ops draw h s k (ex PL)
 |.seq a b,β,h,s,k,ex,rt=>den E a β h.l1 s (fun s'=>den E b β h.l2 s' k ex rt) ex rt
 |.cond c t e,β,h,s,k,ex,rt=>match (rdO s.ep s.L [] [] c).bind AV.bool? with
  |none=>match AV.nb? (rdO s.ep s.L [] [] c) with
   |some q=>zIC q.1 q.2 (den E t β h.l1 s k ex rt) (den E e β h.l2 s k ex rt)
   |none=>Comp.fail
  |some b=>match h with
   |.j sh h1 h2=>jn (fun x=>k (sh.put s x)) fun j=>if b=true then den E t β h1 s (fun s'=>goJ E.G sh s s' j) ex rt else den E e β h2 s (fun s'=>goJ E.G sh s s' j) ex rt
   |h=>if b=true then den E t β h.l1 s k ex rt else den E e β h.l2 s k ex rt
 |.block id c,β,h,s,k,ex,rt=>match h with
  |.jb sh h1=>jn (fun x=>k (sh.put s x)) fun j=>den E c β h1 s (fun s'=>goJ E.G sh s s' j) (fun i s'=>match Nat.beq i id with|true=>goJ E.G sh s s' j|false=>ex i s') rt
  |h=>den E c β h.l1 s k (fun i s'=>match Nat.beq i id with|true=>k s'|false=>ex i s') rt
 |.loop c,β,h,s,k,ex,rt=>match h with
  |.l sh l h1=>match sh.get E.G s s with
   |none=>Comp.fail
   |some x0=>(Comp.loop (fun x=>den E c (Comp.Step sh.D (ED l)) h1 (sh.put s x) (KG E.G sh s) (fun i s'=>Zb E.G s l (some i) s') (Zb E.G s l none)) x0).bind (Hi s ex rt l)
  |_=>Comp.fail
 |.scope c,β,h,s,k,ex,rt=>den E c β h.l1 s k ex rt
 |.exit i,_,_,s,_,ex,_=>ex i s
 |.ret,_,_,s,_,_,rt=>rt s
 |.rangeFunc g ps eH bd,β,h,s,k,ex,rt=>match h with
  |.l sh l h1=>match zEh (rdO s.ep s.L [] [] g),sh.get E.G s.ZZ s.ZZ with
   |some q,some x0=>q.2.bind fun xs=>(wA (fun x d=>C5 ps.toList q.1 d (sh.put s.ZZ x) fun s2=>den E eH (Comp.Step sh.D (ED l)) h1.l1 s2
     (fun s3=>den E bd (Comp.Step sh.D (ED l)) h1.l2 s3.tick (fun s'=>KG E.G sh s.ZZ (s'.back s.ZZ.L).tick) (exF fun i s'=>Zb E.G s.ZZ l (some i) (s'.back s.ZZ.L).tick) (fun s'=>Zb E.G s.ZZ l none (s'.back s.ZZ.L).tick))
     (fun _ _=>Comp.fail) (fun _=>Comp.fail)) xs x0).bind fun r=>match r with
    |.next x=>k (sh.put s.ZZ x).tick
    |.done e=>Hi s.ZZ (fun i s'=>ex i s'.tick) (fun s'=>rt s'.tick) l e
   |_,_=>Comp.fail
  |_=>Comp.fail
 |_,_,_,_,_,_,_=>Comp.fail
def okC(N:Nat):Code->Bool
 |.region _ ops _=>Xq N ops.toList && Nat.blt 0 N
 |.seq a b=>okC N a && okC N b
 |.cond _ a b=>okC N a && okC N b
 |.block id a=>okC N a && !(Nat.beq id PL)
 |.loop a|.scope a=>okC N a
 |.exit id=>!(Nat.beq id PL)
 |.rangeFunc _ ps a b=>okC N a && (okC N b && (ZD a && (ZD b && Wx N ps.toList)))
 |_=>true
theorem rY{F:Fence}{n:Nat}{P:Program}{Q:Exit->Act->World->Prop}{c:Code}(I:Nat->Act->World->Prop)(round:∀m a w,I m a w->c.wpIn F n P (Exit.then (fun a' w'=>∃m',m'<m/\I m' a' w') Q) a w){m:Nat}{a:Act}{w:World}(h₀:I m a w):(Code.loop c).wpIn F n P Q a w:=by
 intro b k cs hro hb hr;have key:∀j a w,I j a w->∃e a' w',Q e a' w'/\ArrivesIn (Machine.fenced P F) P (lone (b.atR a (.code c::.inLoop c::k)) cs w) b k cs e a' w':=by
  intro j
  induction j using Nat.strongRecOn with
  |_ j ih =>
   intro a w hI;obtain⟨e,a₁,w₁,hq,sC⟩:=round j a w hI b (.inLoop c::k) cs hro hb hr
   cases e with
   |normal =>
    obtain⟨m',gF,hI₁⟩:=hq;obtain⟨e₂,a₂,w₂,hq₂,hA2⟩:=ih m' gF a₁ w₁ hI₁;exact⟨e₂,a₂,w₂,hq₂,.of_steps (StepsIn.trans sC (.one (fenced_calm hb hr rfl) stepR_inLoop)) hA2⟩
   |exit id=>exact⟨_,a₁,w₁,hq,.pass (x:=.inLoop c) rfl (fun _ _=>.inl (by simp)) sC⟩
   |goto l=>exact⟨_,a₁,w₁,hq,.pass (x:=.inLoop c) rfl (fun _ _=>.inl (by simp)) sC⟩
   |ret=>exact⟨_,a₁,w₁,hq,.pass (x:=.inLoop c) rfl (fun _ _=>.inl (by simp)) sC⟩
   |panic ch=>exact⟨_,a₁,w₁,hq,.pass (x:=.inLoop c) rfl (fun _ _=>.inl (by simp)) sC⟩
   |outgrown=>exact⟨_,a₁,w₁,hq,.pass (x:=.inLoop c) rfl (fun _ _=>.inl (by simp)) sC⟩
 obtain⟨e,a',w',hq,sC⟩:=key _ a w h₀;exact⟨e,a',w',hq,.of_steps (.one (fenced_calm hb hr rfl) stepR_loop) sC⟩
theorem tM{F:Fence}{n:Nat}{P:Program}{Q:Exit->Act->World->Prop}{c:Code}{a:Act}{w:World}(h:c.wpIn F n P (Exit.noGoto Q) a w):(Code.scope c).wpIn F n P Q a w:=by
 intro b k cs hro hb hr;have h0:(lone (b.atR a (.code (.scope c)::k)) cs w).fenced P F:=fenced_calm hb hr rfl
 obtain⟨e,a₁,w₁,hq,sC⟩:=h b (.inScope c::k) cs hro hb hr
 cases e with
 |normal=>exact⟨.normal,a₁,w₁,hq,.head h0 kz (StepsIn.trans sC (.one (fenced_calm hb hr rfl) rN))⟩
 |exit id =>
  have hx:exitTo id (.inScope c::k)=exitTo id k:=by simp[exitTo]
  exact⟨.exit id,a₁,w₁,hq,fun k' hk=>.head h0 kz (sC.1 k' (by grind)),fun hr' hk=>let ⟨k₁,h1,h2⟩:=sC.2 hr' (by grind);⟨k₁,h1,.head h0 kz h2⟩⟩
 |goto l=>exact hq.elim
 |ret=>exact⟨_,a₁,w₁,hq,.of_steps (.one h0 kz) sC⟩
 |panic ch=>exact⟨_,a₁,w₁,hq,.of_steps (.one h0 kz) sC⟩
 |outgrown=>exact⟨_,a₁,w₁,hq,.of_steps (b:=b) (k:=k) (cs:=cs) (e:=.outgrown) (.one h0 kz) sC⟩
section
variable {F:Frm} {E:VE}
structure Ways(Z:TypeId)(F:Frm)(s0:S)(nf:Nat){β:Type}(y:β)(k:S->Comp β)(xe:Nat->S->Comp β)(rt:S->Comp β)(Q:Exit->Act->World->Prop):Prop where
 k:∀F' s' a' w',F.To F'->Rel F' s' a' w'->Inv s0 s'->(k s').run nf=some y->Q .normal a' w'
 ex:∀i,i≠PL->∀F' s' a' w',F.To F'->Rel F' s' a' w'->Inv s0 s'->(xe i s').run nf=some y->Q (.exit i) a' w'
 rt:∀F' s' a' w',F.To F'->Rel F' s' a' w'->Inv s0 s'->(rt s').run nf=some y->Q .ret a' w'
 pn:∀F' s' a' v w',F.To F'->Rel F' s' (a'.put (some 0) v) w'->Inv s0 s'->(xe PL s').run nf=some y->Q (.panic [{ v:=.iface Z v,recovered:=false }]) a' w'
theorem Ways.to{Z:TypeId}{F F':Frm}{s0:S}{nf:Nat}{β:Type}{y:β}{k:S->Comp β}{ex:Nat->S->Comp β}{rt:S->Comp β}{Q:Exit->Act->World->Prop}(h:Ways Z F s0 nf y k ex rt Q)(ht:F.To F'):Ways Z F' s0 nf y k ex rt Q :=
 ⟨fun F2 s' a' w' g=>h.k F2 s' a' w' (ht.trans g),fun i hi F2 s' a' w' g=>h.ex i hi F2 s' a' w' (ht.trans g),fun F2 s' a' w' g=>h.rt F2 s' a' w' (ht.trans g),fun F2 s' a' v w' g=>h.pn F2 s' a' v w' (ht.trans g)⟩
theorem qx(fC:∀t φ,¬F.Lh t φ)(hE:E.ok F.P){s s1:S}{a0 a1:Act}{w0 w1:World}{F0:Frm}(cR:F.kin F0)(h0:Rel F0 s a0 w0)(h1:Rel F s1 a1 w1)(hi:Inv s s1){sh:Sh}{j:sh.D->Comp β}{nf:Nat}{y:β}(h:(goJ E.G sh s s1 j).run nf=some y) :
  ∃x,Rel F (sh.put s x) a1 w1/\Inv s (sh.put s x)/\(j x).run nf=some y:=by
 unfold goJ at h;split at h
 ·grind [YX]
 ·cases h
theorem uz(fC:∀t φ,¬F.Lh t φ)(hE:E.ok F.P){s s1:S}{a0 a1:Act}{w0 w1:World}{F0:Frm}(cR:F.kin F0)(h0:Rel F0 s a0 w0)(h1:Rel F s1 a1 w1)(hi:Inv s s1){o:Option Nat}{ex:Nat->S->Comp β}{rt:S->Comp β}{nf:Nat}{y:β}:∀ {l:List (Option Nat×Sh)} {x:ED l},UQ E.G s o s1 l=some x->(Hi s ex rt l x).run nf=some y ->
  ∃s',Rel F s' a1 w1/\Inv s s'/\(match o with|some i=>ex i s'|none=>rt s').run nf=some y
 | [],x,h,_=>nomatch x
 | [e],x,h,hr=>by
  simp only[UQ]at h;split at h
  ·rename_i he
   obtain⟨g1,g2⟩:=YX fC hE cR h0 h1 hi h;grind [Ry,Hi,toE]
  ·cases h
 |e::e'::l,x,h,hr=>by
  simp only[UQ]at h;split at h
  ·rename_i he
   split at h
   ·rename_i x1 hx
    cases h
    obtain⟨g1,g2⟩:=YX fC hE cR h0 h1 hi hx;grind [Ry,Hi,toE]
   ·cases h
  ·split at h
   ·rename_i x1 hx
    cases h
    exact uz fC hE cR h0 h1 hi hx hr
   ·cases h
theorem zAq{i:Nat}(h:(!(Nat.beq i PL))=true):i≠PL:=fun e=>by simp_all
theorem tD{N:Nat}(h:Nat.blt 0 N=true):0<N:=by simp_all
theorem Rw{β:Type}{e:Nat->S->Comp β}{s:S}{nf:Nat}{y:β}(h:(exF e PL s).run nf=some y):False:=by
 unfold exF at h;rw[Nat.beq_refl]at h;cases h
theorem Rv{β:Type}{e:Nat->S->Comp β}{i:Nat}(hi:i≠PL)(s:S):exF e i s=e i s:=by
 grind [exF,Nat.beq,PL,zU,zMB]
theorem uk(fC:∀t φ,¬F.Lh t φ)(hE:E.ok F.P)(hm:F.P.follows .mixedOrders=true)(sD:F.x.sb<=F.w0.heap.size){id:Nat}{ops:Array Oper}{draw:Bool}(hN:0<F.N)(kA:Xq F.N ops.toList=true){β:Type}{h:H}{s0 s:S}{a:Act}{w:World}{k pn:S->Comp β}{nf:Nat}{y:β}{Q:Exit->Act->World->Prop}
  (hR:Rel F s a w) (hi:Inv s0 s) (hr:(Md E ops draw h s k pn).run nf=some y) (hk:∀s' a' w',Rel F s' a' w'->Inv s0 s'->(k s').run nf=some y->Q .normal a' w')
  (hP:∀s' a' v w',Rel F s' (a'.put (some 0) v) w'->Inv s0 s'->(pn s').run nf=some y->Q (.panic [{ v:=.iface E.Z v,recovered:=false }]) a' w'):F.wp (Code.region id ops draw) Q a w:=by
 unfold Md at hr;split at hr
 ·have:=WB (id:=id) (draw:=draw) fC hE hR hi hm sD kA hr hk
  omega
 ·rename_i sh
  split at hr
  ·dsimp only [jn]at hr
   have:=WC (id:=id) fC hE hR (Inv.refl s) kA hr (Q:=Q) fun s' a' w' g1 g2 g3=>by
    obtain⟨x,q1,q2,q3⟩:=qx fC hE (Frm.Ki F) hR g1 g2 g3;exact hk _ _ _ q1 (hi.trans q2) q3
   omega
  ·cases hr
 ·split at hr
  ·grind [VI]
  ·cases hr
 ·have:=CK (id:=id) fC hE hR hi hm kA hr hk
  omega
 ·have:=CK (id:=id) fC hE hR hi hm kA hr hk
  omega
theorem Yu:∀(c:Code),∀ {F:Frm},F.P.follows .mixedOrders=true->(∀t φ,¬F.Lh t φ)->E.ok F.P->okC F.N c=true->((F.x.rd=none/\F.x.nr=false)\/ZD c=true)->F.x.sb=F.w0.heap.size->∀ {β:Type} {h:H} {s0 s:S} {a:Act} {w:World} {k:S->Comp β} {ex:Nat->S->Comp β} {rt:S->Comp β} {nf:Nat} {y:β} {Q:Exit->Act->World->Prop},
  Rel F s a w->Inv s0 s->(den E c β h s k ex rt).run nf=some y->Ways E.Z F s0 nf y k ex rt Q->F.wp c Q a w:=by
 intro c
 induction c with
 |skip=>intro F hm fC hE _ tS sD β h s0 s a w k ex rt nf y Q hR hi hr hW;exact wpIn_skip (hW.k F s a w (.refl F) hR hi hr)
 |label l=>intro F hm fC hE _ tS sD β h s0 s a w k ex rt nf y Q hR hi hr hW;exact wpIn_label (hW.k F s a w (.refl F) hR hi hr)
 |exit i=>intro F hm fC hE kA tS sD β h s0 s a w k ex rt nf y Q hR hi hr hW;exact wpIn_exit (hW.ex i (zAq kA) F s a w (.refl F) hR hi hr)
 |ret=>intro F hm fC hE _ tS sD β h s0 s a w k ex rt nf y Q hR hi hr hW;exact wpIn_ret (hW.rt F s a w (.refl F) hR hi hr)
 |region id ops draw =>
  intro F hm fC hE kA tS sD β h s0 s a w k ex rt nf y Q hR hi hr hW;simp only[den]at hr;simp only[okC,zLZ]at kA;have hN:=tD kA.2
  split at hr
  ·rename_i l h'
   exact uk fC hE hm (Nat.le_of_eq sD) hN kA.1 (Rel.YC hE hR _) (hi.trans (Inv.YC _ _)) hr (fun s' a' w'=>hW.k F s' a' w' (.refl F)) fun s' a' v w'=>hW.pn F s' a' v w' (.refl F)
  ·exact uk fC hE hm (Nat.le_of_eq sD) hN kA.1 hR hi hr (fun s' a' w'=>hW.k F s' a' w' (.refl F)) fun s' a' v w'=>hW.pn F s' a' v w' (.refl F)
 |seq x z ihx ihz =>
  intro F hm fC hE kA tS sD β h s0 s a w k ex rt nf y Q hR hi hr hW;simp only[okC,zLZ]at kA;simp only[den]at hr;have iO:(F.x.rd=none/\F.x.nr=false)\/ZD x=true:=tS.imp id fun h=>by simp_all [ZD,zLZ]
  have hrd2:(F.x.rd=none/\F.x.nr=false)\/ZD z=true:=tS.imp id fun h=>by simp_all [ZD,zLZ]
  refine wpIn_seq (ihx hm fC hE kA.1 iO sD hR hi hr ⟨fun F' s' a' w' h0 h1 h2 h3=>?_,hW.ex,hW.rt,hW.pn⟩)
  have hs:=h0.same;have:=ihz (F:=F') (by rw[hs.P];exact hm) (by rw[hs.Lh];exact fC) (by rw[hs.P];exact hE) (by rw[hs.N];grind) (by rw[hs.rd,hs.nr];omega) (by rw[hs.sb,hs.w0];exact sD) h1 h2 h3 (hW.to h0)
  unfold Frm.wp at this;rwa[hs.P,hs.rd]at this
 |scope x ih =>
  intro F hm fC hE kA tS sD β h s0 s a w k ex rt nf y Q hR hi hr hW;simp only[den]at hr;exact tM (ih hm fC hE kA tS sD hR hi hr ⟨hW.k,hW.ex,hW.rt,hW.pn⟩)
 |cond c t e iht ihe =>
  intro F hm fC hE kA tS sD β h s0 s a w k ex rt nf y Q hR hi hr hW;have iO:(F.x.rd=none/\F.x.nr=false)\/ZD t=true:=tS.imp id fun h=>by simp_all [ZD,zLZ]
  have hrd2:(F.x.rd=none/\F.x.nr=false)\/ZD e=true:=tS.imp id fun h=>by simp_all [ZD,zLZ]
  simp only[okC,zLZ]at kA;simp only[den]at hr;split at hr
  ·split at hr
   ·rename_i q hq
    obtain⟨b,hc,hb⟩:∃b,a.eval c=.bool b/\(b=q.1->q.2=true):=by
     obtain⟨X,hX⟩:=hR;have hq:=AV.zDg hq
     rw[<-hX.ep]at hq;exact hX.rd #[c] c _ (by simp) hq
    have hr:=Qi hr hb;exact wpIn_cond_split hc (fun aR=>iht hm fC hE kA.1 iO sD hR hi (hr.1 aR) hW) (fun hbf=>ihe hm fC hE kA.2 hrd2 sD hR hi (hr.2 hbf) hW)
   ·cases hr
  ·rename_i b hb
   have hc:a.eval c=.bool b:=by
    obtain⟨X,hX⟩:=hR;rw[<-hX.ep]at hb
    cases h1:rdO X.ep s.L [] [] c with
    |none=>grind
    |some φ=>rw[h1]at hb;exact Jd (hX.rd #[c] c φ (by simp) h1) hb
   split at hr
   ·rename_i sh h1 h2
    dsimp only [jn]at hr;have hW':Ways E.Z F s nf y (fun s'=>goJ E.G sh s s' (fun x=>k (sh.put s x))) ex rt Q:=by
     refine⟨fun F' s' a' w' g0 g1 g2 g3=>?_,fun i fD F' s' a' w' g0 g1 g2 g3=>hW.ex i fD F' s' a' w' g0 g1 (hi.trans g2) g3,fun F' s' a' w' g0 g1 g2 g3=>hW.rt F' s' a' w' g0 g1 (hi.trans g2) g3,fun F' s' a' v w' g0 g1 g2 g3=>hW.pn F' s' a' v w' g0 g1 (hi.trans g2) g3⟩
     have hs:=g0.same;obtain⟨x,q1,q2,q3⟩:=qx (F:=F') (by rw[hs.Lh];exact fC) (by rw[hs.P];exact hE) hs.kin hR g1 g2 g3
     exact hW.k _ _ _ _ g0 q1 (hi.trans q2) q3
    refine wpIn_cond_split hc (fun aR=>?_) (fun hbf=>?_)
    ·rw[zLz aR]at hr;grind [Inv.refl]
    ·rw[zMA (by grind)]at hr;grind [Inv.refl]
   ·refine wpIn_cond_split hc (fun aR=>?_) (fun hbf=>?_)
    ·grind
    grind
 |block id x ih =>
  intro F hm fC hE kA tS sD β h s0 s a w k ex rt nf y Q hR hi hr hW;simp only[okC,zLZ]at kA;have hid:=zAq kA.2
  have hbp:Nat.beq PL id=false:=by grind [zU,zMB]
  have kA:=kA.1;simp only[den]at hr;refine wpIn_block ?_;split at hr
  ·rename_i sh h1
   dsimp only [jn]at hr;have hk:∀F' s' a' w',F.To F'->Rel F' s' a' w'->Inv s s'->(goJ E.G sh s s' (fun x=>k (sh.put s x))).run nf=some y->Q .normal a' w':=by
    intro F' s' a' w' g0 g1 g2 g3;have hs:=g0.same
    obtain⟨x,q1,q2,q3⟩:=qx (F:=F') (by rw[hs.Lh];exact fC) (by rw[hs.P];exact hE) hs.kin hR g1 g2 g3
    exact hW.k _ _ _ _ g0 q1 (hi.trans q2) q3
   refine ih hm fC hE kA tS sD hR (Inv.refl s) hr ⟨fun F' s' a' w' g0 g1 g2 g3=>hk F' s' a' w' g0 g1 g2 g3,fun i fD F' s' a' w' g0 g1 g2 g3=>?_,fun F' s' a' w' g0 g1 g2 g3=>hW.rt F' s' a' w' g0 g1 (hi.trans g2) g3,fun F' s' a' v w' g0 g1 g2 g3=>hW.pn F' s' a' v w' g0 g1 (hi.trans g2) (by grind)⟩
   show (if i=id then Q .normal a' w' else Q (.exit i) a' w')
   cases hb:Nat.beq i id with
   |true=>rw[hb]at g3;rw[zLz (zLY hb)];grind
   |false =>
    rw[hb]at g3;rw[zU]at hb;rw[zMA (by grind)];exact hW.ex i fD F' s' a' w' g0 g1 (hi.trans g2) g3
  ·refine ih hm fC hE kA tS sD hR hi hr ⟨fun F' s' a' w' g0 g1 g2 g3=>hW.k F' s' a' w' g0 g1 g2 g3,fun i fD F' s' a' w' g0 g1 g2 g3=>?_,fun F' s' a' w' g0 g1 g2 g3=>hW.rt F' s' a' w' g0 g1 g2 g3,fun F' s' a' v w' g0 g1 g2 g3=>hW.pn F' s' a' v w' g0 g1 g2 (by grind)⟩
   show (if i=id then Q .normal a' w' else Q (.exit i) a' w')
   cases hb:Nat.beq i id with
   |true=>rw[hb]at g3;rw[zLz (zLY hb)];exact hW.k F' s' a' w' g0 g1 g2 g3
   |false =>
    rw[hb]at g3;rw[zU]at hb;rw[zMA (by grind)];exact hW.ex i fD F' s' a' w' g0 g1 g2 g3
 |loop x ih =>
  intro F hm fC hE kA tS sD β h s0 s a w k ex rt nf y Q hR hi hr hW;simp only[den]at hr;split at hr
  ·rename_i sh l h1
   split at hr
   ·cases hr
   ·rename_i x0 b8
    obtain⟨e,he,hr⟩:=run_bind hr;obtain⟨g1,g2⟩:=YX fC hE (Frm.Ki F) hR hR (Inv.refl s) b8;refine rY (fun m a' w'=>∃F' x,F.To F'/\Rel F' (sh.put s x) a' w'/\Inv s (sh.put s x)/\Comp.XO (fun x=>den E _ (Comp.Step sh.D (ED l)) h1 (sh.put s x) (KG E.G sh s) (fun i s'=>Zb E.G s l (some i) s') (Zb E.G s l none)) nf m x=some e) (fun m a' w' hI=>?_) ⟨F,x0,.refl F,g1,g2,qO he⟩
    obtain⟨F',x,q0,q1,q2,q3⟩:=hI;have hs:=q0.same
    obtain⟨m',gF,st,fZ,hn,hd⟩:=td q3;have xL:∀(o:Option Nat) (F2:Frm) (s':S) (a2:Act) (w2:World),F'.To F2->Rel F2 s' a2 w2->Inv s s'->(Zb (σ:=sh.D) E.G s l o s').run nf=some st->∃s2,Rel F2 s2 a2 w2/\Inv s s2/\(match o with|some i=>ex i s2|none=>rt s2).run nf=some y:=by
     intro o F2 s' a2 w2 f0 f1 f2 f3;have aN:=(q0.trans f0).same
     unfold Zb at f3;split at f3
     ·rename_i z hz
      have fZ:=run_pure f3;have:=hd z fZ.symm
      subst this;exact uz (F:=F2) (by rw[aN.Lh];exact fC) (by rw[aN.P];exact hE) aN.kin hR f1 f2 hz hr
     ·cases f3
    have cC:∀ {cc:Code} {R:Exit->Act->World->Prop},F'.wp cc R a' w'->cc.wpIn (fw F.x.rd) 0 F.P R a' w':=fun {cc R} h=>by
     unfold Frm.wp at h;rwa[hs.P,hs.rd]at h
    refine cC (ih (F:=F') (by rw[hs.P];exact hm) (by rw[hs.Lh];exact fC) (by rw[hs.P];exact hE) (by rw[hs.N];exact kA) (by rw[hs.rd,hs.nr];exact tS) (by rw[hs.sb,hs.w0];exact sD) q1 q2 fZ ⟨fun F2 s' a2 w2 f0 f1 f2 f3=>?_,fun i fD F2 s' a2 w2 f0 f1 f2 f3=>?_,fun F2 s' a2 w2 f0 f1 f2 f3=>?_,fun F2 s' a2 v2 w2 f0 f1 f2 f3=>?_⟩)
    ·have aN:=(q0.trans f0).same
     unfold KG at f3;split at f3
     ·rename_i z hz
      have fZ:=run_pure f3;obtain⟨r1,r2⟩:=YX (F:=F2) (by rw[aN.Lh];exact fC) (by rw[aN.P];exact hE) aN.kin hR f1 f2 hz
      exact⟨m',gF,F2,z,q0.trans f0,r1,r2,hn z fZ.symm⟩
     ·cases f3
    ·obtain⟨s2,r1,r2,r3⟩:=xL (some i) F2 s' a2 w2 f0 f1 f2 f3
     exact hW.ex i fD F2 s2 a2 w2 (q0.trans f0) r1 (hi.trans r2) r3
    ·obtain⟨s2,r1,r2,r3⟩:=xL none F2 s' a2 w2 f0 f1 f2 f3
     exact hW.rt F2 s2 a2 w2 (q0.trans f0) r1 (hi.trans r2) r3
    ·obtain⟨s2,r1,r2,r3⟩:=xL (some PL) F2 s' (a2.put (some 0) v2) w2 f0 f1 f2 f3
     exact hW.pn F2 s2 a2 v2 w2 (q0.trans f0) r1 (hi.trans r2) r3
  ·cases hr
 |goto l=>intro F hm fC hE _ tS sD β h s0 s a w k ex rt nf y Q hR hi hr hW;cases hr
 |refuse l=>intro F hm fC hE _ tS sD β h s0 s a w k ex rt nf y Q hR hi hr hW;cases hr
 |rangeFunc g ps eH bd iha ihb =>
  intro F hm fC hE kA tS sD β h s0 s a w k ex rt nf y Q hR hi hr hW;obtain⟨tS,a7⟩:=tS.resolve_right (by simp[ZD])
  simp only[okC,zLZ]at kA;obtain⟨hoka,hokb,hna,hnb,dV⟩:=kA;simp only[den]at hr;split at hr
  case h_2=>cases hr
  rename_i sh l h1;split at hr
  case h_2=>cases hr
  rename_i q x0 hq b8;obtain⟨xs,sE,hr⟩:=run_bind hr;obtain⟨r,n8,d9⟩:=run_bind hr;obtain⟨X,hX⟩:=hR
  -- the function
  have hq:=U6 hq;rw[<-hX.ep]at hq;obtain⟨cs,⟨f,us,e1,hf,hC⟩,e2⟩:=hX.rd #[g] g _ (by simp) hq
  have hg:a.eval g=.func (.func f) #[] us.toArray:=by rw[e2,e1];rfl
  clear e1 e2 cs;have his:Inv s0 s.ZZ:=hi.trans (Inv.ZZ s)
  generalize aW:s.ZZ=s1 at *;have xR:RelX F s1 a w { X with n:=s.n+1 }:=aW ▸ hX.ZZ fC
  have t6:∀t e,look s1.L t=some e->e.2.ze=false:=fun t e he=>by rw[<-aW]at he;exact(jG he).1
  have hkv0:∀t e,look s1.L t=some e->e.2.holds { X with n:=s.n+1 } w (a.get t):=fun t e he=>xR.l t e he (by grind [fresh])
  unfold Frm.wp;rw[tS];refine wpIn_rangeFunc (F:=fw none) fun fn _=>?_
  -- the machine's blocks
  let D:=w.heap.size
  let r0:Loop:={ state:=.ready,pending:=none,fn:=fn,tmps:=a.tmps,params:=ps,assign:=eH,body:=bd,defers:=D }
  let wE:=(w.alloc (.deferred (some []))).alloc (.loop r0)
  let qS:Loop->Nat->Obj->Prop:=fun r c o=>(F.x.sys c o\/(c=D/\o=.deferred (some [])))\/(c=D+1/\o=.loop r)
  let kv1:Value->AV->Prop:=fun v φ=>F.x.kv v φ\/∃t e,look s1.L t=some e/\v=a.get t/\φ=e.2
  let FJ:Loop->Frm:=fun r=>{ F with x:={ F.x with sys:=qS r,kv:=kv1,sO:=X.O,sw:=w } }
  have pV:(w.alloc (.deferred (some []))).heap.size=D+1:=by simp[D]
  have cD:∀c o,F.x.sys c o->c<D:=fun c o hc=>(zLy.1 (hX.ex.sys c o hc).1.1).1
  have aS:=(xR.Qq sD (.deferred (some []))).Qq sD (.loop r0);rw[pV]at aS;have hExt:Ext w wE:=(Ext.alloc w _).trans (Ext.alloc _ _)
  let XE:Cx:={ X with n:=s.n+1,O:=tag (tag X.O (some D) F.x.st) (some (D+1)) F.x.st }
  have aS:RelX { F with x:={ F.x with sys:=qS r0 } } s1 a wE XE:=aS;have hKE:zb 0 X.O w XE.O wE:=by
   refine⟨hExt.size,fun b hb h0=>⟨?_,hExt.block b hb⟩⟩
   grind [tag,gH]
  have hleE:({ X with n:=s.n+1 }:Cx).le w XE wE:=⟨rfl,hKE,fun _ _=>rfl,zLb _,rfl⟩
  have hexJ:Exx (FJ r0).x XE wE:=by
   refine⟨aS.ex.st,aS.ex.sys,fun v φ hv=>?_,hKE,aS.ex.L⟩
   rcases hv with hv|⟨t,e,he,rfl,rfl⟩
   ·exact aS.ex.kv v φ hv
   ·exact⟨t6 t e he,e.2.le (t6 t e he) hleE (hkv0 t e he)⟩
  have hLhJ:∀r t φ,¬(FJ r).Lh t φ:=fun r=>fC
  have hXJ:RelX (FJ r0) s1 a wE XE:=aS.conv (F':=FJ r0) (L':=s1.L) rfl rfl rfl rfl fC rfl rfl rfl aS.fit aS.l aS.ln hexJ;obtain⟨j1,j2⟩:=YX (F:=FJ r0) fC hE (Frm.Ki _) ⟨_,hXJ⟩ ⟨_,hXJ⟩ (Inv.refl s1) b8
  -- what holds between the rounds
  generalize hB:(fun x d=>C5 ps.toList q.1 d (sh.put s1 x) fun s2=>den E eH (Comp.Step sh.D (ED l)) h1.l1 s2 (fun s3=>den E bd (Comp.Step sh.D (ED l)) h1.l2 s3.tick (fun s'=>KG E.G sh s1 (s'.back s1.L).tick) (exF fun i s'=>Zb E.G s1 l (some i) (s'.back s1.L).tick) (fun s'=>Zb E.G s1 l none (s'.back s1.L).tick)) (fun _ _=>Comp.fail) (fun _=>Comp.fail))=B at *
  let J:List q.1.D->zR->World->Prop:=fun pre O W=>∃rest x Xc,xs=pre++rest/\(wA B rest x).run nf=some r/\RelX (FJ r0) (sh.put s1 x) a W Xc/\Xc.O=O/\Inv s1 (sh.put s1 x)
  let Jx:zR->World->Prop:=fun O W=>∃c s2 Xc,RelX (FJ { r0 with state:=.done,pending:=some c }) s2 a W Xc/\Xc.O=O/\Inv s1 s2/\((∃i,i≠PL/\c=.exit i/\(ex i s2.tick).run nf=some y)\/(c=.ret/\(rt s2.tick).run nf=some y))
  have hwE:∀b,b<wE.heap.size↔b<D+2:=fun b=>by simp[wE,D]
  -- at the end
  have cE:∀(r1:Loop) (s2:S) (W:World),r1.state≠.busy->Rel (FJ r1) s2 a W->∃W',(Instr.endLoop (D+1)).run F.P W=.ok r1.pending W'/\Rel (F.mark D) s2.tick { a with defers:=nh D::a.defers } W':=by
   intro r1 s2 W hb ⟨Xc,bG⟩;obtain⟨⟨k1,k2⟩,k3⟩:=bG.ex.sys (D+1) (.loop r1) (.inr ⟨rfl,rfl⟩);refine⟨_,run_endLoop k1 hb,{ Xc with n:=s2.n+1,ep:=s2.n },?_⟩;have ht:=bG.turn (o':=.loop { r1 with state:=.exhausted }) (q:=fun c o=>F.x.sys c o\/(c=D/\o=.deferred (some []))) k2 (by grind) (zLy.1 k1).1 fun c o hc=>.inl ⟨by grind,.inl hc⟩
   refine ht.conv (F':=F.mark D) (L':=s2.L) rfl rfl rfl rfl fC rfl rfl rfl ⟨bG.fit.size,by show nh D::a.defers=_;rw[show a.defers=F.D from bG.fit.defers];rfl⟩ (fun t e he hf=>ht.l t e he hf) ht.ln ⟨ht.ex.st,fun c o hc=>ht.ex.sys c o hc,fun v φ hv=>ht.ex.kv v φ (.inl hv),?_,ht.ex.L⟩
   have iP:zb 0 X.O w Xc.O (W.putObj (D+1) (.loop { r1 with state:=.exhausted })):=ht.ex.since;exact hX.ex.since.trans iP
  have hmk:F.To (F.mark D):=.mark (.refl F) D (fun o hc=>zLp (cD D o hc) (Nat.lt_irrefl _)) a7
  refine⟨D+1,[nh D],wE,{ target:=.fn (.func f) us.toArray,args:=#[.func (.yield (D+1)) #[] #[]] },wE,f,#[.func (.yield (D+1)) #[] #[]]++us.toArray,wE,?_,?_,fun _ _=>trivial,?_,fun h=>by grind [Fence.wide],?_⟩
  ·grind [Instr.enterLoop,run_enterLoop_outer]
  ·have h2:∀v,a.eval (.const v)=v:=fun _=>rfl
   simp[resolve,hg,Deferred.ofValue,h2]
  ·obtain⟨fnc,hf1,hf2,hf3⟩:=hf.h
   have hP:X.P=F.P:=hX.P;rw[hP]at hf1;simp only[invoke,callFunc,run_program,Sem.run_bind,Sem.run_pure,Result.andThen,hf1];simp[hf2,hf3]
  ·have hP:X.P=F.P:=hX.P
   obtain⟨XJ,iQ⟩:=j1;have hz:J [] XJ.O wE:=⟨xs,x0,XJ,rfl,n8,iQ,rfl,j2⟩
   have xZ:=hC XJ.O wE iQ.okO iQ.ex.since nf xs sE (D+1) J Jx ?_
   ·rw[hP]at xZ
    rw[show #[Value.func (Fn.yield (D+1)) #[] #[]]++us.toArray=(Value.func (.yield (D+1)) #[] #[]::us).toArray by simp]
    refine qE (m:=0) (Calls.mono xZ fun e W he=>?_)
    obtain⟨rfl,⟨O',rest,x,Xc,g1,g2,g3,g4,g5⟩|⟨O',c,s2,Xc,g3,g4,g5,g6⟩⟩:=he
    ·have xJ:rest=[]:=by simpa using g1
     subst xJ;have:=run_pure g2
     subst this;obtain⟨W',k1,k2⟩:=cE r0 _ W (by simp[r0]) ⟨_,g3⟩
     exact⟨none,W',k1,hW.k _ _ _ _ hmk k2 (his.trans (g5.trans (Inv.tick _))) d9⟩
    ·obtain⟨W',k1,k2⟩:=cE _ s2 W (by simp) ⟨_,g3⟩
     refine⟨some c,W',k1,?_⟩;rcases g6 with ⟨i,fD,rfl,g6⟩|⟨rfl,g6⟩
     ·exact wpIn_exit (hW.ex i fD _ _ _ _ hmk k2 (his.trans (g5.trans (Inv.tick _))) g6)
     ·exact wpIn_ret (hW.rt _ _ _ _ hmk k2 (his.trans (g5.trans (Inv.tick _))) g6)
   ·-- a round
    refine⟨fun pre O1 w1 w2 ⟨rest,x,Xc,g1,g2,g3,g4,g5⟩ hE1=>⟨rest,x,Xc,g1,g2,g3.ext hE1,g4,g5⟩,fun O1 w1 w2 ⟨c,s2,Xc,g1,g2,g3,g4⟩ hE1=>⟨c,s2,Xc,g1.ext hE1,g2,g3,g4⟩,
     fun pre O1 w1 ⟨rest,x,Xc,g1,g2,g3,g4,g5⟩=>g4 ▸ g3.okO,fun O1 w1 ⟨c,s2,Xc,g1,g2,g3,g4⟩=>g2 ▸ g1.okO,?_,hz⟩
    rintro pre d post O1 w1 vs fW ⟨rest,x,Xc,g1,g2,g3,g4,g5⟩ sV;subst g4;have xJ:rest=d::post:=by rw[g1]at fW;simpa using fW
    subst xJ;obtain⟨st1,dB,dC⟩:=run_bind g2;rw[<-hB]at dB;obtain⟨⟨k1,k2⟩,k3⟩:=g3.ex.sys (D+1) (.loop r0) (.inr ⟨rfl,rfl⟩)
    -- the round's own frame
    let FR:Loop->Frm:=fun r=>{ F with D:=[],x:={ F.x with sys:=qS r,kv:=kv1,sO:=Xc.O,sw:=w1,rd:=some (D+1) } }
    have hA3:(⟨a.tmps,[]⟩:Act).fitD F.N []:=⟨g3.fit.size,rfl⟩;have hXR:RelX (FR r0) (sh.put s1 x) ⟨a.tmps,[]⟩ w1 Xc:=g3.conv (F':=FR r0) (L':=(sh.put s1 x).L) rfl rfl rfl rfl fC rfl rfl rfl hA3 g3.l g3.ln ⟨g3.ex.st,g3.ex.sys,g3.ex.kv,zb.refl _ _ _,g3.ex.L⟩
    have hPc:Xc.P=F.P:=g3.P;rw[hP]at sV;obtain⟨s2,X2,p1,p2,p3,p4,p5⟩:=Qd (F:=FR r0) fC hXR (by rw[hPc];exact sV) dV dB
    have dD:∀ {O2:zR} {w2:World},zb 0 Xc.O w1 O2 w2->zb 0 X.O w O2 w2:=fun h=>g3.ex.since.trans h
    rw[hP];refine⟨fn,_,eH,bd,run_yield k1 (by simp[r0,<-p5]),?_⟩
    have fP:({ tmps:=(r0.params.zip vs.toArray).foldl (fun tmps p=>tmps.setIfInBounds p.1 p.2) r0.tmps,defers:=[] }:Act)=Yv ps.toList vs ⟨a.tmps,[]⟩:=by
     rw[Gm,<-Array.foldl_toList];simp[r0,Array.toList_zip]
    refine roundIn_of_wpIn trivial ?_;show eH.wpIn (fw (some (D+1))) 0 F.P _ { tmps:=(r0.params.zip vs.toArray).foldl (fun tmps p=>tmps.setIfInBounds p.1 p.2) r0.tmps,defers:=[] } w1
    rw[fP];refine iha (F:=FR r0) hm fC hE hoka (.inr hna) sD ⟨_,p1⟩ (Inv.refl s2) p4 ⟨fun F' s3 a3 w3 f0 f1 f2 f3=>?_,fun i _ F' s3 a3 w3 _ _ _ f3=>(nomatch f3),fun F' s3 a3 w3 _ _ _ f3=>(nomatch f3),fun F' s3 a3 _ w3 _ _ _ f3=>(nomatch f3)⟩
    obtain⟨X3,x8⟩:=f1;have cT:=f0.same
    obtain⟨⟨m1,m2⟩,m3⟩:=x8.ex.sys (D+1) (.loop r0) (f0.sys (.inr ⟨rfl,rfl⟩))
    let rb:Loop:={ r0 with state:=.busy }
    let q':Nat->Obj->Prop:=fun c o=>(c≠D+1/\F'.x.sys c o)\/(c=D+1/\o=.loop rb)
    have hwD:F.w0.heap.size<=D+1:=by have:=hX.base.size;omega
    have hX4:=x8.turn (o':=.loop rb) (q:=q') m2 (by rw[cT.w0];exact hwD) (zLy.1 m1).1 fun c o hc=>hc.imp (fun h=>h) fun h=>⟨h.1,h.2,m3⟩
    refine⟨w3.putObj (D+1) (.loop rb),run_beginRound m1 rfl,?_⟩;show bd.wpIn (fw (some (D+1))) 0 F.P _ a3 _
    have cC:∀ {cc:Code} {R:Exit->Act->World->Prop} {a':Act} {w':World},(F'.sys q').wp cc R a' w'->cc.wpIn (fw (some (D+1))) 0 F.P R a' w':=fun {cc R a' w'} h=>by
     unfold Frm.wp at h
     change cc.wpIn (fw F'.x.rd) 0 F'.P R a' w' at h
     rwa[cT.P,cT.rd]at h
    let FK:Loop->Frm:=fun r=>{ F with x:={ F.x with sys:=qS r,kv:=kv1,sO:=Xc.O,sw:=w1 } }
    -- the end of a round
    have eI:∀(F2:Frm) (s':S) (a2:Act) (W3:World) (r1:Loop),(F'.sys q').To F2->Rel F2 s' a2 W3->Inv s2 s'->(W3.heap[D+1]?=some (.loop rb))/\Rel (FK r1) (s'.back s1.L).tick a (W3.putObj (D+1) (.loop r1)):=by
     intro F2 s' a2 W3 r1 u0 ⟨X5,aH⟩ u2;have aT:(FR r0).Same F2:=cT.M4 u0.same
     have hA4:∀ {c o},c≠D+1->qS r0 c o->F2.x.sys c o:=fun {c o} hc hq=>u0.sys (.inl ⟨hc,f0.sys hq⟩)
     obtain⟨⟨n1,n2⟩,n3⟩:=aH.ex.sys (D+1) (.loop rb) (u0.sys (.inr ⟨rfl,rfl⟩));refine⟨n1,?_⟩;have hk5:zb 0 Xc.O w1 X5.O W3:=by
      have:=aH.ex.since;rwa[aT.sO,aT.sw]at this
     have cU:RelX (FK rb) (s'.back s1.L) a W3 X5:=by
      refine aH.conv (F':=FK rb) (L':=s1.L) (by rw[aT.P]) (by rw[aT.A]) (by rw[aT.O0]) (by rw[aT.w0]) fC (by rw[aT.fe]) (by rw[aT.bl]) (by rw[aT.st]) hX.fit (fun t e he _=>?_) (fun t e he=>zLm (xR.ln t e he) ?_) ⟨by have:=aH.ex.st;rwa[aT.st]at this,fun c o hc=>?_,fun v φ hv=>aH.ex.kv v φ (by rw[aT.kv];exact hv),hk5,by have:=aH.ex.L;rwa[aT.Lp]at this⟩
      ·exact(aH.ex.kv _ _ (by rw[aT.kv];exact .inr ⟨t,e,he,rfl,rfl⟩)).2
      ·exact((g5.trans p3).trans u2).le
      ·have hst5:F2.x.st=F.x.st:=aT.st
       have hsb5:F2.x.sb=F.x.sb:=aT.sb;rcases hc with hc|⟨rfl,rfl⟩
       ·have fD:c≠D+1:=by
         rcases hc with hc|⟨hc,_⟩
         ·have:=cD c o hc;omega
         ·omega
        have:=aH.ex.sys c o (hA4 fD (.inl hc));rw[hst5,hsb5]at this;omega
       ·have:=aH.ex.sys (D+1) (.loop rb) (u0.sys (.inr ⟨rfl,rfl⟩))
        rw[hst5,hsb5]at this;omega
     have hbO:X5.O (D+1)=F.x.st:=(cU.ex.sys (D+1) (.loop rb) (.inr ⟨rfl,rfl⟩)).1.2;have hsbD:F.x.sb<=D+1:=(cU.ex.sys (D+1) (.loop rb) (.inr ⟨rfl,rfl⟩)).2
     have hlt5:=(zLy.1 n1).1;have ht:=cU.turn (o':=.loop r1) (q:=qS r1) hbO hwD hlt5 fun c o hc=>by
      rcases hc with hc|⟨rfl,rfl⟩
      ·refine .inl ⟨?_,.inl hc⟩
       rcases hc with hc|⟨hc,_⟩
       ·have:=cD c o hc;omega
       ·omega
      ·exact .inr ⟨rfl,rfl,hsbD⟩
     exact⟨_,ht⟩
    have eJ:∀ {s':S},Inv s2 s'->Inv s1 (s'.back s1.L).tick:=fun {s'} hi'=>(⟨((g5.trans p3).trans hi').le,fun t e he _=>he,fun k e he hl=>((g5.trans p3).trans hi').m k e he hl⟩:Inv s1 (s'.back s1.L)).trans (Inv.tick _)
    have eK:∀r1,(FK r1).kin (FJ r0):=fun r1=>⟨rfl,rfl,rfl⟩
    have hKJ:∀ {r1:Loop} {s':S} {W:World} {Xg:Cx},RelX (FK r1) s' a W Xg->RelX (FJ r1) s' a W Xg:=fun {r1 s' W Xg} h=>h.conv (F':=FJ r1) (L':=s'.L) rfl rfl rfl rfl fC rfl rfl rfl h.fit h.l h.ln ⟨h.ex.st,h.ex.sys,h.ex.kv,dD h.ex.since,h.ex.L⟩
    have xL:∀(o:Option Nat) (c:Code) (F2:Frm) (s':S) (a2:Act) (W3:World),(∀i,o=some i->i≠PL/\c=.exit i)->(o=none->c=.ret)->(F'.sys q').To F2->Rel F2 s' a2 W3->Inv s2 s'->(Zb (σ:=sh.D) E.G s1 l o (s'.back s1.L).tick).run nf=some st1 ->
      ∃v w',(Instr.endRound (D+1) (some c)).run F.P W3=.ok v w'/\(∃b,Ending.returned v=.returned (.bool b)/\∃O2,zb 0 Xc.O w1 O2 w'/\match b with|true=>J (pre++[d]) O2 w'|false=>Jx O2 w'):=by
     intro o c F2 s' a2 W3 dN bU u0 u1 u2 u3;obtain⟨n1,n2⟩:=eI F2 s' a2 W3 { r0 with state:=.done,pending:=some c } u0 u1 u2;refine⟨_,_,run_endRound (some c) n1,false,rfl,?_⟩;unfold Zb at u3;split at u3
     ·rename_i z hz
      have fZ:=run_pure u3;rw[<-fZ]at dC;have hr:=run_pure dC
      rw[<-hr]at d9;obtain⟨s3',⟨Xg,v1⟩,v2,v3⟩:=uz (F:=FK { r0 with state:=.done,pending:=some c }) (o:=o) (ex:=fun i s'=>ex i s'.tick) (rt:=fun s'=>rt s'.tick) fC hE (eK _) ⟨_,hXJ⟩ n2 (eJ u2) hz d9
      refine⟨Xg.O,v1.ex.since,c,s3',Xg,hKJ v1,rfl,v2,?_⟩
      cases o with
      |some i=>exact .inl ⟨i,(dN i rfl).1,(dN i rfl).2,v3⟩
      |none=>exact .inr ⟨bU rfl,v3⟩
     ·cases u3
    refine cC (ihb (F:=F'.sys q') (by rw[show (F'.sys q').P=F'.P from rfl,cT.P];exact hm) (by rw[show (F'.sys q').Lh=F'.Lh from rfl,cT.Lh];exact fC) (by rw[show (F'.sys q').P=F'.P from rfl,cT.P];exact hE) (by rw[show (F'.sys q').N=F'.N from rfl,cT.N];omega) (.inr hnb) (by rw[show (F'.sys q').x.sb=F'.x.sb from rfl,show (F'.sys q').w0=F'.w0 from rfl,cT.sb,cT.w0];exact sD) ⟨_,hX4⟩ (f2.trans (Inv.tick _)) f3 ⟨fun F2 s' a2 W3 u0 u1 u2 u3=>?_,fun i fD F2 s' a2 W3 u0 u1 u2 u3=>?_,fun F2 s' a2 W3 u0 u1 u2 u3=>?_,fun F2 s' a2 _ W3 u0 u1 u2 u3=>(Rw u3).elim⟩)
    ·obtain⟨n1,n2⟩:=eI F2 s' a2 W3 r0 u0 u1 u2
     refine⟨_,_,run_endRound none n1,true,rfl,?_⟩;unfold KG at u3;split at u3
     ·rename_i z hz
      have fZ:=run_pure u3;rw[<-fZ]at dC;obtain⟨⟨Xg,v1⟩,v2⟩:=YX (F:=FK r0) fC hE (eK r0) ⟨_,hXJ⟩ n2 (eJ u2) hz;exact⟨Xg.O,v1.ex.since,post,z,Xg,by rw[g1];simp,dC,hKJ v1,rfl,v2⟩
     ·cases u3
    ·exact xL (some i) (.exit i) F2 s' a2 W3 (fun _ h=>by cases h;exact⟨fD,rfl⟩) (fun h=>nomatch h) u0 u1 u2 (by rwa[Rv fD]at u3)
    ·exact xL none .ret F2 s' a2 W3 (fun _ h=>nomatch h) (fun _=>rfl) u0 u1 u2 u3
end
end Go.Den
end
section
namespace Go.Den
open Go Go.RowKit Go.Eng Go.Lift
variable {α β γ δ:Type}
def YC:MV->MV
 |.sl true t T xs=>.fs t xs
 |.fs t xs=>.fs t xs
 |.fb t x=>.fb t x
 |.mp true a b xs=>.fm a b xs
 |.fm a b xs=>.fm a b xs
 |_=>.dead
def frz:MS->MS
 | []=>[]
 |e::M=>(e.1,e.2.1,YC e.2.2)::frz M
theorem JM:∀ {M:MS} {k:Nat} {e:Nat×MV},look (frz M) k=some e->∃m,look M k=some (e.1,m)/\e.2=YC m
 | [],k,e,h=>by cases h
 |f::M,k,e,h=>by
  obtain⟨k0,st,m⟩:=f;simp only[frz,look]at h |-
  cases hb:Nat.beq k0 k with
  |true=>grind
  |false=>rw[hb]at h;exact JM h
section
variable {F:Frm} {s:S} {a:Act} {w:World} {X:Cx} {E:VE}
def Cx.out(X:Cx)(F:Frm):Cx:={ X with O:=F.O0 }
theorem RelX.qv(h:RelX F s a w X):X.le w (X.out F) w:=⟨rfl,⟨zLb _,fun b hb hz=>⟨h.base.zero b hb hz,rfl⟩⟩,fun _ _=>rfl,zLb _,rfl⟩
theorem RelX.Hz(h:RelX F s a w X):yE (frz s.M) (X.out F) w:=by
 intro k e he;obtain⟨m,h1,h2⟩:=JM he;have hh:=h.m k _ h1
 have sN:=h.qv.k;rw[h2]
 cases m with
 |sl nw t T xs =>
  cases nw with
  |false=>trivial
  |true =>
   obtain⟨vs,g1,g2,g3⟩:=hh;refine Yk.2 ⟨vs,g1.slv,g2.mono sN,fun _ g hg=>⟨g1.gK g hg,?_⟩⟩
   have:=(g3 g hg).2
   change X.F g at this
   rw[h.Fn]at this;exact h.ok0 g this
 |bx nw c T=>cases nw<;>trivial
 |fs t xs=>exact GR.yu _ hh sN
 |fb t x=>exact GR.yu _ hh sN
 |fg f=>trivial
 |mp nw a b xs =>
  cases nw with
  |false=>trivial
  |true =>
   obtain⟨c,es,clock,g1,g2,g3,g4,g5⟩:=hh;have hc:F.w0.heap.size<=c:=by
    have:X.F c:=g4;rw[h.Fn]at this;exact this
   exact⟨_,.inr ⟨c,es,clock,rfl,g2,g3.mono sN,h.ok0 c hc⟩,g1⟩
 |fm a b xs=>exact GR.yu _ hh sN
 |dead=>trivial
def nW(E:VE)(s:S):ResultVar->Option AV
 |.tmp t=>rdO s.ep s.L [] [] (.tmp t)
 |.cell t T=>match rdO s.ep s.L [] [] (.tmp t),look E.T T with
  |some (.bx k off),some i=>match Ua s.M k with
   |some c=>match c.at_ i.sz (vN i.dd) true off with
    |some φ=>match φ.rF with
     |true=>some φ
     |false=>none
    |none=>none
   |none=>none
  |_,_=>none
def lZ(E:VE)(s:S):List ResultVar->Option (List AV)
 | []=>some []
 |r::l=>match nW E s r,lZ E s l with
  |some φ,some m=>some (φ::m)
  |_,_=>none
def Mc(tmps:Array Value):ResultVar->Sem Value
 |.tmp t=>pure (tmps.getD t undef)
 |.cell a t=>do loadVar t (<-asAddr (tmps.getD a undef))
theorem AX{P:Program}{Y:TypeId}{i:TI}(ht:Eng.Ty P Y i.dd i.z i.sz i.by_){b off:Nat}{c2:List Value}(hp:Y9 w (.pointer (some ⟨b,off,none⟩)) (yD (vN i.dd) c2))(hl:c2.length=i.sz)(h1:vN i.dd=false->c2.length=1)(ho:∀c∈c2,c.oneCell'=true):(loadVar Y ⟨b,off,none⟩).run P w=.ok (yD (vN i.dd) c2) w:=by
 obtain⟨b',o',e1,e2⟩:=hp;cases e1;rw[j6 h1 ho]at e2
 cases sX:vN i.dd with
 |true =>
  have hs:c2.toArray.size=i.sz:=by omega
  have:=Go.Eng.run_loadCells (P:=P) (w:=w) (b:=b) (off:=off) (cs:=c2.toArray) e2;rw[hs]at this;simp[loadVar,ht.YU,sX,ht.zy,this,yD]
 |false =>
  have dT:=h1 sX
  match c2,dT with
  | [v0],_ =>
   have:=e2 0 (by simp)
   simp[loadVar,ht.YU,sX,yD,this]at this |-;grind
theorem NX(hE:E.ok X.P)(h:RelX F s a w X){r:ResultVar}{φ:AV}(hr:nW E s r=some φ):∃v,(Mc a.tmps r).run X.P w=.ok v w/\φ.holds X w v:=by
 cases r with
 |tmp t =>
  refine⟨a.get t,rfl,?_⟩;simp only[nW]at hr;rw[<-h.ep]at hr;exact h.rd #[.tmp t] (.tmp t) φ (by simp) hr
 |cell t T =>
  simp only[nW]at hr;rw[<-h.ep]at hr;split at hr
  ·rename_i k off i h1 h2
   split at hr
   ·rename_i c hc
    split at hr
    case h_2=>cases hr
    rename_i ψ b7;split at hr
    case h_2=>cases hr
    rename_i hoo;cases hr;have k1:=h.rd #[.tmp t] (.tmp t) _ (by simp) h1
    obtain⟨T',nw,b,cs,e1,e2,e3⟩:=E9 h.m hc;obtain⟨c1,c2,c3,f1,f2,f3,f4,f5,f6⟩:=(AV.IF c b7 e3).h;obtain⟨_,b',e4,e5⟩:=k1;rw[e1]at e4;cases e4;have bB:=AV.Q5 φ hoo f4
    have hl:vN i.dd=false->c2.length=1:=fun ha=>by grind
    refine⟨_,?_,f6⟩;have fI:=AX (hE.T T i h2).ty (qU e2.own f1 f2 hl bB) f3 hl bB
    have e6:a.tmps.getD t undef=.pointer (some ⟨b,off,none⟩):=e5;grind [Mc,asAddr]
   ·cases hr
  ·cases hr
theorem Xv(hE:E.ok X.P)(h:RelX F s a w X):∀ {l:List ResultVar} {m:List AV},lZ E s l=some m->∃vs,(l.mapM (Mc a.tmps)).run X.P w=.ok vs w/\vs.length=m.length/\∀(i:Nat) φ v,m[i]?=some φ->vs[i]?=some v->φ.holds X w v
 | [],m,hr=>by cases hr;simp_all
 |r::l,m,hr=>by
  simp only[lZ]at hr;split at hr
  ·rename_i φ m' h1 h2
   cases hr
   obtain⟨v,e1,e2⟩:=NX hE h h1;obtain⟨vs,f1,f2,f3⟩:=Xv hE h h2;refine⟨v::vs,by simp_all,by grind,fun i φ' v' hi hv=>?_⟩
   grind
  ·cases hr
theorem ZA{P:Program}{fn:Func}{tmps:Array Value}{w:World}{vs:List Value}(h:(fn.results.toList.mapM (Mc tmps)).run P w=.ok vs w):∃v,(results fn tmps).run P w=.ok v w/\kh vs v:=by
 have e:(fn.results.mapM (Mc tmps)).run P w=.ok vs.toArray w:=by
  rw[Array.mapM_eq_mapM_toList];simp_all
 have e4:results fn tmps=(do let vs <-fn.results.mapM (Mc tmps);pure (if h:vs.size=1 then vs[0] else .tuple vs)):=by
  unfold results
  congr 2
 have e3:(results fn tmps).run P w=.ok (if h:vs.toArray.size=1 then vs.toArray[0] else .tuple vs.toArray) w:=by
  simp_all
 refine⟨_,e3,?_⟩
 match vs with
 | []=>exact .inl rfl
 | [v]=>exact .inr rfl
 |v::u::vs=>exact .inr (by rw[dif_neg (by simp)];rfl)
def zEg{t:Ty}(xs:List t.D)(a:Ty):Option a.D:=(Ty.sl t).to a xs
def zHW:(a:Ty)->Option a.D
 |.sl e=>some ([]:List e.D)
 |_=>none
def rE(M:MS):List (Option TypeId)->List AV->List Nat
 |k::ks,φ::l=>match k,X6 M φ with
  |some _,some p=>p.1::rE M ks l
  |_,_=>rE M ks l
 |_,_=>[]
def W4(k:Nat):List Nat->Bool
 | []=>false
 |j::l=>Nat.beq k j || W4 k l
theorem G5{k:Nat}:∀ {l:List Nat},W4 k l=false->k ∉ l
 | [],_=>by simp
 |j::l,h=>by
  simp only[W4,Bool.or_eq_false_iff]at h;have h1:=h.1
  rw[zU]at h1;have h2:=G5 h.2
  grind
def lY(G:FE)(M:MS):List (Option TypeId)->(rs:Ty)->List AV->Option rs.D
 | [],.nil,[]=>some ()
 |none::ks,.cons a b,φ::l=>match φ.asT G (frz M) a,lY G M ks b l with
  |some x,some y=>some (x,y)
  |_,_=>none
 |some T::ks,.cons a b,φ::l=>match X6 M φ with
  |some p=>match p.2.1 && (Nat.beq p.2.2.1 T && !W4 p.1 (rE M ks l)),zEg p.2.2.2.2 a,lY G M ks b l with
   |true,some x,some y=>some (x,y)
   |_,_,_=>none
  |none=>match Ys φ,zHW a,lY G M ks b l with
   |true,some x,some y=>some (x,y)
   |_,_,_=>none
 |_,_,_=>none
theorem qQ(hG:FOk X.P E.G)(h:RelX F s a w X):∀ {ks:List (Option TypeId)} {rs:Ty} {l:List AV} {y:rs.D},lY E.G s.M ks rs l=some y->∀ {vs:List Value},vs.length=l.length->(∀(i:Nat) φ v,l[i]?=some φ->vs[i]?=some v->φ.holds X w v/\φ.ze=false) ->
  XA X.P F.O0 F.w0.heap.size w ks rs vs y/\∀g∈K9 ks vs,∃k'∈rE s.M ks l,∃e',look s.M k'=some e'/\e'.2.own=true/\X.O g=X.ι k'
 | [],.nil,[],y,hr,vs,hl,_=>⟨List.length_eq_zero_iff.1 hl,fun g hg=>by cases hg⟩
 |none::ks,.cons t b,φ::l,y,hr,vs,hl,hv=>by
  simp only[lY]at hr;split at hr
  ·rename_i x y' h1 h2
   cases hr
   match vs,hl with
   |v::vs,hl =>
    obtain⟨k1,k2⟩:=hv 0 φ v rfl rfl;have k3:=φ.le k2 h.qv k1
    obtain⟨r1,r2⟩:=qQ hG h h2 (vs:=vs) (by grind) fun i ψ u hi hu=>hv (i+1) ψ u (by grind) (by grind)
    exact⟨⟨v,vs,rfl,AV.Z7 (X:=X.out F) hG h.Hz h1 k3,r1,fun g hg=>by cases hg⟩,fun g hg=>r2 g (by grind [K9,Cu])⟩
  ·cases hr
 |some T::ks,.cons t b,φ::l,y,hr,vs,hl,hv=>by
  simp only[lY]at hr
  match vs,hl with
  |v::vs,hl =>
   obtain⟨k1,k2⟩:=hv 0 φ v rfl rfl;have rest:=fun {y':b.D} (h2:lY E.G s.M ks b l=some y')=>qQ hG h h2 (vs:=vs) (by grind) fun i ψ u hi hu=>hv (i+1) ψ u (by grind) (by grind)
   split at hr
   ·rename_i p hp
    split at hr
    ·rename_i x y' hb h1 h2
     cases hr
     simp only[zLZ,Bool.not_eq_true']at hb;obtain⟨e,f1,f2,f3,f4⟩:=uC h.m k1 hp;obtain⟨e1,e2⟩:=Ty.jN h1;obtain⟨r1,r2⟩:=rest h2;have xP:e.2.own=true:=by rw[f2];rfl
     have htg:∀g,v.ownBlock=some g->X.O g=X.ι p.1:=fun g hg=>f3.tagged g hg
     refine⟨⟨v,vs,rfl,?_,r1,fun g hg hg2=>?_⟩,fun g hg=>?_⟩
     rotate_left
     ·obtain⟨k',q1,e',q2,q3,q4⟩:=r2 g hg2
      have:=h.inj p.1 k' e e' f1 q2 xP q3 ((htg g hg).symm.trans q4);grind [G5]
     ·simp only[K9,Cu,zLi,Option.mem_toList]at hg
      rcases hg with hg|hg
      ·exact⟨p.1,by simp[rE,hp],e,f1,xP,htg g hg⟩
      ·obtain⟨k',q1,q2⟩:=r2 g hg
       exact⟨k',by simp[rE,hp,q1],q2⟩
     have fD:=h.pos p.1 e f1 xP;rw[hb.1,zLY hb.2.1]at f3
     change zo _ _ _ X.F _ _ _ _ at f3
     rw[h.Fn]at f3;have:=zo.res (O0:=F.O0) f3 fD.1 (fun b hb hz=>h.base.zero b hb hz)
     subst e1;have e2:p.2.2.2.2=_:=e2
     show Zo _ _ _ _ _ _ _
     grind
    ·cases hr
   ·rename_i c6
    split at hr
    ·rename_i x y' hb h1 h2
     cases hr
     obtain⟨r1,r2⟩:=rest h2;rw[jW hb]at k1;have hvn:v=.slice none 0 0:=k1
     refine⟨⟨v,vs,rfl,?_,r1,fun g hg=>by rw[hvn]at hg;cases hg⟩,fun g hg=>?_⟩
     rotate_left
     ·rw[hvn]at hg
      obtain⟨k',q1,q2⟩:=r2 g (by grind [K9,Cu,Value.ownBlock])
      exact⟨k',by simp[rE,c6,q1],q2⟩
     cases t<;>simp only[zHW]at h1<;>cases h1
     show Zo _ _ _ _ _ _ _
     grind [Zo.nil]
    ·cases hr
 | [],.nil,_::_,_,h,_,_,_=>by cases h
 | [],.int _,_,_,h,_,_,_ | [],.bool,_,_,h,_,_,_ | [],.str,_,_,h,_,_,_ | [],.sl _,_,_,h,_,_,_ | [],.cons ..,_,_,h,_,_,_ | [],.arr ..,_,_,h,_,_,_ | [],.box ..,_,_,h,_,_,_ | [],.fn ..,_,_,h,_,_,_ | [],.seq ..,_,_,h,_,_,_ | [],.slo ..,_,_,h,_,_,_ | [],.mp ..,_,_,h,_,_,_=>by cases h
 |none::_,.int _,_,_,h,_,_,_|none::_,.bool,_,_,h,_,_,_|none::_,.str,_,_,h,_,_,_|none::_,.sl _,_,_,h,_,_,_|none::_,.nil,_,_,h,_,_,_|none::_,.arr ..,_,_,h,_,_,_|none::_,.box ..,_,_,h,_,_,_|none::_,.fn ..,_,_,h,_,_,_|none::_,.seq ..,_,_,h,_,_,_|none::_,.slo ..,_,_,h,_,_,_|none::_,.mp ..,_,_,h,_,_,_=>by cases h
 |some _::_,.int _,_,_,h,_,_,_|some _::_,.bool,_,_,h,_,_,_|some _::_,.str,_,_,h,_,_,_|some _::_,.sl _,_,_,h,_,_,_|some _::_,.nil,_,_,h,_,_,_|some _::_,.arr ..,_,_,h,_,_,_|some _::_,.box ..,_,_,h,_,_,_|some _::_,.fn ..,_,_,h,_,_,_|some _::_,.seq ..,_,_,h,_,_,_|some _::_,.slo ..,_,_,h,_,_,_|some _::_,.mp ..,_,_,h,_,_,_=>by cases h
 |none::_,.cons ..,[],_,h,_,_,_|some _::_,.cons ..,[],_,h,_,_,_=>by cases h
theorem ug(hG:FOk X.P E.G)(h:RelX F s a w X){ks:List (Option TypeId)}{rs:Ty}{l:List AV}{y:rs.D}(hr:lY E.G s.M ks rs l=some y){vs:List Value}(hl:vs.length=l.length)(hv:∀(i:Nat) φ v,l[i]?=some φ->vs[i]?=some v->φ.holds X w v/\φ.ze=false) :
  XA X.P F.O0 F.w0.heap.size w ks rs vs y:=(qQ hG h hr hl hv).1
end
end Go.Den
end
noncomputable section
namespace Go.Den
open Go Go.RowKit Go.Eng Go.Lift
variable {α β γ δ:Type}
def Yl:(ps:Ty)->ps.D->Nat->LS
 |.cons p q,x,i=>(i,0,.rd p x.1)::Yl q x.2 (i+1)
 |_,_,_=>[]
def Zy:List AV->Bool
 | []=>true
 |φ::l=>!φ.ze && Zy l
def rtF(E:VE)(rk:List (Option TypeId))(rs:Ty)(l:List ResultVar)(s:S):Comp rs.D:=match lZ E s l with
 |some m=>match Zy m,lY E.G s.M rk rs m with
  |true,some y=>Comp.pure y
  |_,_=>Comp.fail
 |none=>Comp.fail
def S4(E:VE)(c:Code)(h:H)(l:List ResultVar)(ps rs:Ty)(rk:List (Option TypeId))(x:ps.D):Comp rs.D :=
 den E c rs.D h ⟨Yl ps x 0,[],1,0⟩ (rtF E rk rs l) (fun _ _=>Comp.fail) (rtF E rk rs l)
def Ty.len:Ty->Nat
 |.cons _ b=>b.len+1
 |_=>0
theorem Z8{P:Program}{O w}:∀ {t:Ty} {vs:List Value} {x:t.D},t.args P O w vs x->vs.length=t.len
 |.cons a b,vs,x,⟨v,vs',h,_,h2⟩=>by rw[h,zLh,Z8 h2];rfl
 |.nil,vs,x,h=>by rw[show vs=[] from h];rfl
 |.int _,_,_,h|.bool,_,_,h|.str,_,_,h|.sl _,_,_,h|.arr ..,_,_,h|.box ..,_,_,h|.fn ..,_,_,h|.seq ..,_,_,h|.slo ..,_,_,h|.mp ..,_,_,h=>h.elim
theorem Z5{P:Program}{O w}{X:Cx}(hP:X.P=P)(hO:X.O=O){a:Act}:∀ {t:Ty} {vs:List Value} {x:t.D} {i:Nat},t.args P O w vs x->(∀(j:Nat) v,vs[j]?=some v->a.get (i+j)=v)->∀ {u e},look (Yl t x i) u=some e->e.1=0/\e.2.holds X w (a.get u)
 |.cons p q,vs,x,i,⟨v,vs',h,h1,h2⟩,ha,u,e,he=>by
  rcases zC he with ⟨e1,e2⟩|⟨_,e2⟩
  ·subst e1 e2
   refine⟨rfl,?_⟩;have:=ha 0 v (by grind)
   rw[Nat.add_zero]at this;rw[this];show (p.gr X.P).v _ _ _ _
   grind
  ·exact Z5 hP hO h2 (fun j v hj=>by have:=ha (j+1) v (by grind);grind) e2
 |.nil,_,_,_,_,_,_,_,he=>by cases he
 |.int _,_,_,_,h,_,_,_,_|.bool,_,_,_,h,_,_,_,_|.str,_,_,_,h,_,_,_,_|.sl _,_,_,_,h,_,_,_,_|.arr ..,_,_,_,h,_,_,_,_|.box ..,_,_,_,h,_,_,_,_|.fn ..,_,_,_,h,_,_,_,_|.seq ..,_,_,_,h,_,_,_,_|.slo ..,_,_,_,h,_,_,_,_|.mp ..,_,_,_,h,_,_,_,_=>h.elim
theorem Jn{E:VE}{s:S}{ep n:Nat}:∀ {l:List ResultVar} {m:List AV},lZ E s l=some m->Zy m=true->lZ E { s with ep:=ep,n:=n } l=some m
 | [],m,h,_=>h
 |r::l,m,h,hn=>by
  have rd:∀ {t:Nat} {φ:AV},rdO s.ep s.L [] [] (.tmp t)=some φ->φ.ze=false->rdO ep s.L [] [] (.tmp t)=some φ:=fun {t φ} h hf=>by
   grind [rdO,fresh]
  simp only[lZ]at h |-;split at h
  ·rename_i φ m' h1 h2
   cases h
   simp only[Zy,zLZ]at hn;rw[Jn h2 hn.2];have:nW E { s with ep:=ep,n:=n } r=some φ:=by
    cases r with
    |tmp t=>exact rd h1 (by grind)
    |cell t T =>
     simp only[nW]at h1 |-
     cases hr:rdO s.ep s.L [] [] (.tmp t) with
     |none=>grind
     |some ψ =>
      rw[hr]at h1;cases ψ<;>first|(rw[rd hr rfl];exact h1)|cases h1
   grind
  ·cases h
theorem Bp{P:Program}{fn:Func}{R:Ending->World->Prop}{F:Frm}(sD:F.w0.heap.size<=F.x.sb){a:Act}{s:S}:∀(bs:List Nat) {q:Nat->Obj->Prop} {n ep:Nat} {w:World},Rel (F.sys q) { s with n:=n,ep:=ep } a w->bs.Nodup->(∀b∈bs,q b (.deferred (some []))) ->
  (∀q' n' ep' w',Rel (F.sys q') { s with n:=n',ep:=ep' } a w'->∃v,(results fn a.tmps).run P w'=.ok v w'/\R (.returned v) w')->LeavesInM Fence.wide 0 P fn a.tmps R (bs.map nh) .returning w
 | [],q,n,ep,w,h,_,_,hK=>hK _ _ _ _ h
 |b::bs,q,n,ep,w,⟨X,h⟩,hn,hb,hK=>by
  obtain⟨e9,hn2⟩:=List.nodup_cons.1 hn;obtain⟨⟨h1,h2⟩,h3⟩:=h.ex.sys b _ (hb b (by simp))
  refine⟨by simp,.inl ⟨b,_,rfl,run_takeDeferred h1,?_⟩⟩
  have:=h.turn (o':=.deferred none) (q:=fun c o=>q c o/\c≠b) h2 (zLg sD h3) (zLy.1 h1).1 fun c o hc=>.inl ⟨hc.2,hc.1⟩
  exact Bp sD bs (q:=fun c o=>q c o/\c≠b) ⟨_,this⟩ hn2 (fun c hc=>⟨hb c (by grind),fun e=>e9 (by grind)⟩) hK
theorem leaves{P:Program}{fn:Func}{R:Ending->World->Prop}{F F':Frm}(hT:F.To F')(hD:F.D=[])(hs:∀b o,¬F.x.sys b o)(sD:F.w0.heap.size<=F.x.sb){a:Act}{s:S}{w:World}(h:Rel F' s a w)
  (hK:∀q' n' ep' w',Rel (F'.sys q') { s with n:=n',ep:=ep' } a w'->∃v,(results fn a.tmps).run P w'=.ok v w'/\R (.returned v) w'):LeavesInM Fence.wide 0 P fn a.tmps R a.defers .returning w:=by
 obtain⟨bs,h1,h2,h3⟩:=hT.marks hD hs;have dE:=hT.same
 have hd:a.defers=bs.map nh:=by obtain⟨X,hX⟩:=h;rw[hX.fit.defers];exact h1
 rw[hd];exact Bp (F:=F') (s:=s) (q:=F'.x.sys) (n:=s.n) (ep:=s.ep) (by rw[dE.w0,dE.sb];exact sD) bs h h2 (fun b hb=>(h3 b _).2 ⟨hb,rfl⟩) hK
theorem kr:∀ {l:List AV},Zy l=true->∀φ∈l,φ.ze=false
 | [],_,φ,h=>by cases h
 |ψ::l,h,φ,hm=>by
  simp only[Zy,zLZ]at h;rcases zLd.1 hm with rfl|hm
  ·grind
  ·exact kr h.2 φ hm
theorem zAw{P:Program}{E:VE}(hE:E.ok P)(hm:P.follows .mixedOrders=true){f:FuncId}{fn:Func}{c:Code}{h:H}{fs:FS}(hF:FnOk P f)(hf:P.funcs[f]?=some fn)(hb:fn.body=some c)(hc:okC fn.ntmps c=true)(hl:Nat.ble fs.ps.len fn.ntmps=true)
  (hs:∀x,S4 E c h fn.results.toList fs.ps fs.rs fs.rk x=fs.sem x):fs.ok P f:=by
 refine⟨hF,fun O w hO vs x ha n y hy=>?_⟩
 rw[<-hs x]at hy;have fL:=ZC vs.toArray fn.ntmps (by have:=Z8 ha;simp_all)
 have fB:∀(j:Nat) v,vs[j]?=some v->Act.get { tmps:=vs.toArray++Array.replicate (fn.ntmps-vs.toArray.size) undef,defers:=[] } j=v:=fun j v hj=>ZB (by grind)
 refine callsIn_wide.1 (callsIn_of_wp_marks (n:=0) hf hb trivial ?_);generalize ({ tmps:=vs.toArray++Array.replicate (fn.ntmps-vs.toArray.size) undef,defers:=[] }:Act)=a at fL fB |-
 let F:Frm:=⟨P,fn.ntmps,[],Go.Lift.Fr w,O,w,fun _ _=>False,0,[],FrX.no 1 O w⟩
 let X:Cx:=⟨P,O,fun _=>.nilIface,1,fun k=>k,Go.Lift.Fr w,Go.Lift.Fr w,0,0⟩
 have hR:Rel F ⟨Yl fs.ps x 0,[],1,0⟩ a w:=by
  have fE:=fun {u e}=>Z5 (X:=X) (a:=a) (i:=0) rfl rfl ha (fun j v hj=>by grind) (u:=u) (e:=e)
  refine⟨X,rfl,rfl,rfl,rfl,rfl,hO,fL,Base.start hO,fun t e he _=>(fE he).2,fun k e he=>(nomatch he),fun t e he=>(by grind),fun k e he=>(nomatch he),fun k k' e e' he=>(nomatch he),fun k e he=>(nomatch he),Nat.zero_le _,Nat.zero_lt_one,fun _ _ h=>h.elim,⟨Nat.zero_le _,fun j b hj=>(nomatch hj)⟩,Exx.no Nat.one_ne_zero rfl⟩
 have xM:∀F' s' a' w',F.To F'->Rel F' s' a' w'->(rtF E fs.rk fs.rs fn.results.toList s').run n=some y->LeavesInM Fence.wide 0 P fn a'.tmps (fun e w'=>∃v,e=.returned v/\Ext w w'/\∃rs,kh rs v/\XA P O w.heap.size w' fs.rk fs.rs rs y) a'.defers .returning w':=by
  intro F' s' a' w' hT h' hr;refine leaves hT rfl (fun _ _ h=>h) (zLb _) h' fun q n' ep' w' hX'=>?_
  obtain⟨X',hX'⟩:=hX';have hs:=hT.same
  have hP:X'.P=P:=hX'.P.trans hs.P;have hE':E.ok X'.P:=by grind
  unfold rtF at hr;split at hr
  ·rename_i m hm'
   split at hr
   ·rename_i y' t6 hy'
    have e:=run_pure hr;subst e;obtain⟨vs',g1,g2,g3⟩:=Xv hE' hX' (Jn hm' t6);obtain⟨v,g4,g5⟩:=ZA g1;rw[hP]at g4;refine⟨v,g4,v,rfl,?_,vs',g5,?_⟩
    ·have:=hX'.base
     change Base F'.A F'.O0 F'.w0 _ _ at this
     rw[hs.A,hs.O0,hs.w0]at this;exact this.ext
    ·have:=ug hE'.G hX' hy' g2 fun i φ u hi hu=>⟨g3 i φ u hi hu,kr t6 φ (zLe hi)⟩
     change XA _ F'.O0 F'.w0.heap.size _ _ _ _ _ at this
     rwa[hP,hs.O0,hs.w0]at this
   ·cases hr
  ·cases hr
 exact Yu c (F:=F) hm (fun _ _ h=>h) hE hc (.inl ⟨rfl,rfl⟩) rfl hR (Inv.refl _) hy ⟨fun F' s' a' w' h0 h1 _ h2=>xM F' s' a' w' h0 h1 h2,fun i _ F' s' a' w' _ _ _ h2=>(nomatch h2),fun F' s' a' w' h0 h1 _ h2=>xM F' s' a' w' h0 h1 h2,fun F' s' a' _ w' _ _ _ h2=>(nomatch h2)⟩
def Ju:List (Option TypeId)->(ps:Ty)->ps.D->Nat->Nat->LS×MS
 |some T::io,.cons (.box e) q,x,i,j=>((i,0,.bx j 0)::(Ju io q x.2 (i+1) (j+1)).1,(j,0,.bx false (.rd e x.1) T)::(Ju io q x.2 (i+1) (j+1)).2)
 |none::io,.cons a q,x,i,j=>((i,0,.rd a x.1)::(Ju io q x.2 (i+1) j).1,(Ju io q x.2 (i+1) j).2)
 |_,_,_,_,_=>([],[])
def nbx:List (Option TypeId)->Nat
 | []=>0
 |some _::io=>nbx io+1
 |none::io=>nbx io
def uQ(G:FE)(M Mf:MS):(io:List (Option TypeId))->(ps:Ty)->Nat->Option (ioT io ps).D
 |some T::io,.cons (.box e) q,j=>match look M j with
  |some (_,.bx _ c T')=>match Nat.beq T T',c.asT G Mf e,uQ G M Mf io q (j+1) with
   |true,some x,some y=>some (x,y)
   |_,_,_=>none
  |_=>none
 |none::io,.cons _ q,j=>uQ G M Mf io q j
 | [],.nil,_=>some ()
 |_,_,_=>none
def zAo:Ty->List (Option TypeId)
 |.cons _ b=>none::zAo b
 |_=>[]
def rtM(E:VE)(io:List (Option TypeId))(ps rs:Ty)(l:List ResultVar)(s:S):Comp ((ioT io ps).D×rs.D):=match lZ E s l with
 |some m=>match Zy m,lY E.G s.M (zAo rs) rs m,uQ E.G s.M (frz s.M) io ps 0 with
  |true,some y,some x=>Comp.pure (x,y)
  |_,_,_=>Comp.fail
 |none=>Comp.fail
def Rs(E:VE)(c:Code)(h:H)(l:List ResultVar)(ps:Ty)(io:List (Option TypeId))(rs:Ty)(x:ps.D):Comp ((ioT io ps).D×rs.D) :=
 den E c ((ioT io ps).D×rs.D) h ⟨(Ju io ps x 0 0).1,(Ju io ps x 0 0).2,nbx io+1,0⟩ (rtM E io ps rs l) (fun _ _=>Comp.fail) (rtM E io ps rs l)
structure Start(P:Program)(O:zR)(w:World)(bl:List Nat)(X:Cx)(n:Nat):Prop where
 U:∀(j:Nat) b,bl[j]?=some b->X.U j=.pointer (some ⟨b,0,none⟩)/\X.ι j=O b
 A:∀b∈bl,X.A b
 n:X.n=n
 P:X.P=P
 O:X.O=O
theorem MIn.len{P:Program}{O:zR}{w:World}:∀ {io:List (Option TypeId)} {ps:Ty} {bl:List Nat} {vs:List Value} {x:ps.D},MIn P O w io ps bl vs x ->
  bl.length=nbx io/\(∀b∈bl,O b≠0/\b<w.heap.size)/\vs.length=ps.len/\bl.Pairwise (fun b c=>O c≠O b):=by
 intro io
 induction io with
 |nil =>
  intro ps bl vs x h;cases ps<;>first|exact h.elim|skip
  obtain⟨rfl,rfl⟩:=h;exact⟨rfl,by simp,rfl,.nil⟩
 |cons o io ih =>
  intro ps bl vs x h
  cases ps with
  |cons p q =>
   cases o with
   |none =>
    obtain⟨v,vs',rfl,h1,h2⟩:=h;obtain⟨g1,g2,g3,g4⟩:=ih h2;exact⟨g1,g2,by grind [Ty.len],g4⟩
   |some T =>
    cases p with
    |box e =>
     obtain⟨b,bl',vs',cs,rfl,rfl,h1,h2,h3,h4,h5⟩:=h;obtain⟨g1,g2,g3,g4⟩:=ih h5;refine⟨by grind [nbx],fun c hc=>?_,by grind [Ty.len],.cons h3 g4⟩
     rcases zLd.1 hc with rfl|hc
     ·obtain⟨fr,h6,_⟩:=h1
      grind
     grind
    |_=>exact h.elim
  |_=>cases o<;>exact h.elim
theorem QB{P:Program}{O:zR}{w:World}{all:List Nat}{X:Cx}{n:Nat}(hs:Start P O w all X n)(hn:all.length<=n){a:Act}:∀ {io:List (Option TypeId)} {ps:Ty} {bl:List Nat} {vs:List Value} {x:ps.D} {i j:Nat},MIn P O w io ps bl vs x->(∀k,all[j+k]?=bl[k]?)->(∀(k:Nat) v,vs[k]?=some v->a.get (i+k)=v) ->
  (∀ {t e},look (Ju io ps x i j).1 t=some e->e.1=0/\e.2.holds X w (a.get t))/\(∀ {k e},look (Ju io ps x i j).2 k=some e->e.1=0/\j<=k/\k<j+bl.length/\e.2.holds X w k):=by
 intro io
 induction io with
 |nil =>
  intro ps bl vs x i j h hb hv;cases ps<;>first|exact h.elim|skip
  obtain⟨rfl,rfl⟩:=h;exact⟨fun {t e} he=>(nomatch he),fun {k e} he=>(nomatch he)⟩
 |cons o io ih =>
  intro ps bl vs x i j h hb hv
  cases ps with
  |cons p q =>
   cases o with
   |none =>
    obtain⟨v,vs',rfl,h1,h2⟩:=h;obtain⟨g1,g2⟩:=ih (i:=i+1) h2 hb (fun k u hk=>by rw[show i+1+k=i+(k+1) by omega];exact hv (k+1) u (by grind))
    refine⟨fun {t e} he=>?_,fun {k e} he=>g2 he⟩
    rcases zC he with ⟨rfl,rfl⟩|⟨_,he⟩
    ·refine⟨rfl,?_⟩
     have:=hv 0 v rfl;rw[Nat.add_zero]at this;rw[this];show (p.gr X.P).v X.O w v x.1
     rw[hs.P,hs.O];exact h1
    grind
   |some T =>
    cases p with
    |box e =>
     obtain⟨b,bl',vs',cs,rfl,rfl,h1,h2,h3,h4,h5⟩:=h;obtain⟨g1,g2⟩:=ih (i:=i+1) (j:=j+1) h5 (fun k=>by rw[show j+1+k=j+(k+1) by omega,hb (k+1)];rfl) (fun k u hk=>by rw[show i+1+k=i+(k+1) by omega];exact hv (k+1) u (by grind))
     have hj:all[j]?=some b:=by have:=hb 0;grind
     obtain⟨k1,k2⟩:=hs.U j b hj;have hjn:j<X.n:=by rw[hs.n];grind
     refine⟨fun {t f} he=>?_,fun {k f} he=>?_⟩
     ·rcases zC he with ⟨rfl,rfl⟩|⟨_,he⟩
      ·refine⟨rfl,?_⟩
       have:=hv 0 _ rfl;rw[Nat.add_zero]at this;rw[this];exact⟨hjn,b,k1,rfl⟩
      grind
     ·rcases zC he with ⟨rfl,rfl⟩|⟨_,he⟩
      ·refine⟨rfl,zLb _,by simp,b,cs,k1,⟨h1,?_,?_⟩,?_,rfl⟩
       ·exact hs.A b (zLe hj)
       ·rw[hs.O];omega
       ·show (e.gr X.P).rel X.O w cs.toList x.1
        rw[hs.P,hs.O];exact h4
      grind
    |_=>exact h.elim
  |_=>cases o<;>exact h.elim
theorem VO{G:FE}{M Mf:MS}{T:TypeId}{io:List (Option TypeId)}{e q:Ty}{j:Nat}:uQ G M Mf (some T::io) (.cons (.box e) q) j=(match look M j with
  |some (_,.bx _ c T')=>match Nat.beq T T',c.asT G Mf e,uQ G M Mf io q (j+1) with
   |true,some x,some y=>some (x,y)
   |_,_,_=>none
  |_=>none):=rfl
theorem Nn{G:FE}{M Mf:MS}{T:TypeId}{io:List (Option TypeId)}{e q:Ty}{j:Nat}{r:Option (ioT (some T::io) (.cons (.box e) q)).D}(h0:uQ G M Mf (some T::io) (.cons (.box e) q) j=r){y:e.D×(ioT io q).D}(hr:r=some y) :
  ∃st nw c,look M j=some (st,.bx nw c T)/\c.asT G Mf e=some y.1/\uQ G M Mf io q (j+1)=some y.2:=by
 grind [VO,zLY]
section
variable {F:Frm} {s:S} {a:Act} {w:World} {X:Cx} {E:VE}
theorem VN(hG:FOk X.P E.G)(h:RelX F s a w X){all:List Nat}(hU:∀(j:Nat) b,all[j]?=some b->X.U j=.pointer (some ⟨b,0,none⟩)):∀ {io:List (Option TypeId)} {ps:Ty} {bl:List Nat} {w0:World} {vs:List Value} {x:ps.D} {j:Nat} {y:(ioT io ps).D},MIn X.P F.O0 w0 io ps bl vs x->(∀k,all[j+k]?=bl[k]?)->uQ E.G s.M (frz s.M) io ps j=some y->EH X.P F.O0 w io ps bl y:=by
 intro io
 induction io with
 |nil =>
  intro ps bl w0 vs x j y h0 hb hy;cases ps<;>first|exact h0.elim|skip
  exact h0.1
 |cons o io ih =>
  intro ps bl w0 vs x j y h0 hb hy
  cases ps with
  |cons p q =>
   cases o with
   |none =>
    obtain⟨v,vs',rfl,h1,h2⟩:=h0;exact ih h2 hb hy
   |some T =>
    cases p with
    |box e =>
     obtain⟨b,bl',vs',cs,rfl,rfl,h1,h2,h3,h4,h5⟩:=h0;obtain⟨st,nw,c,hk,hc,hr⟩:=Nn rfl hy;obtain⟨b',cs',k1,k2,k3,k4⟩:=h.m j _ hk;have hj:all[j]?=some b:=by have:=hb 0;grind
     rw[hU j b hj]at k1;simp only[Value.pointer.injEq,zLw,Addr.mk.injEq,and_true]at k1;subst k1;refine⟨b,bl',cs',rfl,k2.own,?_,ih h5 (fun k=>by rw[show j+1+k=j+(k+1) by omega,hb (k+1)];rfl) hr⟩
     have bU:=(c.mono h.qv fun hf=>zLp hf (by grind)).2.2 _ k3
     exact(AV.jR (X:=X.out F) hG c h.Hz).vc hc bU
    |_=>exact h0.elim
  |_=>cases o<;>exact h0.elim
end
theorem zEA{P:Program}{E:VE}(hE:E.ok P)(hm:P.follows .mixedOrders=true){f:FuncId}{fn:Func}{c:Code}{h:H}{fs:FM}(hF:FnOk P f)(hf:P.funcs[f]?=some fn)(hb:fn.body=some c)(hc:okC fn.ntmps c=true)(hl:Nat.ble fs.ps.len fn.ntmps=true)
  (hs:∀x,Rs E c h fn.results.toList fs.ps fs.io fs.rs x=fs.sem x):fs.ok P f:=by
 refine⟨hF,fun O w hO bl vs x ha n y hy=>?_⟩
 rw[<-hs x]at hy;refine callsIn_wide.1 (callsIn_of_wp_marks (n:=0) hf hb trivial ?_);obtain⟨st,iR,dB⟩:∃st,st≠0/\∀b∈bl,O b≠st:=⟨1+(bl.map O).sum,by omega,fun b hb=>by have:=uG (l:=bl.map O) (x:=O b) (List.mem_map.2 ⟨b,hb,rfl⟩);omega⟩
 let F:Frm:=⟨P,fn.ntmps,[],fun b=>w.heap.size<=b\/b∈bl,O,w,fun _ _=>False,0,bl,FrX.no st O w⟩
 let X:Cx:=⟨P,O,fun j=>match bl[j]? with|some b=>.pointer (some ⟨b,0,none⟩)|none=>.nilIface,nbx fs.io+1,fun j=>match bl[j]? with|some b=>O b|none=>0,fun b=>w.heap.size<=b\/b∈bl,Go.Lift.Fr w,0,0⟩
 have fZ:Start P O w bl X (nbx fs.io+1):=⟨fun j b hj=>by grind,fun b hb=>.inr hb,rfl,rfl,rfl⟩
 obtain⟨iG,hblO,sV,hpw⟩:=ha.len;have fL:=ZC vs.toArray fn.ntmps (by simp_all)
 have fB:∀(j:Nat) v,vs[j]?=some v->Act.get { tmps:=vs.toArray++Array.replicate (fn.ntmps-vs.toArray.size) undef,defers:=[] } j=v:=fun j v hj=>ZB (by grind)
 generalize ({ tmps:=vs.toArray++Array.replicate (fn.ntmps-vs.toArray.size) undef,defers:=[] }:Act)=a at fL fB |-;have fE:=QB (a:=a) (i:=0) (j:=0) fZ (by omega) ha (fun k=>by grind) (fun j v hj=>by grind)
 have hι:∀k e,look (Ju fs.io fs.ps x 0 0).2 k=some e->∃b,bl[k]?=some b/\X.ι k=O b:=fun k e he=>by
  obtain⟨_,_,h2,_⟩:=fE.2 he;have:k<bl.length:=by omega
  exact⟨bl[k],by grind,(fZ.U k bl[k] (by grind)).2⟩
 have hR:Rel F ⟨(Ju fs.io fs.ps x 0 0).1,(Ju fs.io fs.ps x 0 0).2,nbx fs.io+1,0⟩ a w:=by
  refine⟨X,rfl,rfl,rfl,rfl,rfl,hO,fL,⟨rfl,rfl,rfl,zLb _,fun _ _ _=>rfl,hO,fun _ _ _=>rfl,fun _ _ h=>h,fun b hb=>.inl hb⟩,fun t e he _=>(fE.1 he).2,fun k e he=>(fE.2 he).2.2.2,fun t e he=>(by grind),fun k e he=>(by grind),fun k k' e e' he he' _ _ fV=>?_,fun k e he _=>?_,Nat.zero_le _,Nat.succ_pos _,fun _ _ h=>h.elim,⟨show bl.length<=nbx fs.io+1 by omega,fun j b hj=>(fZ.U j b hj).1⟩,Exx.no iR rfl⟩
  ·grind [List.pairwise_iff_getElem]
  ·obtain⟨b,h1,h2⟩:=hι k e he
   rw[h2];exact⟨(hblO b (zLe h1)).1,dB b (zLe h1)⟩
 have xM:∀F' s' a' w',F.To F'->Rel F' s' a' w'->(rtM E fs.io fs.ps fs.rs fn.results.toList s').run n=some y->LeavesInM Fence.wide 0 P fn a'.tmps (fun e w'=>∃v rs,e=.returned v/\kh rs v/\fs.rs.args P O w' rs y.2/\ButL bl w w'/\EH P O w' fs.io fs.ps bl y.1) a'.defers .returning w':=by
  intro F' s' a' w' hT h' hr;refine leaves hT rfl (fun _ _ h=>h) (zLb _) h' fun q n' ep' w' hX'=>?_
  obtain⟨X',hX'⟩:=hX';have hs:=hT.same
  have hP:X'.P=P:=hX'.P.trans hs.P;have hE':E.ok X'.P:=by grind
  unfold rtM at hr;split at hr
  ·rename_i m hm'
   split at hr
   ·rename_i y' x' t6 hy' hx'
    have e:=run_pure hr;subst e;obtain⟨vs',g1,g2,g3⟩:=Xv hE' hX' (Jn hm' t6);obtain⟨v,g4,g5⟩:=ZA g1;rw[hP]at g4;have hB:=hX'.base
    change Base F'.A F'.O0 F'.w0 _ _ at hB
    rw[hs.A,hs.O0,hs.w0]at hB;have tT:=ug hE'.G hX' hy' g2 fun i φ u hi hu=>⟨g3 i φ u hi hu,kr t6 φ (zLe hi)⟩
    change XA _ F'.O0 F'.w0.heap.size _ _ _ _ _ at tT
    rw[hP,hs.O0,hs.w0]at tT;refine⟨v,g4,v,vs',rfl,g5,XT (O:=O) (B:=w.heap.size) (fun b hb=>hO b hb) tT,⟨hB.os,hB.tape,hB.output,hB.size,fun b hb hn=>hB.block b hb fun hA=>hA.elim (fun h=>zLp h (Nat.not_le.2 hb)) hn⟩,?_⟩
    have hU:∀(j:Nat) b,bl[j]?=some b->X'.U j=.pointer (some ⟨b,0,none⟩):=by
     have:=hX'.bl.2
     change ∀(j:Nat) b,F'.bl[j]?=some b->_ at this
     rw[hs.bl]at this;omega
    have:=VN (E:=E) hE'.G hX' hU (io:=fs.io) (ps:=fs.ps) (bl:=bl) (w0:=w) (vs:=vs) (x:=x) (j:=0) (by rw[hP];show MIn P F'.O0 w fs.io fs.ps bl vs x;rw[hs.O0];exact ha) (fun k=>by grind) hx'
    change EH _ F'.O0 _ _ _ _ _ at this
    rwa[hP,hs.O0]at this
   ·cases hr
  ·cases hr
 exact Yu c (F:=F) hm (fun _ _ h=>h) hE hc (.inl ⟨rfl,rfl⟩) rfl hR (Inv.refl _) hy ⟨fun F' s' a' w' h0 h1 _ h2=>xM F' s' a' w' h0 h1 h2,fun i _ F' s' a' w' _ _ _ h2=>(nomatch h2),fun F' s' a' w' h0 h1 _ h2=>xM F' s' a' w' h0 h1 h2,fun F' s' a' _ w' _ _ _ h2=>(nomatch h2)⟩
def rtO(E:VE)(e:Ty)(T:TypeId)(l:List ResultVar)(s:S):Comp (List e.D):=match lZ E s l with
 |some [φ]=>match X6 s.M φ with
  |some p=>match Nat.beq p.2.2.1 T,zEg p.2.2.2.2 (.sl e) with
   |true,some ys=>Comp.pure ys
   |_,_=>Comp.fail
  |none=>Comp.fail
 |_=>Comp.fail
def Rq(E:VE)(c:Code)(h:H)(l:List ResultVar)(e:Ty)(T:TypeId)(ps:Ty)(xs:List e.D)(z:ps.D):Comp (List e.D) :=
 den E c (List e.D) h ⟨(0,0,.ob 0)::Yl ps z 1,[(0,0,.sl false e T xs)],1,0⟩ (rtO E e T l) (fun _ _=>Comp.fail) (rtO E e T l)
theorem zDy{P:Program}{E:VE}(hE:E.ok P)(hm:P.follows .mixedOrders=true){f:FuncId}{fn:Func}{c:Code}{h:H}{fs:FO}(hF:FnOk P f)(hf:P.funcs[f]?=some fn)(hb:fn.body=some c)(hc:okC fn.ntmps c=true)(hl:Nat.ble (fs.ps.len+1) fn.ntmps=true)(xE:fs.ret=true)
  (hs:∀xs z,Rq E c h fn.results.toList fs.e fs.T fs.ps xs z=fs.sem xs z):fs.ok P f:=by
 refine⟨hF,fun O w hO u xs ha vs z hz n ys hy=>?_⟩
 rw[<-hs xs z]at hy;obtain⟨O',hB,hOw,sN⟩:=NR hO ha;have hz':=fs.ps.wZ P sN hz
 have sV:=Z8 hz;refine callsIn_wide.1 (callsIn_of_wp_marks (n:=0) hf hb trivial ?_);have fL:=ZC (u::vs).toArray fn.ntmps (by simp_all)
 have fB:∀(j:Nat) v,(u::vs)[j]?=some v->Act.get { tmps:=(u::vs).toArray++Array.replicate (fn.ntmps-(u::vs).toArray.size) undef,defers:=[] } j=v:=fun j v hj=>ZB (by grind)
 generalize ({ tmps:=(u::vs).toArray++Array.replicate (fn.ntmps-(u::vs).toArray.size) undef,defers:=[] }:Act)=a at fL fB |-
 let F:Frm:=⟨P,fn.ntmps,[],FrS w u,O,w,fun _ _=>False,0,[],FrX.no 2 O' w⟩
 let X:Cx:=⟨P,O',fun _=>u,1,fun _=>1,FrS w u,Go.Lift.Fr w,0,0⟩
 have fE:=fun {t e}=>Z5 (X:=X) (a:=a) (i:=1) rfl rfl hz' (fun j v hj=>by grind) (u:=t) (e:=e)
 have hR:Rel F ⟨(0,0,.ob 0)::Yl fs.ps z 1,[(0,0,.sl false fs.e fs.T xs)],1,0⟩ a w:=by
  refine⟨X,rfl,rfl,rfl,rfl,rfl,hO,fL,hB,fun t e he _=>?_,fun k e he=>?_,fun t e he=>?_,fun k e he=>?_,fun k k' e e' he he' _ _ _=>?_,fun k e he _=>⟨Nat.one_ne_zero,show 1≠2 by decide⟩,Nat.zero_le _,Nat.zero_lt_one,fun _ _ h=>h.elim,⟨Nat.zero_le _,fun j b hj=>(nomatch hj)⟩,Exx.no (show 2≠0 by decide) rfl⟩
  ·rcases zC he with ⟨rfl,rfl⟩|⟨_,he⟩
   ·have hg:a.get 0=u:=fB 0 u rfl
    rw[hg];exact⟨rfl,Nat.zero_lt_one,ZQ hOw⟩
   grind
  ·rcases zC he with ⟨rfl,rfl⟩|⟨_,he⟩
   ·exact hOw
   ·cases he
  ·rcases zC he with ⟨rfl,rfl⟩|⟨_,he⟩
   ·grind
   grind
  ·rcases zC he with ⟨rfl,rfl⟩|⟨_,he⟩
   ·grind
   ·cases he
  ·rcases zC he with ⟨rfl,rfl⟩|⟨_,he⟩
   ·rcases zC he' with ⟨rfl,rfl⟩|⟨_,he'⟩
    ·rfl
    ·cases he'
   ·cases he
 have xM:∀F' s' a' w',F.To F'->Rel F' s' a' w'->(rtO E fs.e fs.T fn.results.toList s').run n=some ys->LeavesInM Fence.wide 0 P fn a'.tmps (AP (fs.e.gr P) fs.T O w u ys (zEi fs.ret u)) a'.defers .returning w':=by
  intro F' s' a' w' hT h' hr;refine leaves hT rfl (fun _ _ h=>h) (zLb _) h' fun q n' ep' w' hX'=>?_
  obtain⟨X',hX'⟩:=hX';have hs:=hT.same
  have hP:X'.P=P:=hX'.P.trans hs.P;have hE':E.ok X'.P:=by grind
  unfold rtO at hr;split at hr
  ·rename_i φ hm'
   split at hr
   ·rename_i p hp
    split at hr
    ·rename_i ys' hT2 sQ
     have e:=run_pure hr;subst e;have t6:Zy [φ]=true:=by
      unfold X6 at hp;split at hp
      ·rfl
      ·cases hp
     obtain⟨vs',g1,g2,g3⟩:=Xv hE' hX' (Jn hm' t6);obtain⟨v,g4,g5⟩:=ZA g1;rw[hP]at g4;refine⟨v,g4,?_⟩
     match vs',g2 with
     | [v1],_ =>
      have hv:v=v1:=by
       rcases g5 with g5|g5
       ·cases g5
       ·exact g5
      subst hv;have k1:=g3 0 φ v rfl rfl
      obtain⟨e0,f1,f2,f3,f4⟩:=uC hX'.m k1 hp;obtain⟨ee,ee2⟩:=Ty.jN sQ;rw[zLY hT2]at f3;have f5:=Ba ee ee2 f3
      rw[hP]at f5;have fD:=hX'.pos p.1 e0 f1 (by rw[f2];rfl)
      have hB:=hX'.base;have xD:=(hX'.okB p.2.1).sub
      change Base F'.A F'.O0 F'.w0 _ _ at hB
      change ∀g,_->F'.A g at xD
      rw[hs.A,hs.O0,hs.w0]at hB;rw[hs.A]at xD;refine U5 hB (zo.zIA f5 fun g hg=>xD g hg) fD.1 ?_
      rw[xE];exact rfl
    ·cases hr
   ·cases hr
  ·cases hr
 exact Yu c (F:=F) hm (fun _ _ h=>h) hE hc (.inl ⟨rfl,rfl⟩) rfl hR (Inv.refl _) hy ⟨fun F' s' a' w' h0 h1 _ h2=>xM F' s' a' w' h0 h1 h2,fun i _ F' s' a' w' _ _ _ h2=>(nomatch h2),fun F' s' a' w' h0 h1 _ h2=>xM F' s' a' w' h0 h1 h2,fun F' s' a' _ w' _ _ _ h2=>(nomatch h2)⟩
def Rr(E:VE)(c:Code)(h:H)(l:List ResultVar)(ps rs:Ty)(rk:List (Option TypeId))(x:ps.D):Comp rs.D :=
 den E c rs.D h ⟨(0,0,.ex (.slice none 0 0))::Yl ps x 1,[],1,0⟩ (rtF E rk rs l) (fun _ _=>Comp.fail) (rtF E rk rs l)
theorem zDz{P:Program}{E:VE}(hE:E.ok P)(hm:P.follows .mixedOrders=true){f:FuncId}{fn:Func}{c:Code}{h:H}{fs:FS}(hF:FnOk P f)(hf:P.funcs[f]?=some fn)(hb:fn.body=some c)(hc:okC fn.ntmps c=true)(hl:Nat.ble (fs.ps.len+1) fn.ntmps=true)
  (hs:∀x,Rr E c h fn.results.toList fs.ps fs.rs fs.rk x=fs.sem x):fs.okN P f:=by
 refine⟨hF,fun O w hO vs x ha n y hy=>?_⟩
 rw[<-hs x]at hy;have fL:=ZC (.slice none 0 0::vs).toArray fn.ntmps (by have:=Z8 ha;simp_all)
 have fB:∀(j:Nat) v,(Value.slice none 0 0::vs)[j]?=some v->Act.get { tmps:=(Value.slice none 0 0::vs).toArray++Array.replicate (fn.ntmps-(Value.slice none 0 0::vs).toArray.size) undef,defers:=[] } j=v:=fun j v hj=>ZB (by grind)
 refine callsIn_wide.1 (callsIn_of_wp_marks (n:=0) hf hb trivial ?_);generalize ({ tmps:=(Value.slice none 0 0::vs).toArray++Array.replicate (fn.ntmps-(Value.slice none 0 0::vs).toArray.size) undef,defers:=[] }:Act)=a at fL fB |-
 let F:Frm:=⟨P,fn.ntmps,[],Go.Lift.Fr w,O,w,fun _ _=>False,0,[],FrX.no 1 O w⟩
 let X:Cx:=⟨P,O,fun _=>.nilIface,1,fun k=>k,Go.Lift.Fr w,Go.Lift.Fr w,0,0⟩
 have hR:Rel F ⟨(0,0,.ex (.slice none 0 0))::Yl fs.ps x 1,[],1,0⟩ a w:=by
  have fE:=fun {u e}=>Z5 (X:=X) (a:=a) (i:=1) rfl rfl ha (fun j v hj=>by grind) (u:=u) (e:=e)
  refine⟨X,rfl,rfl,rfl,rfl,rfl,hO,fL,Base.start hO,fun t e he _=>(by rcases zC he with ⟨rfl,rfl⟩|⟨_,he⟩;exact fB 0 _ (by simp);grind),fun k e he=>(nomatch he),fun t e he=>(by rcases zC he with ⟨rfl,rfl⟩|⟨_,he⟩;exact Nat.zero_lt_one;grind),fun k e he=>(nomatch he),fun k k' e e' he=>(nomatch he),fun k e he=>(nomatch he),Nat.zero_le _,Nat.zero_lt_one,fun _ _ h=>h.elim,⟨Nat.zero_le _,fun j b hj=>(nomatch hj)⟩,Exx.no Nat.one_ne_zero rfl⟩
 have xM:∀F' s' a' w',F.To F'->Rel F' s' a' w'->(rtF E fs.rk fs.rs fn.results.toList s').run n=some y->LeavesInM Fence.wide 0 P fn a'.tmps (fun e w'=>∃v,e=.returned v/\Ext w w'/\∃rs,kh rs v/\XA P O w.heap.size w' fs.rk fs.rs rs y) a'.defers .returning w':=by
  intro F' s' a' w' hT h' hr;refine leaves hT rfl (fun _ _ h=>h) (zLb _) h' fun q n' ep' w' hX'=>?_
  obtain⟨X',hX'⟩:=hX';have hs:=hT.same
  have hP:X'.P=P:=hX'.P.trans hs.P;have hE':E.ok X'.P:=by grind
  unfold rtF at hr;split at hr
  ·rename_i m hm'
   split at hr
   ·rename_i y' t6 hy'
    have e:=run_pure hr;subst e;obtain⟨vs',g1,g2,g3⟩:=Xv hE' hX' (Jn hm' t6);obtain⟨v,g4,g5⟩:=ZA g1;rw[hP]at g4;refine⟨v,g4,v,rfl,?_,vs',g5,?_⟩
    ·have:=hX'.base
     change Base F'.A F'.O0 F'.w0 _ _ at this
     rw[hs.A,hs.O0,hs.w0]at this;exact this.ext
    ·have:=ug hE'.G hX' hy' g2 fun i φ u hi hu=>⟨g3 i φ u hi hu,kr t6 φ (zLe hi)⟩
     change XA _ F'.O0 F'.w0.heap.size _ _ _ _ _ at this
     rwa[hP,hs.O0,hs.w0]at this
   ·cases hr
  ·cases hr
 exact Yu c (F:=F) hm (fun _ _ h=>h) hE hc (.inl ⟨rfl,rfl⟩) rfl hR (Inv.refl _) hy ⟨fun F' s' a' w' h0 h1 _ h2=>xM F' s' a' w' h0 h1 h2,fun i _ F' s' a' w' _ _ _ h2=>(nomatch h2),fun F' s' a' w' h0 h1 _ h2=>xM F' s' a' w' h0 h1 h2,fun F' s' a' _ w' _ _ _ h2=>(nomatch h2)⟩
end Go.Den
end
noncomputable section
namespace Go.Den
open Go Go.RowKit Go.Eng Go.Lift
variable {α β γ δ σ ε τ:Type}
def tell(ys:List τ)(c:Comp (List τ×β)):Comp (List τ×β):=c.bind fun p=>Comp.pure (ys++p.1,p.2)
theorem BM{ys zs:List τ}{c:Comp (List τ×β)}{n:Nat}{y:β}(h:(tell ys c).run n=some (zs,y)):∃zs',c.run n=some (zs',y)/\zs=ys++zs':=by
 obtain⟨p,h1,h2⟩:=run_bind h;have:=run_pure h2
 grind
def ZV(body:σ->Comp (List τ×Comp.Step σ ε))(n:Nat):Nat->σ->Option (List τ×ε)
 |0,_=>none
 |k+1,s=>match (body s).run n with
  |none=>none
  |some (ys,.next s')=>match ZV body n k s' with
   |some p=>some (ys++p.1,p.2)
   |none=>none
  |some (ys,.done e)=>some (ys,e)
theorem wy{body:σ->Comp (List τ×Comp.Step σ ε)}{n m:Nat}(xS:n<=m):∀ {k l:Nat} {s:σ} {e:List τ×ε},k<=l->ZV body n k s=some e->ZV body m l s=some e:=by
 intro k
 induction k with
 |zero=>intro l s e _ h;cases h
 |succ k ih =>
  intro l s e aL h;obtain⟨l,rfl⟩:∃l',l=l'+1:=⟨l-1,by omega⟩
  simp only[ZV]at h |-
  cases hb:(body s).run n with
  |none=>grind
  |some x =>
   rw[(body s).mono xS hb];grind
def YJ(body:σ->Comp (List τ×Comp.Step σ ε))(s:σ):Comp (List τ×ε):=⟨fun n=>ZV body n n s,fun xS h=>wy xS xS h⟩
theorem Ak{body:σ->Comp (List τ×Comp.Step σ ε)}{s:σ}{n m:Nat}{ys:List τ}{e:ε}(h:ZV body n m s=some (ys,e)) :
  ∃m',m'<m/\∃zs st,(body s).run n=some (zs,st)/\(∀s',st=.next s'->∃zs',ZV body n m' s'=some (zs',e)/\ys=zs++zs')/\(∀e',st=.done e'->e'=e/\ys=zs):=by
 cases m with
 |zero=>cases h
 |succ k =>
  simp only[ZV]at h
  cases hb:(body s).run n with
  |none=>grind
  |some x =>
   rw[hb]at h;obtain⟨zs,st⟩:=x;refine⟨k,by omega,zs,st,rfl,fun s' hs=>?_,fun e' he=>?_⟩
   ·grind
   grind
def Hk(n:Nat):MS->MS
 | []=>[]
 |e::M=>(match e.2.2 with
  |.sl true t T xs=>(e.1,n,.fs t xs)
  |.mp true a b xs=>(e.1,n,.fm a b xs)
  |.fs .. | .fb .. | .fm ..=>e
  |_=>(e.1,n,.dead))::Hk n M
theorem Yb:∀ {n:Nat} {M:MS} {k:Nat} {e:Nat×MV},look (Hk n M) k=some e->(look M k=some e/\e.2.own=false/\look (frz M) k=some e)\/(e.1=n/\e.2.own=false/\∃m,look (frz M) k=some (m,e.2))
 |n,[],k,e,h=>by cases h
 |n,f::M,k,e,h=>by
  obtain⟨k0,st,m⟩:=f;have rest:∀ {x:Nat×MV},look ((k0,x)::Hk n M) k=some e->k0≠k->look (Hk n M) k=some e:=fun {x} h hn=>by
   grind [zC]
  by_cases hk:k0=k
  ·subst hk
   cases m with
   |sl nw t T xs =>
    cases nw with
    |true =>
     rcases zC h with ⟨_,h2⟩|⟨h1,_⟩
     ·subst h2;exact .inr ⟨rfl,rfl,st,by simp[frz,look,zU,YC]⟩
     omega
    |false =>
     rcases zC h with ⟨_,h2⟩|⟨h1,_⟩
     ·subst h2;exact .inr ⟨rfl,rfl,st,by simp[frz,look,zU,YC]⟩
     omega
   |fs t xs =>
    rcases zC h with ⟨_,h2⟩|⟨h1,_⟩
    ·subst h2;exact .inl ⟨by simp[look,zU],rfl,by simp[frz,look,zU,YC]⟩
    omega
   |fb t x =>
    rcases zC h with ⟨_,h2⟩|⟨h1,_⟩
    ·subst h2;exact .inl ⟨by simp[look,zU],rfl,by simp[frz,look,zU,YC]⟩
    omega
   |mp nw a b xs =>
    cases nw with
    |true =>
     rcases zC h with ⟨_,h2⟩|⟨h1,_⟩
     ·subst h2;exact .inr ⟨rfl,rfl,st,by simp[frz,look,zU,YC]⟩
     omega
    |false =>
     rcases zC h with ⟨_,h2⟩|⟨h1,_⟩
     ·subst h2;exact .inr ⟨rfl,rfl,st,by simp[frz,look,zU,YC]⟩
     omega
   |fm a b xs =>
    rcases zC h with ⟨_,h2⟩|⟨h1,_⟩
    ·subst h2;exact .inl ⟨by simp[look,zU],rfl,by simp[frz,look,zU,YC]⟩
    omega
   |bx nw c T =>
    rcases zC h with ⟨_,h2⟩|⟨h1,_⟩
    ·subst h2;exact .inr ⟨rfl,rfl,st,by simp[frz,look,zU,YC]⟩
    omega
   |fg f =>
    rcases zC h with ⟨_,h2⟩|⟨h1,_⟩
    ·subst h2;exact .inr ⟨rfl,rfl,st,by simp[frz,look,zU,YC]⟩
    omega
   |dead =>
    rcases zC h with ⟨_,h2⟩|⟨h1,_⟩
    ·subst h2;exact .inr ⟨rfl,rfl,st,by simp[frz,look,zU,YC]⟩
    omega
  ·have hb:Nat.beq k0 k=false:=by grind [zU]
   have h':look (Hk n M) k=some e:=by
    grind [Hk]
   rcases Yb h' with ⟨g1,g2,g3⟩|⟨g1,g2,m',g3⟩
   ·grind [look,frz]
   grind [frz,look]
theorem MV.zHU{X X':Cx}{w w':World}{k:Nat}(hX:X.le w X' w')(hk:k<X.n)(m:MV)(h1:m.own=false)(h:m.holds X w k):m.holds X' w' k:=by
 cases m with
 |sl nw t T xs=>cases h1
 |bx nw c T=>cases h1
 |fs t xs =>
  show (rSl _).v _ _ _ _
  rw[hX.U k hk,hX.P];exact GR.yu _ h hX.k
 |fb t x =>
  show (KV _).v _ _ _ _
  rw[hX.U k hk,hX.P];exact GR.yu _ h hX.k
 |fg f =>
  intro t x hx;rw[hX.U k hk,hX.P];exact GR.yu _ (h t x hx) hX.k
 |mp nw a b xs=>cases h1
 |fm a b xs =>
  show ((Ty.mp a b).gr X'.P).v _ _ _ _
  rw[hX.U k hk,hX.P];exact GR.yu _ h hX.k
 |dead=>trivial
def S.yl(s:S)(d:Option Tmp)(b:Bool):S:={ L:=(match d with|some d=>(d,s.n,.rd .bool b)::s.L|none=>s.L),M:=Hk s.n s.M,n:=s.n+1,ep:=s.n }
theorem Inv.yl(s:S)(d:Option Tmp)(b:Bool):Inv s (s.yl d b):=by
 refine⟨zLk _,?_,fun k e he hl=>?_⟩
 ·cases d with
  |none=>exact yc
  |some d=>exact vd yc
 ·rcases Yb he with ⟨g1,_⟩|⟨g1,_⟩
  ·exact g1
  ·omega
abbrev Frm.reb(F:Frm)(O:zR)(w:World):Frm:={ F with O0:=O,w0:=w,A:=Go.Lift.Fr w,x:={ F.x with sO:=O,sw:=w,sb:=w.heap.size } }
structure GenI(P:Program)(L:Nat)(a:Hp α)(xs:List α)(J:List α->zR->World->Prop)(Jx:zR->World->Prop):Prop where
 ext:∀pre O1 w1 w2,J pre O1 w1->Ext w1 w2->J pre O1 w2
 extx:∀O1 w1 w2,Jx O1 w1->Ext w1 w2->Jx O1 w2
 ok:∀pre O1 w1,J pre O1 w1->OkO O1 w1
 okx:∀O1 w1,Jx O1 w1->OkO O1 w1
 y:∀pre d post O1 w1 vs,xs=pre++d::post->J pre O1 w1->a O1 w1 vs d->zID P L vs.toArray w1 fun b w2=>∃O2,zb 0 O1 w1 O2 w2/\match b with
  |true=>J (pre++[d]) O2 w2
  |false=>Jx O2 w2
structure GenF(F:Frm):Prop where
 D:F.D=[]
 Lh:∀t φ,¬F.Lh t φ
 bl:F.bl=[]
 fe:F.fe=0
 st:F.x.st≠0
 sys:∀b o,¬F.x.sys b o
 kv:∀v φ,¬F.x.kv v φ
 rd:F.x.rd=none
 nr:F.x.nr=true
section
variable {F:Frm} {E:VE} {t:Ty} {xs:List t.D} {J:List t.D->zR->World->Prop} {Jx:zR->World->Prop}
theorem Qk(hF:GenF F){O1 O2:zR}{w1 w w2:World}{s:S}{a:Act}(h:Rel (F.reb O1 w1) s a w)(hk:zb 0 O1 w O2 w2)(hO2:OkO O2 w2){d:Option Tmp}(hd:F.dst d)(b:Bool):Rel (F.reb O2 w2) (s.yl d b) (a.put d (.bool b)) w2:=by
 obtain⟨X,hX⟩:=h;have sG:=hX.qv
 let X2:Cx:={ X with O:=O2,A:=Go.Lift.Fr w2,F:=Go.Lift.Fr w2,n:=s.n+1,ep:=s.n }
 have bH:(X.out (F.reb O1 w1)).le w X2 w2:=⟨rfl,hk,fun _ _=>rfl,by show X.n<=s.n+1;rw[hX.n];omega,rfl⟩
 have old:∀t e,look s.L t=some e->e.2.ze=false->e.2.holds X2 w2 (a.get t):=fun t e he hf=>e.2.le hf bH (e.2.le hf sG (hX.l t e he (by grind [fresh])))
 have f8:∀ {e:Nat×AV},fresh s.n e=true->e.1<s.n->e.2.ze=false:=fun {e} hf hl=>by
  cases f8:e.2.ze with
  |false=>rfl
  |true =>
   simp only[fresh,f8,Bool.not_true,Bool.false_or]at hf;rw[jj]at hf;grind
 have hMo:=hX.Hz;have xY:∀t e,look (s.yl d b).L t=some e->(d=some t/\e=(s.n,.rd .bool b))\/(d≠some t/\look s.L t=some e):=fun t e he=>by
  cases d with
  |none=>exact .inr ⟨by simp,he⟩
  |some d =>
   rcases zC he with ⟨h1,h2⟩|⟨h1,h2⟩
   ·grind
   grind
 refine⟨X2,hX.P,rfl,rfl,rfl,rfl,hO2,ZS hX.fit _ _,Base.start hO2,fun t e he hf=>?_,fun k e he=>?_,fun t e he=>?_,fun k e he=>?_,fun k k' e e' he he' ho=>?_,fun k e he ho=>?_,zLk _,by show F.fe<s.n+1;rw[hF.fe];omega,fun t φ hp=>zLp hp (hF.Lh t φ),⟨by show F.bl.length<=_;rw[hF.bl];grind,fun j b hj=>by rw[show (F.reb O2 w2).bl=[] from hF.bl]at hj;cases hj⟩,
  ⟨hF.st,fun b o hs=>zLp hs (hF.sys b o),fun v φ hv=>zLp hv (hF.kv v φ),zb.refl _ _ _,hX.ex.L⟩⟩
 ·rcases xY t e he with ⟨h1,h2⟩|⟨h1,h2⟩
  ·subst h2
   subst h1;rw[yZ hX.fit (hd t rfl).1];exact kO.2 rfl
  ·rw[jO h1]
   exact old t e h2 (f8 hf (hX.ln t e h2))
 ·rcases Yb he with ⟨_,g2,g3⟩|⟨_,g2,m',g3⟩
  ·obtain⟨m,g4,_⟩:=JM g3
   exact MV.zHU bH (by show k<X.n;rw[hX.n];exact(hX.mn k _ g4).2) _ g2 (hMo k e g3)
  ·obtain⟨m,g4,_⟩:=JM g3
   exact MV.zHU bH (by show k<X.n;rw[hX.n];exact(hX.mn k _ g4).2) e.2 g2 (hMo k (m',e.2) g3)
 ·rcases xY t e he with ⟨_,h2⟩|⟨_,h2⟩
  ·rw[h2];exact zLl _
  ·exact Nat.lt_succ_of_lt (hX.ln t e h2)
 ·rcases Yb he with ⟨g1,_⟩|⟨g1,_,m',g3⟩
  ·have:=hX.mn k e g1;exact⟨Nat.lt_succ_of_lt this.1,Nat.lt_succ_of_lt this.2⟩
  ·obtain⟨m,g4,_⟩:=JM g3
   exact⟨by rw[g1];exact zLl _,Nat.lt_succ_of_lt (hX.mn k _ g4).2⟩
 ·rcases Yb he with ⟨_,g2,_⟩|⟨_,g2,_⟩<;>(grind)
 ·rcases Yb he with ⟨_,g2,_⟩|⟨_,g2,_⟩<;>(grind)
def Ql(s:S)(o:Oper):Option (List AV):=match o.op with
 |.call c=>match c.callee with
  |.value x=>match rdO s.ep s.L [] [] x with
   |some .yl=>jE (rdO s.ep s.L [] []) c.args.toList
   |_=>none
  |_=>none
 |_=>none
def nT(E:VE)(t:Ty)(wr:List Nat)(s:S)(o:Oper)(z:S->Comp Unit)(k:S->Comp (List t.D×β)):Comp (List t.D×β):=match Ql s o with
 |some l=>match Zy l,Xs (l.map (fun φ=>φ.asT E.G (frz s.M))) t with
  |true,some x=>(z (s.yl o.dst false)).bind fun _=>tell [x] (k (s.yl o.dst true))
  |_,_=>Comp.fail
 |none=>step E wr s o k
def YO(E:VE)(t:Ty)(wr:List Nat)(all:List Oper)(z:S->Comp Unit)(k:S->Comp (List t.D×β)):List Oper->S->Comp (List t.D×β)
 | [],s=>k s
 |o::os,s=>match o.guard with
  |none=>nT E t wr s o (Z2 E wr all z os) (YO E t wr all z k os)
  |some g=>match nk all g.1 with
   |none=>Comp.fail
   |some u=>match rdO s.ep s.L [] [] (.tmp u) with
    |none=>Comp.fail
    |some φ=>match exG φ with
     |some b=>match nN b g.2 with
      |true=>nT E t wr s o (Z2 E wr all z os) (YO E t wr all z k os)
      |false=>YO E t wr all z k os (s.put o.dst (.ex undef))
     |none=>match φ.bool? with
      |none=>Comp.fail
      |some b=>if gB b g.2=true then nT E t wr (s.put (some u) (.ex (.bool g.2))) o (Z2 E wr all z os) (YO E t wr all z k os) else YO E t wr all z k os ((s.put (some u) (.ex (.bool (ntB g.2)))).put o.dst (.ex undef))
structure Stp where
 k:S->Comp Unit
 ex:Nat->S->Comp Unit
 rt:S->Comp Unit
def AV.cb:AV->Option Bool
 |.rd .bool b=>some b
 |.ex (.bool b)=>some b
 |_=>none
theorem WV{X:Cx}{w:World}{v:Value}{o:Option AV}{b:Bool}(h:o.bind AV.cb=some b)(hv:∀φ,o=some φ->φ.holds X w v):v=.bool b:=by
 cases o with
 |none=>cases h
 |some φ =>
  have k:=hv φ rfl;simp only[zLX]at h;unfold AV.cb at h;split at h
  ·cases h;exact kO.1 k
  ·cases h;exact k
  ·cases h
def JQ(E:VE)(t:Ty):Code->(β:Type)->H->S->(S->Comp (List t.D×β))->(Nat->S->Comp (List t.D×β))->(S->Comp (List t.D×β))->Stp->Comp (List t.D×β)
 |.skip,_,_,s,k,_,_,_=>k s
 |.label _,_,_,s,k,_,_,_=>k s
 |.region _ ops draw,_,h,s,k,_,_,z=>match h with
  |.f l h'=>match h' with
   |.y=>match draw with
    |false=>YO E t (wrS ops.toList) ops.toList z.k k ops.toList (s.YC E (rD s l))
    |true=>Comp.fail
   |h'=>Md E ops draw h' (s.YC E (rD s l)) k fun _=>Comp.fail
  |.y=>match draw with
   |false=>YO E t (wrS ops.toList) ops.toList z.k k ops.toList s
   |true=>Comp.fail
  |h=>Md E ops draw h s k fun _=>Comp.fail
 |.seq a b,β,h,s,k,ex,rt,z=>JQ E t a β h.l1 s (fun s'=>JQ E t b β h.l2 s' k ex rt z) ex rt ⟨fun s'=>den E b Unit h.l2 s' z.k (exF z.ex) z.rt,z.ex,z.rt⟩
 |.cond c x y,β,h,s,k,ex,rt,z=>match (rdO s.ep s.L [] [] c).bind AV.cb with
  |none=>Comp.fail
  |some b=>match h with
   |.j sh h1 h2=>jn (fun x=>k (sh.put s x)) fun j=>if b=true then JQ E t x β h1 s (fun s'=>goJ E.G sh s s' j) ex rt z else JQ E t y β h2 s (fun s'=>goJ E.G sh s s' j) ex rt z
   |h=>if b=true then JQ E t x β h.l1 s k ex rt z else JQ E t y β h.l2 s k ex rt z
 |.block id c,β,h,s,k,ex,rt,z=>match h with
  |.jb sh h1=>jn (fun x=>k (sh.put s x)) fun j=>JQ E t c β h1 s (fun s'=>goJ E.G sh s s' j) (fun i s'=>match Nat.beq i id with|true=>goJ E.G sh s s' j|false=>ex i s') rt ⟨z.k,fun i s'=>match Nat.beq i id with|true=>z.k s'|false=>z.ex i s',z.rt⟩
  |h=>JQ E t c β h.l1 s k (fun i s'=>match Nat.beq i id with|true=>k s'|false=>ex i s') rt ⟨z.k,fun i s'=>match Nat.beq i id with|true=>z.k s'|false=>z.ex i s',z.rt⟩
 |.loop c,β,h,s,k,ex,rt,z=>match h with
  |.l sh l h1=>match sh.get E.G s s with
   |none=>Comp.fail
   |some x0=>(YJ (fun x=>JQ E t c (Comp.Step sh.D (ED l)) h1 (sh.put s x) (fun s'=>(KG E.G sh s s').bind fun st=>Comp.pure ([],st)) (fun i s'=>(Zb E.G s l (some i) s').bind fun st=>Comp.pure ([],st)) (fun s'=>(Zb E.G s l none s').bind fun st=>Comp.pure ([],st)) ⟨fun _=>Comp.fail,z.ex,z.rt⟩) x0).bind fun p=>tell p.1 (Hi s ex rt l p.2)
  |_=>Comp.fail
 |.scope c,β,h,s,k,ex,rt,z=>JQ E t c β h.l1 s k ex rt z
 |.exit i,_,_,s,_,ex,_,_=>ex i s
 |.ret,_,_,s,_,_,rt,_=>rt s
 |_,_,_,_,_,_,_,_=>Comp.fail
structure WaysY(F:Frm)(J:List t.D->zR->World->Prop)(T:List t.D)(s0:S)(nf:Nat){β:Type}(y:β)(k:S->Comp (List t.D×β))(ex:Nat->S->Comp (List t.D×β))(rt:S->Comp (List t.D×β))(Q:Exit->Act->World->Prop):Prop where
 k:∀O1 w1 acc s' a' w' ys,J acc O1 w1->Rel (F.reb O1 w1) s' a' w'->Inv s0 s'->(k s').run nf=some (ys,y)->acc++ys=T->Q .normal a' w'
 ex:∀i O1 w1 acc s' a' w' ys,J acc O1 w1->Rel (F.reb O1 w1) s' a' w'->Inv s0 s'->(ex i s').run nf=some (ys,y)->acc++ys=T->Q (.exit i) a' w'
 rt:∀O1 w1 acc s' a' w' ys,J acc O1 w1->Rel (F.reb O1 w1) s' a' w'->Inv s0 s'->(rt s').run nf=some (ys,y)->acc++ys=T->Q .ret a' w'
structure WaysX(F:Frm)(Jx:zR->World->Prop)(s0:S)(nf:Nat)(z:Stp)(Q:Exit->Act->World->Prop):Prop where
 k:∀O1 w1 s' a' w',Jx O1 w1->Rel (F.reb O1 w1) s' a' w'->Inv s0 s'->(z.k s').run nf=some ()->Q .normal a' w'
 ex:∀i O1 w1 s' a' w',Jx O1 w1->Rel (F.reb O1 w1) s' a' w'->Inv s0 s'->(z.ex i s').run nf=some ()->Q (.exit i) a' w'
 rt:∀O1 w1 s' a' w',Jx O1 w1->Rel (F.reb O1 w1) s' a' w'->Inv s0 s'->(z.rt s').run nf=some ()->Q .ret a' w'
theorem WaysX.inv{F:Frm}{Jx:zR->World->Prop}{s0 s1:S}{nf:Nat}{z:Stp}{Q:Exit->Act->World->Prop}(h:WaysX F Jx s0 nf z Q)(hi:Inv s0 s1):WaysX F Jx s1 nf z Q :=
 ⟨fun O1 w1 s' a' w' h1 h2 h3=>h.k O1 w1 s' a' w' h1 h2 (hi.trans h3),fun i O1 w1 s' a' w' h1 h2 h3=>h.ex i O1 w1 s' a' w' h1 h2 (hi.trans h3),fun O1 w1 s' a' w' h1 h2 h3=>h.rt O1 w1 s' a' w' h1 h2 (hi.trans h3)⟩
theorem M6(hF:GenF F)(hE:E.ok F.P)(hG:GenI F.P F.x.Lp (t.args F.P) xs J Jx)(wr:List Nat){o:Oper}(ho:(∀c,o.op≠.defer c)/\F.dst o.dst){nf:Nat}{y:β}{Q:Exit->Act->World->Prop}{s:S}{a:Act}{w:World}{O1:zR}{w1:World}{acc ys T rest:List t.D}(hT:T++rest=xs){z:S->Comp Unit}{k:S->Comp (List t.D×β)}{K:Act->World->Prop}
  (hJ:J acc O1 w1) (h:Rel (F.reb O1 w1) s a w) (hr:(nT E t wr s o z k).run nf=some (ys,y)) (sE:acc++ys=T)
  (hK:∀O2 w2 acc' s' v w' ys',J acc' O2 w2->Rel (F.reb O2 w2) s' (a.put o.dst v) w'->Inv s s'->(k s').run nf=some (ys',y)->acc'++ys'=T->K (a.put o.dst v) w')
  (hZ:∀O2 w2 s' v w',Jx O2 w2->Rel (F.reb O2 w2) s' (a.put o.dst v) w'->Inv s s'->(z s').run nf=some ()->K (a.put o.dst v) w'):F.W Q o a w K:=by
 unfold nT at hr;split at hr
 ·rename_i l hl
  split at hr
  ·rename_i x t6 hx
   obtain⟨u,hu,hr⟩:=run_bind hr;obtain⟨ys',hr',sQ⟩:=BM hr;obtain⟨X,hX⟩:=h;obtain⟨d,op,T,pos,aft,g⟩:=o;unfold Ql at hl;split at hl
   case h_2=>cases hl
   rename_i c aC;simp only at aC;subst aC;obtain⟨cal,cx,ts⟩:=c;split at hl
   case h_2=>cases hl
   rename_i f bF;simp only at bF;subst bF;split at hl
   case h_2=>cases hl
   rename_i hf;rw[<-hX.ep]at hf hl;have hfv:a.eval f=.func (.yield F.x.Lp) #[] #[]:=by
    have:=hX.rd #[f] f _ (by simp) hf
    rw[show a.eval f=_ from this,hX.ex.L]
   have fA:=jV hl;have fU:t.args X.P O1 w (cx.toList.map a.eval) x:=by
    refine kg (O:=(X.out (F.reb O1 w1)).O) hx (by grind) fun i f v hf hv t y hy=>?_
    rw[List.getElem?_map,Option.map_eq_some_iff]at hf hv;obtain⟨ψ,g1,rfl⟩:=hf;obtain⟨q,g2,rfl⟩:=hv;obtain⟨q',g3,g4⟩:=Zh hl i ψ g1;rw[g2]at g3;cases g3;have hψ:=hX.rd #[q] q ψ (by simp) g4
    have hnfψ:=kr t6 ψ (zLe g1);exact AV.Z7 (X:=X.out (F.reb O1 w1)) (by show FOk X.P E.G;rw[hX.P];exact hE.G) hX.Hz hy (ψ.le hnfψ hX.qv hψ)
   have hP:X.P=F.P:=hX.P;rw[hP]at fU;have hJw:=hG.ext acc O1 w1 w hJ hX.base.ext
   have hxs':xs=acc++x::(ys'++rest):=by grind
   obtain⟨fn,tm,eH,bd,q1,q2⟩:=hG.y acc x _ O1 w _ hxs' hJw fU;refine⟨fun _ _=>trivial,?_⟩
   rw[show (fw F.x.rd).round=none from hF.rd,Oper.semAt_none]
   have fI:(execOp a.eval ⟨d,.call ⟨.value f,cx,ts⟩,T,pos,aft,g⟩).run F.P w=.ok (.round F.x.Lp fn tm eH bd) w:=by
    have e:(cx.map a.eval)=(cx.toList.map a.eval).toArray:=by grind
    grind [execOp,resolve,Deferred.ofValue,invoke]
   rw[fI];have hfw:fw F.x.rd=Fence.wide:=by rw[hF.rd];rfl
   rw[hfw];refine⟨fun h=>by grind [Fence.wide],RoundIn.mono q2 fun e w2 he=>?_⟩
   obtain⟨b,rfl,O2,hk,hb⟩:=he
   cases b with
   |true =>
    exact hK O2 w2 _ _ _ w2 ys' hb (Qk hF ⟨X,hX⟩ hk (hG.ok _ _ _ hb) ho.2 true) (Inv.yl _ _ _) hr' (by grind)
   |false =>
    exact hZ O2 w2 _ _ w2 hb (Qk hF ⟨X,hX⟩ hk (hG.okx _ _ hb) ho.2 false) (Inv.yl _ _ _) hu
  ·cases hr
 ·exact jz ho.1 (Ku (F:=F.reb O1 w1) hE h wr o ho.2 nf _ hr K Q fun s' v w' g1 g2 g3=>hK O1 w1 acc s' v w' ys hJ g1 g2 g3 sE)
theorem wF(hF:GenF F)(hE:E.ok F.P)(hG:GenI F.P F.x.Lp (t.args F.P) xs J Jx)(wr:List Nat){all:List Oper}{nf:Nat}{y:β}{T rest:List t.D}(hT:T++rest=xs){Q:Exit->Act->World->Prop}{s0:S}{z:S->Comp Unit}{k:S->Comp (List t.D×β)}
  (hK:∀O2 w2 acc s' a' w' ys,J acc O2 w2->Rel (F.reb O2 w2) s' a' w'->Inv s0 s'->(k s').run nf=some (ys,y)->acc++ys=T->Q .normal a' w')
  (hZ:∀O2 w2 s' a' w',Jx O2 w2->Rel (F.reb O2 w2) s' a' w'->Inv s0 s'->(z s').run nf=some ()->Q .normal a' w'):∀ {os:List Oper} {s:S} {a:Act} {w:World} {O1:zR} {w1:World} {acc ys:List t.D},
  J acc O1 w1->Rel (F.reb O1 w1) s a w->Inv s0 s->(YO E t wr all z k os s).run nf=some (ys,y)->acc++ys=T->(∀o∈os,(∀c,o.op≠.defer c)/\F.dst o.dst)->vt (F.W Q) all.toArray (Q .normal) os a w
 | [],s,a,w,O1,w1,acc,ys,hJ,h,hi,hr,sE,_=>hK O1 w1 acc s a w ys hJ h hi hr sE
 |o::os,s,a,w,O1,w1,acc,ys,hJ,h,hi,hr,sE,ho=>by
  have h1:=ho o (by simp)
  have ho':∀o∈os,(∀c,o.op≠.defer c)/\F.dst o.dst:=fun o' ho'=>ho o' (by grind)
  have act:∀ {s:S},Rel (F.reb O1 w1) s a w->Inv s0 s->(nT E t wr s o (Z2 E wr all z os) (YO E t wr all z k os)).run nf=some (ys,y)->Region.wanted o (yielded all.toArray a.tmps)=true->vt (F.W Q) all.toArray (Q .normal) (o::os) a w:=fun {s} h hi hr hw=>by
   simp only[vt,hw,if_true];refine M6 hF hE hG wr h1 hT hJ h hr sE (fun O2 w2 acc' s' v w' ys' g1 g2 g3 g4 g5=>?_) fun O2 w2 s' v w' g1 g2 g3 g4=>?_
   ·exact wF hF hE hG wr hT hK hZ g1 g2 (hi.trans g3) g4 g5 ho'
   ·exact XY (F:=F.reb O2 w2) hE wr g2 (hi.trans g3) g4 ho' fun s2 a2 w3 e1 e2 e3=>hZ O2 w2 s2 a2 w3 g1 e1 e2 e3
  have off:∀ {s:S},Rel (F.reb O1 w1) s a w->Inv s0 s->(YO E t wr all z k os (s.put o.dst (.ex undef))).run nf=some (ys,y)->Region.wanted o (yielded all.toArray a.tmps)=false->vt (F.W Q) all.toArray (Q .normal) (o::os) a w:=fun {s} h hi hr hw=>by
   simp only[vt,hw,Bool.false_eq_true,if_false];exact wF hF hE hG wr hT hK hZ hJ (h.skip h1.2) (hi.trans (Inv.put _ _ _)) hr sE ho'
  simp only[YO]at hr;split at hr
  ·grind [Region.wanted]
  ·rename_i g hg
   have sK:Region.wanted o (yielded all.toArray a.tmps)=(yielded all.toArray a.tmps g.1 == some g.2):=by grind [Region.wanted]
   split at hr
   ·cases hr
   ·rename_i u ht
    split at hr
    ·cases hr
    ·rename_i φ hφ
     obtain⟨X,hX⟩:=h;rw[<-hX.ep]at hφ;have hv:φ.holds X w (a.get u):=hX.rd #[.tmp u] (.tmp u) φ (by simp) hφ
     split at hr
     ·rename_i b hb
      have hy:yielded all.toArray a.tmps g.1=b:=by
       cases b with
       |none=>rw[CF hb]at hv;exact Jz ht hv
       |some b=>rw[CD hb]at hv;exact YL ht hv
      rw[hy]at sK;split at hr
      ·rename_i hw
       refine act ⟨X,hX⟩ hi hr ?_;rw[sK];unfold nN at hw;grind
      ·rename_i hw
       refine off ⟨X,hX⟩ hi hr ?_;rw[sK]
       cases b with
       |none=>rfl
       |some b =>
        generalize g.2=v at hw;cases b<;>cases v<;>first|rfl|grind [nN]
     ·split at hr
      ·cases hr
      ·rename_i b hb
       have iM:a.get u=.bool b:=by rw[AV.Zg hb]at hv;exact kO.1 hv
       have hy:=YL ht iM;rw[hy]at sK;split at hr
       ·rename_i cS
        have e:=Rk.1 cS;refine act (Rel.Xz hX (φ:=.ex (.bool g.2)) fun X' _=>(by rw[iM,e];exact rfl)) (hi.trans (Inv.put _ _ _)) hr ?_
        grind
       ·rename_i cS
        have e:=RY cS;refine off (Rel.Xz hX (φ:=.ex (.bool (ntB g.2))) fun X' _=>(by rw[iM,e];exact rfl)) (hi.trans (Inv.put _ _ _)) hr ?_
        rw[sK,e];cases g.2<;>rfl
theorem BN{c:Comp σ}{n:Nat}{ys:List τ}{y:σ}(h:(c.bind fun st=>Comp.pure (([]:List τ),st)).run n=some (ys,y)):ys=[]/\c.run n=some y:=by
 obtain⟨x,h1,h2⟩:=run_bind h;have:=run_pure h2
 grind
theorem WA(hF:GenF F)(hm:F.P.follows .mixedOrders=true)(hE:E.ok F.P)(hG:GenI F.P F.x.Lp (t.args F.P) xs J Jx):∀(c:Code),okC F.N c=true->ZD c=true->∀ {β:Type} {h:H} {s0 s:S} {a:Act} {w:World} {k:S->Comp (List t.D×β)} {ex:Nat->S->Comp (List t.D×β)} {rt:S->Comp (List t.D×β)} {z:Stp} {nf:Nat} {y:β} {Q:Exit->Act->World->Prop} {O1:zR} {w1:World} {acc ys T rest:List t.D},T++rest=xs ->
  J acc O1 w1->Rel (F.reb O1 w1) s a w->Inv s0 s->(JQ E t c β h s k ex rt z).run nf=some (ys,y)->acc++ys=T->WaysY F J T s0 nf y k ex rt Q->WaysX F Jx s0 nf z Q->F.wp c Q a w:=by
 have fC:∀(O1:zR) (w1:World) t φ,¬(F.reb O1 w1).Lh t φ:=fun _ _=>hF.Lh
 have hA5:∀ {c:Code},okC F.N c=true->ZD c=true->∀ {h:H} {s0 s:S} {a:Act} {w:World} {z:Stp} {nf:Nat} {Q:Exit->Act->World->Prop} {O1:zR} {w1:World},Jx O1 w1->Rel (F.reb O1 w1) s a w->Inv s0 s->(den E c Unit h s z.k (exF z.ex) z.rt).run nf=some ()->WaysX F Jx s0 nf z Q->F.wp c Q a w:=by
  intro c kA hn h s0 s a w z nf Q O1 w1 hJ hR hi hr hW;have a7:(F.reb O1 w1).x.nr=true:=hF.nr
  exact Yu c (F:=F.reb O1 w1) hm (fC _ _) hE kA (.inr hn) rfl hR hi hr ⟨fun F' s' a' w' g0 g1 g2 g3=>(by rw[g0.nr a7]at g1;exact hW.k O1 w1 s' a' w' hJ g1 g2 g3),fun i fD F' s' a' w' g0 g1 g2 g3=>(by rw[g0.nr a7]at g1;exact hW.ex i O1 w1 s' a' w' hJ g1 g2 (by grind [Rv])),fun F' s' a' w' g0 g1 g2 g3=>(by rw[g0.nr a7]at g1;exact hW.rt O1 w1 s' a' w' hJ g1 g2 g3),fun F' s' a' _ w' _ _ _ g3=>(Rw g3).elim⟩
 have eL:∀ {id:Nat} {ops:Array Oper},Xq F.N ops.toList=true->∀ {β:Type} {s0 s:S} {a:Act} {w:World} {k:S->Comp (List t.D×β)} {zk:S->Comp Unit} {nf:Nat} {y:β} {Q:Exit->Act->World->Prop} {O1:zR} {w1:World} {acc ys T rest:List t.D},T++rest=xs->J acc O1 w1->Rel (F.reb O1 w1) s a w->Inv s0 s->(YO E t (wrS ops.toList) ops.toList zk k ops.toList s).run nf=some (ys,y)->acc++ys=T ->
   (∀O2 w2 acc s' a' w' ys,J acc O2 w2->Rel (F.reb O2 w2) s' a' w'->Inv s0 s'->(k s').run nf=some (ys,y)->acc++ys=T->Q .normal a' w')->(∀O2 w2 s' a' w',Jx O2 w2->Rel (F.reb O2 w2) s' a' w'->Inv s0 s'->(zk s').run nf=some ()->Q .normal a' w')->F.wp (.region id ops false) Q a w:=by
  intro id ops kA β s0 s a w k zk nf y Q O1 w1 acc ys T rest hT hJ hR hi hr sE hK hZ;have key:vt (F.W Q) ops.toList.toArray (Q .normal) ops.toList a w:=wF hF hE hG (wrS ops.toList) hT hK hZ hJ hR hi hr sE fun o ho=>⟨Kw kA o ho,fun t ht=>?_⟩
  ·refine Jr (fun h=>nomatch h) ?_
   show XB (F.W Q) ops (Q .normal) (List.range ops.size) a w
   rw[List.range_eq_range',<-Array.length_toList,kV ops.toList 0 (by simp)]
   omega
  ·obtain⟨j,hj⟩:=List.mem_iff_getElem?.1 ho
   exact⟨((zS (Xw kA) hj).2.1 t ht).1,fun φ=>hF.Lh t φ⟩
 intro c
 induction c with
 |skip=>intro _ _ β h s0 s a w k ex rt z nf y Q O1 w1 acc ys T rest hT hJ hR hi hr sE hW hX;exact wpIn_skip (hW.k O1 w1 acc s a w ys hJ hR hi hr sE)
 |label l=>intro _ _ β h s0 s a w k ex rt z nf y Q O1 w1 acc ys T rest hT hJ hR hi hr sE hW hX;exact wpIn_label (hW.k O1 w1 acc s a w ys hJ hR hi hr sE)
 |exit i=>intro _ _ β h s0 s a w k ex rt z nf y Q O1 w1 acc ys T rest hT hJ hR hi hr sE hW hX;exact wpIn_exit (hW.ex i O1 w1 acc s a w ys hJ hR hi hr sE)
 |ret=>intro _ _ β h s0 s a w k ex rt z nf y Q O1 w1 acc ys T rest hT hJ hR hi hr sE hW hX;exact wpIn_ret (hW.rt O1 w1 acc s a w ys hJ hR hi hr sE)
 |region id ops draw =>
  intro kA _ β h s0 s a w k ex rt z nf y Q O1 w1 acc ys T rest hT hJ hR hi hr sE hW hX;simp only[JQ]at hr;simp only[okC,zLZ]at kA;have hN:=tD kA.2
  have kA:=kA.1;split at hr
  ·rename_i l h'
   have hR':=Rel.YC (F:=F.reb O1 w1) (E:=E) hE hR (rD s l);have hi':=hi.trans (Inv.YC (E:=E) s (rD s l))
   split at hr
   ·split at hr
    ·exact eL kA hT hJ hR' hi' hr sE hW.k hX.k
    ·cases hr
   ·exact uk (F:=F.reb O1 w1) (fC _ _) hE hm (zLb _) hN kA hR' hi' hr (fun s' a' w' g1 g2 g3=>hW.k O1 w1 acc s' a' w' ys hJ g1 g2 g3 sE) fun s' a' _ w' _ _ g3=>(nomatch g3)
  ·split at hr
   ·exact eL kA hT hJ hR hi hr sE hW.k hX.k
   ·cases hr
  ·exact uk (F:=F.reb O1 w1) (fC _ _) hE hm (zLb _) hN kA hR hi hr (fun s' a' w' g1 g2 g3=>hW.k O1 w1 acc s' a' w' ys hJ g1 g2 g3 sE) fun s' a' _ w' _ _ g3=>(nomatch g3)
 |seq x v ihx ihv =>
  intro kA hn β h s0 s a w k ex rt z nf y Q O1 w1 acc ys T rest hT hJ hR hi hr sE hW hX;simp only[okC,zLZ]at kA;simp only[ZD,zLZ]at hn;simp only[JQ]at hr;refine wpIn_seq (ihx kA.1 hn.1 hT hJ hR hi hr sE ⟨fun O2 w2 acc' s' a' w' ys' g0 g1 g2 g3 g4=>?_,hW.ex,hW.rt⟩ ⟨fun O2 w2 s' a' w' g0 g1 g2 g3=>?_,hX.ex,hX.rt⟩)
  ·exact ihv kA.2 hn.2 hT g0 g1 g2 g3 g4 hW hX
  ·exact hA5 kA.2 hn.2 g0 g1 g2 g3 hX
 |scope x ih =>
  intro kA hn β h s0 s a w k ex rt z nf y Q O1 w1 acc ys T rest hT hJ hR hi hr sE hW hX;simp only[JQ]at hr;exact tM (ih kA hn hT hJ hR hi hr sE ⟨hW.k,hW.ex,hW.rt⟩ ⟨hX.k,hX.ex,hX.rt⟩)
 |cond c x e ihx ihe =>
  intro kA hn β h s0 s a w k ex rt z nf y Q O1 w1 acc ys T rest hT hJ hR hi hr sE hW hX;simp only[okC,zLZ]at kA;simp only[ZD,zLZ]at hn;simp only[JQ]at hr;split at hr
  ·cases hr
  ·rename_i b hb
   have hc:a.eval c=.bool b:=by
    obtain⟨X,hX⟩:=hR;rw[<-hX.ep]at hb;exact WV hb fun φ h1=>hX.rd #[c] c φ (by simp) h1
   split at hr
   ·rename_i sh h1 h2
    dsimp only [jn]at hr;have hW':WaysY F J T s nf y (fun s'=>goJ E.G sh s s' (fun x=>k (sh.put s x))) ex rt Q:=by
     refine⟨fun O2 w2 acc' s' a' w' ys' g0 g1 g2 g3 g4=>?_,fun i O2 w2 acc' s' a' w' ys' g0 g1 g2 g3 g4=>hW.ex i O2 w2 acc' s' a' w' ys' g0 g1 (hi.trans g2) g3 g4,fun O2 w2 acc' s' a' w' ys' g0 g1 g2 g3 g4=>hW.rt O2 w2 acc' s' a' w' ys' g0 g1 (hi.trans g2) g3 g4⟩
     obtain⟨x,q1,q2,q3⟩:=qx (F:=F.reb O2 w2) (F0:=F.reb O1 w1) (fC _ _) hE ⟨rfl,rfl,rfl⟩ hR g1 g2 g3;exact hW.k O2 w2 acc' _ _ _ ys' g0 q1 (hi.trans q2) q3 g4
    refine wpIn_cond_split hc (fun aR=>?_) (fun hbf=>?_)
    ·rw[zLz aR]at hr;exact ihx kA.1 hn.1 hT hJ hR (Inv.refl s) hr sE hW' (hX.inv hi)
    ·rw[zMA (by simp_all)]at hr;exact ihe kA.2 hn.2 hT hJ hR (Inv.refl s) hr sE hW' (hX.inv hi)
   ·refine wpIn_cond_split hc (fun aR=>?_) (fun hbf=>?_)
    ·rw[zLz aR]at hr;exact ihx kA.1 hn.1 hT hJ hR hi hr sE hW hX
    ·rw[zMA (by grind)]at hr;exact ihe kA.2 hn.2 hT hJ hR hi hr sE hW hX
 |block id x ih =>
  intro kA hn β h s0 s a w k ex rt z nf y Q O1 w1 acc ys T rest hT hJ hR hi hr sE hW hX;simp only[JQ]at hr;refine wpIn_block ?_;have hX':WaysX F Jx s0 nf ⟨z.k,fun i s'=>match Nat.beq i id with|true=>z.k s'|false=>z.ex i s',z.rt⟩ (Exit.inBlock id Q):=by
   refine⟨hX.k,fun i O2 w2 s' a' w' g0 g1 g2 g3=>?_,hX.rt⟩
   show (if i=id then Q .normal a' w' else Q (.exit i) a' w')
   cases hb:Nat.beq i id with
   |true=>simp only[hb]at g3;rw[zLz (zLY hb)];exact hX.k O2 w2 s' a' w' g0 g1 g2 g3
   |false =>
    simp only[hb]at g3;rw[zU]at hb;rw[zMA (by grind)];exact hX.ex i O2 w2 s' a' w' g0 g1 g2 g3
  have kA:=(show okC F.N x=true by simp_all [okC,zLZ])
  split at hr
  ·rename_i sh h1
   dsimp only [jn]at hr;have hk:∀O2 w2 acc' s' a' w' ys',J acc' O2 w2->Rel (F.reb O2 w2) s' a' w'->Inv s s'->(goJ E.G sh s s' (fun x=>k (sh.put s x))).run nf=some (ys',y)->acc'++ys'=T->Q .normal a' w':=by
    intro O2 w2 acc' s' a' w' ys' g0 g1 g2 g3 g4;obtain⟨x,q1,q2,q3⟩:=qx (F:=F.reb O2 w2) (F0:=F.reb O1 w1) (fC _ _) hE ⟨rfl,rfl,rfl⟩ hR g1 g2 g3;exact hW.k O2 w2 acc' _ _ _ ys' g0 q1 (hi.trans q2) q3 g4
   refine ih kA hn hT hJ hR (Inv.refl s) hr sE ⟨hk,fun i O2 w2 acc' s' a' w' ys' g0 g1 g2 g3 g4=>?_,fun O2 w2 acc' s' a' w' ys' g0 g1 g2 g3 g4=>hW.rt O2 w2 acc' s' a' w' ys' g0 g1 (hi.trans g2) g3 g4⟩ (hX'.inv hi)
   show (if i=id then Q .normal a' w' else Q (.exit i) a' w')
   cases hb:Nat.beq i id with
   |true=>rw[hb]at g3;rw[zLz (zLY hb)];exact hk O2 w2 acc' s' a' w' ys' g0 g1 g2 g3 g4
   |false =>
    rw[hb]at g3;rw[zU]at hb;rw[zMA (by grind)];exact hW.ex i O2 w2 acc' s' a' w' ys' g0 g1 (hi.trans g2) g3 g4
  ·refine ih kA hn hT hJ hR hi hr sE ⟨hW.k,fun i O2 w2 acc' s' a' w' ys' g0 g1 g2 g3 g4=>?_,hW.rt⟩ hX'
   show (if i=id then Q .normal a' w' else Q (.exit i) a' w')
   cases hb:Nat.beq i id with
   |true=>rw[hb]at g3;rw[zLz (zLY hb)];exact hW.k O2 w2 acc' s' a' w' ys' g0 g1 g2 g3 g4
   |false =>
    rw[hb]at g3;rw[zU]at hb;rw[zMA (by grind)];exact hW.ex i O2 w2 acc' s' a' w' ys' g0 g1 g2 g3 g4
 |loop c ih =>
  intro kA hn β h s0 s a w k ex rt z nf y Q O1 w1 acc ys T rest hT hJ hR hi hr sE hW hX;simp only[JQ]at hr;split at hr
  ·rename_i sh l h1
   split at hr
   ·cases hr
   ·rename_i x0 b8
    obtain⟨p,hp,hr⟩:=run_bind hr;obtain⟨ys0,e⟩:=p;obtain⟨zs,hr,sQ⟩:=BM hr;simp only at hr sQ;obtain⟨g1,g2⟩:=YX (F:=F.reb O1 w1) (fC _ _) hE (Frm.Ki _) hR hR (Inv.refl s) b8
    generalize hB:(fun x=>JQ E t c (Comp.Step sh.D (ED l)) h1 (sh.put s x) (fun s'=>(KG E.G sh s s').bind fun st=>Comp.pure ([],st)) (fun i s'=>(Zb E.G s l (some i) s').bind fun st=>Comp.pure ([],st)) (fun s'=>(Zb E.G s l none s').bind fun st=>Comp.pure ([],st)) ⟨fun _=>Comp.fail,z.ex,z.rt⟩)=B at *
    refine rY (fun m a' w'=>∃O2 w2 acc' x ys',J acc' O2 w2/\Rel (F.reb O2 w2) (sh.put s x) a' w'/\Inv s (sh.put s x)/\ZV B nf m x=some (ys',e)/\acc'++(ys'++zs)=T) (fun m a' w' hI=>?_) ⟨O1,w1,acc,x0,ys0,hJ,g1,g2,hp,by grind⟩
    obtain⟨O2,w2,acc',x,ys',q0,q1,q2,q3,q4⟩:=hI;obtain⟨m',gF,us,st,fZ,hnx,hdn⟩:=Ak q3;rw[<-hB]at fZ
    have cE:∀(o:Option Nat) O3 w3 tU s' a3 w' vs,J tU O3 w3->Rel (F.reb O3 w3) s' a3 w'->Inv s s'->((Zb (σ:=sh.D) E.G s l o s').bind fun st=>Comp.pure (([]:List t.D),st)).run nf=some (vs,st)->tU++vs=acc'++us->∃s2,Rel (F.reb O3 w3) s2 a3 w'/\Inv s s2/\(match o with|some i=>ex i s2|none=>rt s2).run nf=some (zs,y)/\tU++zs=T:=by
     intro o O3 w3 tU s' a3 w' vs f0 f1 f2 f3 f4;obtain⟨rfl,f5⟩:=BN (c:=Zb (σ:=sh.D) E.G s l o s') f3;unfold Zb at f5;split at f5
     ·rename_i v hv
      have fZ:=run_pure f5;obtain⟨he,cQ⟩:=hdn v fZ.symm;subst he;obtain⟨s2,r1,r2,r3⟩:=uz (F:=F.reb O3 w3) (F0:=F.reb O1 w1) (fC _ _) hE ⟨rfl,rfl,rfl⟩ hR f1 f2 hv hr;refine⟨s2,r1,r2,r3,?_⟩;simp_all
     ·cases f5
    have hT':∃rest',(acc'++us)++rest'=xs:=by
     cases st with
     |next s' =>
      obtain⟨zs',_,h2⟩:=hnx s' rfl;exact⟨zs'++zs++rest,by rw[<-hT,<-q4,h2];simp⟩
     |done e' =>
      obtain⟨_,h2⟩:=hdn e' rfl;exact⟨zs++rest,by rw[<-hT,<-q4,h2];simp⟩
    obtain⟨rest',hT'⟩:=hT';refine ih kA hn hT' q0 q1 q2 fZ rfl ⟨fun O3 w3 tU s' a3 w' vs f0 f1 f2 f3 f4=>?_,fun i O3 w3 tU s' a3 w' vs f0 f1 f2 f3 f4=>?_,fun O3 w3 tU s' a3 w' vs f0 f1 f2 f3 f4=>?_⟩ ⟨fun _ _ _ _ _ _ _ _ f=>(nomatch f),(hX.inv hi).ex,(hX.inv hi).rt⟩
    ·obtain⟨rfl,f5⟩:=BN (c:=KG E.G sh s s') f3
     unfold KG at f5;split at f5
     ·rename_i v hv
      have fZ:=run_pure f5;obtain⟨zs',k1,k2⟩:=hnx v fZ.symm;obtain⟨r1,r2⟩:=YX (F:=F.reb O3 w3) (F0:=F.reb O1 w1) (fC _ _) hE ⟨rfl,rfl,rfl⟩ hR f1 f2 hv;refine⟨m',gF,O3,w3,tU,v,zs',f0,r1,r2,k1,?_⟩;simp_all
     ·cases f5
    ·obtain⟨s2,r1,r2,r3,r4⟩:=cE (some i) O3 w3 tU s' a3 w' vs f0 f1 f2 f3 f4
     exact hW.ex i O3 w3 tU s2 a3 w' zs f0 r1 (hi.trans r2) r3 r4
    ·obtain⟨s2,r1,r2,r3,r4⟩:=cE none O3 w3 tU s' a3 w' vs f0 f1 f2 f3 f4
     exact hW.rt O3 w3 tU s2 a3 w' zs f0 r1 (hi.trans r2) r3 r4
  ·cases hr
 |goto l=>intro _ _ β h s0 s a w k ex rt z nf y Q O1 w1 acc ys T rest hT hJ hR hi hr;cases hr
 |refuse l=>intro _ _ β h s0 s a w k ex rt z nf y Q O1 w1 acc ys T rest hT hJ hR hi hr;cases hr
 |rangeFunc f ps pa bd _ _=>intro _ hn;cases hn
end
def Rn(E:VE)(c:Code)(h:H)(ps t:Ty)(x:ps.D):Comp (List t.D) :=
 (JQ E t c Unit h ⟨(0,0,.yl)::Yl ps x 1,[],1,0⟩ (fun _=>Comp.pure ([],())) (fun _ _=>Comp.fail) (fun _=>Comp.pure ([],())) ⟨fun _=>Comp.pure (),fun _ _=>Comp.fail,fun _=>Comp.pure ()⟩).bind fun p=>Comp.pure p.1
theorem zDx{P:Program}{E:VE}(hE:E.ok P)(hm:P.follows .mixedOrders=true){f:FuncId}{fn:Func}{c:Code}{h:H}{fs:GS}(hF:FnOk P f)(hf:P.funcs[f]?=some fn)(hb:fn.body=some c)(hc:(okC fn.ntmps c && ZD c)=true)(tT:fn.results.size=0)(hl:Nat.ble (fs.ps.len+1) fn.ntmps=true)
  (hs:∀x,Rn E c h fs.ps fs.t x=fs.sem x):fs.ok P f:=by
 rw[zLZ]at hc;refine⟨hF,fun O w hO us x ha n xs hy L J Jx hR=>?_⟩
 rw[<-hs x]at hy;obtain⟨⟨ys,u⟩,hy2,hp⟩:=run_bind hy;have:=run_pure hp
 simp only at this;subst this;have sV:=Z8 ha
 refine calls_of_wp hf hb ?_;have fL:=ZC (Value.func (.yield L) #[] #[]::us).toArray fn.ntmps (by simp_all)
 have fB:∀(j:Nat) v,(Value.func (.yield L) #[] #[]::us)[j]?=some v->Act.get { tmps:=(Value.func (.yield L) #[] #[]::us).toArray++Array.replicate (fn.ntmps-(Value.func (.yield L) #[] #[]::us).toArray.size) undef,defers:=[] } j=v:=fun j v hj=>ZB (by grind)
 generalize ({ tmps:=(Value.func (.yield L) #[] #[]::us).toArray++Array.replicate (fn.ntmps-(Value.func (.yield L) #[] #[]::us).toArray.size) undef,defers:=[] }:Act)=a at fL fB |-
 let F:Frm:=⟨P,fn.ntmps,[],Go.Lift.Fr w,O,w,fun _ _=>False,0,[],{ FrX.no 1 O w with Lp:=L,nr:=true }⟩
 let X:Cx:=⟨P,O,fun _=>.nilIface,1,fun k=>k,Go.Lift.Fr w,Go.Lift.Fr w,0,L⟩
 have hGF:GenF F:=⟨rfl,fun _ _ h=>h,rfl,rfl,Nat.one_ne_zero,fun _ _ h=>h,fun _ _ h=>h,rfl,rfl⟩
 have hG:GenI P L (fs.t.args P) ys J Jx:=⟨hR.ext,hR.extx,hR.ok,hR.okx,hR.y⟩;have eZ:Rel (F.reb O w) ⟨(0,0,.yl)::Yl fs.ps x 1,[],1,0⟩ a w:=by
  have fE:=fun {t e}=>Z5 (X:=X) (a:=a) (i:=1) rfl rfl ha (fun j v hj=>by grind) (u:=t) (e:=e)
  refine⟨X,rfl,rfl,rfl,rfl,rfl,hO,fL,Base.start hO,fun t e he _=>(by
   rcases zC he with ⟨rfl,rfl⟩|⟨_,he⟩
   ·exact fB 0 _ rfl
   grind),fun k e he=>(nomatch he),fun t e he=>(by
   rcases zC he with ⟨rfl,rfl⟩|⟨_,he⟩
   ·grind
   grind),fun k e he=>(nomatch he),fun k k' e e' he=>(nomatch he),fun k e he=>(nomatch he),Nat.zero_le _,Nat.zero_lt_one,fun _ _ h=>h.elim,⟨Nat.zero_le _,fun j b hj=>(nomatch hj)⟩,⟨Nat.one_ne_zero,fun _ _ h=>h.elim,fun _ _ h=>h.elim,zb.refl _ _ _,rfl⟩⟩
 have xE:∀(a':Act) (w':World),a'.defers=[]->((∃O'',J ys O'' w')\/∃O'',Jx O'' w')->bodyPost P fn (fun e w''=>e=.returned (.tuple #[])/\((∃O'',J ys O'' w'')\/∃O'',Jx O'' w'')) .normal a' w':=fun a' w' hd h=>by
  have hr:fn.results=#[]:=Array.eq_empty_of_size_eq_zero tT;exact⟨hd,.tuple #[],by simp[results,hr],rfl,h⟩
 refine(wpIn_wide (n:=0)).1 ?_
 refine WA (F:=F) (xs:=ys) (T:=ys) (rest:=[]) (acc:=[]) hGF hm hE hG c hc.1 hc.2 (by simp) hR.z eZ (Inv.refl _) hy2 rfl ⟨fun O1 w1 acc s' a' w' zs h1 h2 h3 h4 h5=>?_,fun i O1 w1 acc s' a' w' zs h1 h2 h3 h4=>(nomatch h4),fun O1 w1 acc s' a' w' zs h1 h2 h3 h4 h5=>?_⟩ ⟨fun O1 w1 s' a' w' h1 h2 h3 h4=>?_,fun i O1 w1 s' a' w' h1 h2 h3 h4=>(nomatch h4),fun O1 w1 s' a' w' h1 h2 h3 h4=>?_⟩
 ·have:=run_pure h4
  cases this
  obtain⟨X',hX'⟩:=h2;rw[zMF]at h5;subst h5;exact xE a' w' hX'.fit.defers (.inl ⟨O1,hR.ext _ _ _ _ h1 hX'.base.ext⟩)
 ·have:=run_pure h4
  cases this
  obtain⟨X',hX'⟩:=h2;rw[zMF]at h5;subst h5;exact xE a' w' hX'.fit.defers (.inl ⟨O1,hR.ext _ _ _ _ h1 hX'.base.ext⟩)
 ·obtain⟨X',hX'⟩:=h2
  exact xE a' w' hX'.fit.defers (.inr ⟨O1,hR.extx _ _ _ h1 hX'.base.ext⟩)
 ·obtain⟨X',hX'⟩:=h2
  exact xE a' w' hX'.fit.defers (.inr ⟨O1,hR.extx _ _ _ h1 hX'.base.ext⟩)
end Go.Den
end
noncomputable section
namespace Go.Den
open Go Go.RowKit Go.Eng Go.Lift
variable {α β γ δ:Type}
def rng:Nat->Nat->List Nat
 |0,_=>[]
 |m+1,j=>j::rng m (j+1)
def initK(f:FuncId)(all:List Nat)(q:Nat):(cs:List CQ)->CR cs->CB cs->Nat->Nat->LS×MS
 | [],_,_,_,_=>([],[])
 |.r t T::l,x,y,i,j=>((i,0,.bx j 0)::(initK f all q l x.2 y (i+1) (j+1)).1,(j,0,.bx false (.rd t x.1) T)::(initK f all q l x.2 y (i+1) (j+1)).2)
 |.p t T::l,x,y,i,j=>((i,0,.bx j 0)::(initK f all q l x y.2 (i+1) (j+1)).1,(j,0,.bx false (.rd t y.1) T)::(initK f all q l x y.2 (i+1) (j+1)).2)
 |.o t T' T::l,x,y,i,j=>((i,0,.bx j 0)::(initK f all q l x y.2 (i+1) (j+1)).1,(j,0,.bx false (.ob q) T)::(q,0,.sl false t T' y.1)::(initK f all q l x y.2 (i+1) (j+1)).2)
 |.s T::l,x,y,i,j=>((i,0,.bx j 0)::(initK f all q l x y (i+1) (j+1)).1,(j,0,.bx false (.cl f .un (q8 all)) T)::(initK f all q l x y (i+1) (j+1)).2)
def Jj:List CQ->List Nat->MS->Nat->Bool
 |.r _ _::l,k::ks,M,n=>(match look M k with
  |some e=>Nat.blt e.1 n
  |none=>false) && Jj l ks M n
 |_::l,_::ks,M,n=>Jj l ks M n
 |_,_,_,_=>true
def rtK(E:VE)(f:FuncId)(fs:FK)(s:S):Comp (Sum fs.zt.D (CB fs.cs)):=match gJ E.G f (rng fs.cs.length 0) s.M fs.cs (rng fs.cs.length 0) with
 |some p=>match Nat.ble p.2.2.length 1 && Jj fs.cs (rng fs.cs.length 0) s.M (fs.cs.length+2) with
  |true=>Comp.pure (.inr p.2.1)
  |false=>Comp.fail
 |none=>Comp.fail
def pnK(E:VE)(fs:FK)(s:S):Comp (Sum fs.zt.D (CB fs.cs)):=match rdO s.ep s.L [] [] (.tmp 0) with
 |some φ=>match φ.asT E.G [] fs.zt with
  |some z=>Comp.pure (.inl z)
  |none=>Comp.fail
 |none=>Comp.fail
def Rt(E:VE)(f:FuncId)(c:Code)(h:H)(fs:FK)(x:fs.ps.D)(r:CR fs.cs)(y:CB fs.cs):Comp (Sum fs.zt.D (CB fs.cs)) :=
 den E c (Sum fs.zt.D (CB fs.cs)) h ⟨Yl fs.ps x 0++(initK f (rng fs.cs.length 0) fs.cs.length fs.cs r y fs.ps.len 0).1,(initK f (rng fs.cs.length 0) fs.cs.length fs.cs r y fs.ps.len 0).2,fs.cs.length+2,0⟩ (rtK E f fs)
  (fun i s=>match Nat.beq i PL with|true=>pnK E fs s|false=>Comp.fail) (rtK E f fs)
theorem Cnt.len{P:Program}{f:FuncId}{us:List Value}{O:zR}{w:World}{G:Nat->Prop}:∀ {l:List CQ} {x:CR l} {y:CB l} {bl ts σs:List Nat} {vs:List Value},Cnt P f us O w G l x y bl ts σs vs->bl.length=l.length/\ts.length=l.length/\vs.length=σs.length
 | [],x,y,bl,ts,σs,vs,h=>by obtain⟨rfl,rfl,rfl,rfl⟩:=h;omega
 |.r t T::l,x,y,bl,ts,σs,vs,h=>by
  obtain⟨b,bl',τ,ts',cs,rfl,rfl,_,_,_,h⟩:=h;obtain⟨h1,h2,h3⟩:=h.len;grind
 |.p t T::l,x,y,bl,ts,σs,vs,h=>by
  obtain⟨b,bl',τ,ts',cs,rfl,rfl,_,_,_,h⟩:=h;obtain⟨h1,h2,h3⟩:=h.len;grind
 |.o t T' T::l,x,y,bl,ts,σs,vs,h=>by
  obtain⟨b,bl',τ,ts',σ,σs',u,vs',rfl,rfl,rfl,rfl,_,_,_,_,h⟩:=h;obtain⟨h1,h2,h3⟩:=h.len;grind
 |.s T::l,x,y,bl,ts,σs,vs,h=>by
  obtain⟨b,bl',τ,ts',rfl,rfl,_,_,h⟩:=h;obtain⟨h1,h2,h3⟩:=h.len;grind
theorem Cnt.mem{P:Program}{f:FuncId}{us:List Value}{O:zR}{w:World}{G:Nat->Prop}:∀ {l:List CQ} {x:CR l} {y:CB l} {bl ts σs:List Nat} {vs:List Value},Cnt P f us O w G l x y bl ts σs vs->(∀b∈bl,b<w.heap.size)/\ts=bl.map O
 | [],x,y,bl,ts,σs,vs,h=>by obtain⟨rfl,rfl,rfl,rfl⟩:=h;grind
 |.r t T::l,x,y,bl,ts,σs,vs,h=>by
  obtain⟨b,bl',τ,ts',cs,rfl,rfl,h1,h2,_,h⟩:=h;obtain⟨h3,h4⟩:=h.mem;refine⟨fun c hc=>?_,by grind⟩
  rcases zLd.1 hc with rfl|hc
  ·exact h1.lt
  grind
 |.p t T::l,x,y,bl,ts,σs,vs,h=>by
  obtain⟨b,bl',τ,ts',cs,rfl,rfl,h1,h2,_,h⟩:=h;obtain⟨h3,h4⟩:=h.mem;refine⟨fun c hc=>?_,by grind⟩
  rcases zLd.1 hc with rfl|hc
  ·exact h1.lt
  grind
 |.o t T' T::l,x,y,bl,ts,σs,vs,h=>by
  obtain⟨b,bl',τ,ts',σ,σs',u,vs',rfl,rfl,rfl,rfl,_,h1,h2,_,h⟩:=h;obtain⟨h3,h4⟩:=h.mem;refine⟨fun c hc=>?_,by grind⟩
  rcases zLd.1 hc with rfl|hc
  ·exact h1.lt
  grind
 |.s T::l,x,y,bl,ts,σs,vs,h=>by
  obtain⟨b,bl',τ,ts',rfl,rfl,h1,h2,h⟩:=h;obtain⟨h3,h4⟩:=h.mem;refine⟨fun c hc=>?_,by grind⟩
  rcases zLd.1 hc with rfl|hc
  ·exact h1.lt
  grind
theorem Cnt.Cm{P:Program}{f:FuncId}{us:List Value}{O O':zR}{w:World}{G G':Nat->Prop}(hk:zb 0 O w O' w):∀ {l:List CQ} {x:CR l} {y:CB l} {bl ts σs ts' σs':List Nat} {vs:List Value},Cnt P f us O w G l x y bl ts σs vs->ts'=bl.map O'->σs'.length=σs.length ->
  (∀(i:Nat) u σ',vs[i]?=some u->σs'[i]?=some σ'->∀g,u.ownBlock=some g->G g->O' g=σ'/\G' g)->Cnt P f us O' w G' l x y bl ts' σs' vs
 | [],x,y,bl,ts,σs,ts',σs',vs,h,h1,h2,h3=>by
  obtain⟨rfl,rfl,rfl,rfl⟩:=h;exact⟨rfl,h1,List.length_eq_zero_iff.1 h2,rfl⟩
 |.r t T::l,x,y,bl,ts,σs,ts',σs',vs,h,h1,h2,h3=>by
  obtain⟨b,bl',τ,iT,cs,rfl,rfl,g1,g2,g3,h⟩:=h;subst h1;exact⟨b,bl',O' b,_,cs,rfl,rfl,g1,rfl,GR.mono _ hk g3,Cnt.Cm hk h rfl h2 h3⟩
 |.p t T::l,x,y,bl,ts,σs,ts',σs',vs,h,h1,h2,h3=>by
  obtain⟨b,bl',τ,iT,cs,rfl,rfl,g1,g2,g3,h⟩:=h;subst h1;exact⟨b,bl',O' b,_,cs,rfl,rfl,g1,rfl,GR.mono _ hk g3,Cnt.Cm hk h rfl h2 h3⟩
 |.o t T' T::l,x,y,bl,ts,σs,ts',σs',vs,h,h1,h2,h3=>by
  obtain⟨b,bl',τ,iT,σ,σs0,u,vs',rfl,rfl,rfl,rfl,g0,g1,g2,g3,h⟩:=h;subst h1
  cases σs' with
  |nil=>grind
  |cons σ' σs' =>
   refine⟨b,bl',O' b,_,σ',σs',u,vs',rfl,rfl,rfl,rfl,g0,g1,rfl,?_,Cnt.Cm hk h rfl (by grind) fun i u' σ2 hu hσ=>h3 (i+1) u' σ2 (by grind) (by grind)⟩
   obtain⟨ws,k1,k2,k3⟩:=g3;have cO:=fun g hg=>h3 0 u σ' rfl rfl g hg (k3 g hg).2
   exact⟨ws,k1,k2.mono hk,cO⟩
 |.s T::l,x,y,bl,ts,σs,ts',σs',vs,h,h1,h2,h3=>by
  obtain⟨b,bl',τ,iT,rfl,rfl,g1,g2,h⟩:=h;subst h1;exact⟨b,bl',O' b,_,rfl,rfl,g1,rfl,Cnt.Cm hk h rfl h2 h3⟩
def nO:List CQ->Nat
 | []=>0
 |.o ..::l=>nO l+1
 |_::l=>nO l
theorem Cnt.nO{P:Program}{f:FuncId}{us:List Value}{O:zR}{w:World}{G:Nat->Prop}:∀ {l:List CQ} {x:CR l} {y:CB l} {bl ts σs:List Nat} {vs:List Value},Cnt P f us O w G l x y bl ts σs vs->σs.length=nO l/\∀u∈vs,∀g,u.ownBlock=some g->(O g∈σs/\G g)/\g<w.heap.size
 | [],x,y,bl,ts,σs,vs,h=>by obtain⟨rfl,rfl,rfl,rfl⟩:=h;exact⟨rfl,by simp⟩
 |.r t T::l,x,y,bl,ts,σs,vs,h=>by
  obtain⟨b,bl',τ,ts',cs,rfl,rfl,h1,h2,_,h⟩:=h;exact h.nO
 |.p t T::l,x,y,bl,ts,σs,vs,h=>by
  obtain⟨b,bl',τ,ts',cs,rfl,rfl,h1,h2,_,h⟩:=h;exact h.nO
 |.o t T' T::l,x,y,bl,ts,σs,vs,h=>by
  obtain⟨b,bl',τ,ts',σ,σs',u,vs',rfl,rfl,rfl,rfl,_,h1,h2,hO,h⟩:=h;obtain⟨h3,h4⟩:=h.nO;refine⟨by grind [Den.nO],fun v hv g hg=>?_⟩
  rcases zLd.1 hv with rfl|hv
  ·exact⟨⟨by rw[hO.tagged g hg];simp,(hO.ge g hg).1⟩,(hO.ge g hg).2⟩
  grind
 |.s T::l,x,y,bl,ts,σs,vs,h=>by
  obtain⟨b,bl',τ,ts',rfl,rfl,h1,h2,h⟩:=h;exact h.nO
theorem G3:∀ {m j k:Nat},k∈rng m j↔j<=k/\k<j+m
 |0,j,k=>by simp[rng]
 |m+1,j,k=>by simp only[rng,zLd,G3 (m:=m)];omega
theorem HY{X:Cx}:∀ {m j:Nat} {bl:List Nat},BKs X (rng m j) bl->bl.length=m/\∀(r:Nat) b,bl[r]?=some b->X.U (j+r)=.pointer (some ⟨b,0,none⟩)
 |0,j,[],_=>⟨rfl,fun r b h=>by simp at h⟩
 |0,j,_::_,h=>h.elim
 |m+1,j,[],h=>h.elim
 |m+1,j,c::bl,h=>by
  obtain⟨h1,h2⟩:=HY h.2;refine⟨by grind,fun r b hr=>?_⟩
  cases r with
  |zero=>simp at hr;subst hr;exact h.1
  |succ r=>grind
theorem mU{α:Type}{g:Nat->α}:∀ {m j:Nat} {l:List α},l.length=m->(∀(r:Nat) v,l[r]?=some v->g (j+r)=v)->(rng m j).map g=l
 |0,j,[],_,_=>rfl
 |m+1,j,v::l,hl,h=>by
  rw[rng,List.map_cons,show g j=v from h 0 v rfl,mU (l:=l) (by grind) fun r u hr=>by rw[show j+1+r=j+(r+1) by omega];simp_all]
theorem Ky{f:FuncId}{all:List Nat}{q:Nat}:∀ {l:List CQ} {x:CR l} {y:CB l} {i j t:Nat} {e:Nat×AV},look (initK f all q l x y i j).1 t=some e->∃r,r<l.length/\t=i+r/\e=(0,.bx (j+r) 0)
 | [],x,y,i,j,t,e,h=>nomatch h
 |.r T t'::l,x,y,i,j,t,e,h=>by
  rcases zC h with ⟨h1,h2⟩|⟨_,h2⟩
  ·exact⟨0,by simp,h1.symm,h2.symm⟩
  ·obtain⟨r,g1,g2,g3⟩:=Ky h2;exact⟨r+1,by grind,by omega,by grind⟩
 |.p T t'::l,x,y,i,j,t,e,h=>by
  rcases zC h with ⟨h1,h2⟩|⟨_,h2⟩
  ·exact⟨0,by simp,h1.symm,h2.symm⟩
  ·obtain⟨r,g1,g2,g3⟩:=Ky h2;exact⟨r+1,by grind,by omega,by grind⟩
 |.o T t' t2::l,x,y,i,j,t,e,h=>by
  rcases zC h with ⟨h1,h2⟩|⟨_,h2⟩
  ·exact⟨0,by simp,h1.symm,h2.symm⟩
  ·obtain⟨r,g1,g2,g3⟩:=Ky h2;exact⟨r+1,by grind,by omega,by grind⟩
 |.s T::l,x,y,i,j,t,e,h=>by
  rcases zC h with ⟨h1,h2⟩|⟨_,h2⟩
  ·exact⟨0,by simp,h1.symm,h2.symm⟩
  ·obtain⟨r,g1,g2,g3⟩:=Ky h2;exact⟨r+1,by grind,by omega,by grind⟩
theorem Kx{P:Program}{f:FuncId}{us:List Value}{all:List Nat}{q:Nat}{O:zR}{w:World}{G:Nat->Prop}{X:Cx}(hP:X.P=P)(hO:X.O=O)(hq:q<X.n)(sR:((q8 all).sem X w).l us)(hG:∀g,G g->X.A g):∀ {l:List CQ} {x:CR l} {y:CB l} {i j:Nat} {bl ts σs:List Nat} {vs:List Value},Cnt P f us O w G l x y bl ts σs vs->σs.length<=1 ->
  (∀(r:Nat) b,bl[r]?=some b->X.U (j+r)=.pointer (some ⟨b,0,none⟩))->(∀(r:Nat) τ,ts[r]?=some τ->X.ι (j+r)=τ)->(∀u,vs.head?=some u->X.U q=u)->(∀σ,σs.head?=some σ->X.ι q=σ)->(∀b∈bl,X.A b) ->
  ∀ {k:Nat} {e:Nat×MV},look (initK f all q l x y i j).2 k=some e->(e.1=0/\e.2.own=true)/\e.2.holds X w k/\((∃r,r<l.length/\k=j+r)\/(k=q/\σs≠[]))
 | [],x,y,i,j,bl,ts,σs,vs,h,h1,h2,h3,h4,h5,h6,k,e,he=>nomatch he
 |.r t T::l,x,y,i,j,bl,ts,σs,vs,h,h1,h2,h3,h4,h5,h6,k,e,he=>by
  obtain⟨b,bl',τ,iT,cs,rfl,rfl,g1,g2,g3,h⟩:=h;rcases zC he with ⟨e1,e2⟩|⟨_,e2⟩
  ·subst e1 e2
   refine⟨⟨rfl,rfl⟩,⟨b,cs,h2 0 b rfl,⟨g1,h6 b (by simp),by rw[hO,g2];exact(h3 0 τ rfl).symm⟩,?_,rfl⟩,.inl ⟨0,by simp,rfl⟩⟩
   show (t.gr X.P).rel X.O w _ _
   grind
  ·obtain⟨k1,k2,k3⟩:=Kx hP hO hq sR hG h h1 (fun r b hr=>by rw[show j+1+r=j+(r+1) by omega];simp_all) (fun r b hr=>by rw[show j+1+r=j+(r+1) by omega];simp_all) h4 h5 (fun b hb=>h6 b (by grind)) e2
   exact⟨k1,k2,k3.imp (fun ⟨r,a1,a2⟩=>⟨r+1,by grind,by omega⟩) id⟩
 |.p t T::l,x,y,i,j,bl,ts,σs,vs,h,h1,h2,h3,h4,h5,h6,k,e,he=>by
  obtain⟨b,bl',τ,iT,cs,rfl,rfl,g1,g2,g3,h⟩:=h;rcases zC he with ⟨e1,e2⟩|⟨_,e2⟩
  ·subst e1 e2
   refine⟨⟨rfl,rfl⟩,⟨b,cs,h2 0 b rfl,⟨g1,h6 b (by simp),by rw[hO,g2];exact(h3 0 τ rfl).symm⟩,?_,rfl⟩,.inl ⟨0,by simp,rfl⟩⟩
   show (t.gr X.P).rel X.O w _ _
   grind
  ·obtain⟨k1,k2,k3⟩:=Kx hP hO hq sR hG h h1 (fun r b hr=>by rw[show j+1+r=j+(r+1) by omega];simp_all) (fun r b hr=>by rw[show j+1+r=j+(r+1) by omega];simp_all) h4 h5 (fun b hb=>h6 b (by grind)) e2
   exact⟨k1,k2,k3.imp (fun ⟨r,a1,a2⟩=>⟨r+1,by grind,by omega⟩) id⟩
 |.o t T' T::l,x,y,i,j,bl,ts,σs,vs,h,h1,h2,h3,h4,h5,h6,k,e,he=>by
  obtain⟨b,bl',τ,iT,σ,σs0,u,vs',rfl,rfl,rfl,rfl,g0,g1,g2,g3,h⟩:=h;have iU:σs0=[]:=by simp_all
  subst iU;have hUq:=h4 u rfl
  rcases zC he with ⟨e1,e2⟩|⟨_,e2⟩
  ·subst e1 e2
   refine⟨⟨rfl,rfl⟩,⟨b,#[u],h2 0 b rfl,⟨g1,h6 b (by simp),by rw[hO,g2];exact(h3 0 τ rfl).symm⟩,⟨u,rfl,g0,hUq.symm,hq,g0⟩,rfl⟩,.inl ⟨0,by simp,rfl⟩⟩
  ·rcases zC e2 with ⟨e3,e4⟩|⟨_,e4⟩
   ·subst e3 e4
    refine⟨⟨rfl,rfl⟩,?_,.inr ⟨rfl,by simp⟩⟩
    show zo _ _ _ _ _ _ _ _
    rw[hUq,h5 σ rfl,hP,hO];exact zo.zIA g3 fun g hg=>hG g hg
   ·have sV:vs'=[]:=by have:=h.len.2.2;grind
    subst sV;obtain⟨k1,k2,k3⟩:=Kx hP hO hq sR hG h (by simp) (fun r b hr=>by rw[show j+1+r=j+(r+1) by omega];simp_all) (fun r b hr=>by rw[show j+1+r=j+(r+1) by omega];simp_all) (fun u hu=>by grind) (fun u hu=>by grind) (fun b hb=>h6 b (by grind)) e4
    exact⟨k1,k2,k3.imp (fun ⟨r,a1,a2⟩=>⟨r+1,by grind,by omega⟩) fun h=>zLp rfl h.2⟩
 |.s T::l,x,y,i,j,bl,ts,σs,vs,h,h1,h2,h3,h4,h5,h6,k,e,he=>by
  obtain⟨b,bl',τ,iT,rfl,rfl,g1,g2,h⟩:=h;rcases zC he with ⟨e1,e2⟩|⟨_,e2⟩
  ·subst e1 e2
   refine⟨⟨rfl,rfl⟩,⟨b,_,h2 0 b rfl,⟨g1,h6 b (by simp),by rw[hO,g2];exact(h3 0 τ rfl).symm⟩,⟨_,rfl,rfl,[],_,rfl,sR,rfl⟩,?_⟩,.inl ⟨0,by simp,rfl⟩⟩
   show (false || (q8 all).ze)=false;rw[qD];rfl
  ·obtain⟨k1,k2,k3⟩:=Kx hP hO hq sR hG h h1 (fun r b hr=>by rw[show j+1+r=j+(r+1) by omega];simp_all) (fun r b hr=>by rw[show j+1+r=j+(r+1) by omega];simp_all) h4 h5 (fun b hb=>h6 b (by grind)) e2
   exact⟨k1,k2,k3.imp (fun ⟨r,a1,a2⟩=>⟨r+1,by grind,by omega⟩) id⟩
theorem WL{f:FuncId}{all alls:List Nat}{q n:Nat}{G:FE}{M M0:MS}(fE:∀k e,look M k=some e->e.1<n->look M0 k=some e):∀ {l:List CQ} {x x':CR l} {y y':CB l} {qs:List (Option Nat)} {i j:Nat},(∀k e,j<=k->k≠q->look M0 k=some e->look (initK f all q l x y i j).2 k=some e)->j+l.length<=q->gJ G f alls M l (rng l.length j)=some (x',y',qs)->Jj l (rng l.length j) M n=true->x'=x:=by
 intro l
 induction l with
 |nil=>intro x x' y y' qs i j _ _ _ _;rfl
 |cons c l ih =>
  intro x x' y y' qs i j h0 hq hi hf;simp only[zLh]at hq
  cases c with
  |r t T =>
   simp only[zLh,rng,gJ]at hi;simp only[zLh,rng,Jj,zLZ]at hf;split at hi
   ·rename_i st nw t' x1 T' hk
    split at hi
    ·rename_i x0 p hT hc hp
     cases hi
     rw[hk]at hf;have h1:=h0 j _ (zLb _) (by omega) (fE j _ hk (by grind [za]))
     simp only[initK,look,Nat.beq_refl,cond_true,zLw,Prod.mk.injEq,MV.bx.injEq,AV.rd.injEq]at h1;obtain⟨_,_,⟨h2,h3⟩,_⟩:=h1;obtain⟨e1,e2⟩:=Ty.jN hc;have hx:x0=x.1:=by
      subst e1;have h3:=eq_of_heq h3
      rw[<-e2,h3];rfl
     have iV:p.1=x.2:=ih (x:=x.2) (i:=i+1) (j:=j+1) (fun k e x9 xB bQ=>by
      have:=h0 k e (by omega) xB bQ
      rcases zC this with ⟨g1,_⟩|⟨_,g2⟩
      ·omega
      ·exact g2) (by omega) hp hf.2
     exact Prod.ext hx iV
    ·cases hi
   ·cases hi
  |p t T =>
   simp only[zLh,rng,gJ]at hi;simp only[zLh,rng,Jj]at hf;split at hi
   ·split at hi
    ·rename_i x0 p hT hc hp
     cases hi
     exact ih (x:=x) (y:=y.2) (i:=i+1) (j:=j+1) (fun k e x9 xB bQ=>by
      have:=h0 k e (by omega) xB bQ
      rcases zC this with ⟨g1,_⟩|⟨_,g2⟩
      ·omega
      ·exact g2) (by omega) hp hf
    ·cases hi
   ·cases hi
  |s T =>
   simp only[zLh,rng,gJ]at hi;simp only[zLh,rng,Jj]at hf;split at hi
   ·split at hi
    ·rename_i p hT hc hp
     cases hi
     exact ih (x:=x) (y:=y) (i:=i+1) (j:=j+1) (fun k e x9 xB bQ=>by
      have:=h0 k e (by omega) xB bQ
      rcases zC this with ⟨g1,_⟩|⟨_,g2⟩
      ·omega
      ·exact g2) (by omega) hp hf
    ·cases hi
   ·cases hi
  |o t T' T =>
   simp only[zLh,rng,gJ]at hi;simp only[zLh,rng,Jj]at hf;have key:∀k e,j+1<=k->k≠q->look M0 k=some e->look (initK f all q l x y.2 (i+1) (j+1)).2 k=some e:=fun k e x9 xB bQ=>by
    have:=h0 k e (by omega) xB bQ
    rcases zC this with ⟨g1,_⟩|⟨_,g2⟩
    ·omega
    grind [zC]
   split at hi
   ·split at hi
    ·split at hi
     ·rename_i xs p hT1 hx hp
      cases hi
      exact ih (x:=x) (y:=y.2) (i:=i+1) (j:=j+1) key (by omega) hp hf
     ·cases hi
    ·split at hi
     ·rename_i p hn hp
      cases hi
      exact ih (x:=x) (y:=y.2) (i:=i+1) (j:=j+1) key (by omega) hp hf
     ·cases hi
    ·cases hi
   ·cases hi
theorem zEB{P:Program}{E:VE}(hE:E.ok P)(hm:P.follows .mixedOrders=true){f:FuncId}{fn:Func}{c:Code}{h:H}{fs:FK}(hF:FnOk P f)(hf:P.funcs[f]?=some fn)(hb:fn.body=some c)(hc:okC fn.ntmps c=true)(a7:ZD c=true)(tT:fn.results=#[])(hl:Nat.ble (fs.ps.len+fs.cs.length) fn.ntmps=true)(hN:Nat.blt 0 fn.ntmps=true)(hZ:fs.zT=E.Z)
  (hs:∀x c' y,Rt E f c h fs x c' y=fs.sem x c' y):fs.ok P f:=by
 refine⟨hF,fun O w hO vs x cr y bl ts σs ss G ha hC sA h0 hGG hσ n r hr=>?_⟩
 rw[<-hs x cr y]at hr;obtain⟨dR,sS,hC3⟩:=hC.len;obtain⟨hblt,htsO⟩:=hC.mem;have hA6:=Z8 ha
 have fG:=Nat.le_of_ble_eq_true hl;have fL:=ZC (vs++K3 bl).toArray fn.ntmps (by grind)
 have fB:∀(j:Nat) v,(vs++K3 bl)[j]?=some v->Act.get { tmps:=(vs++K3 bl).toArray++Array.replicate (fn.ntmps-(vs++K3 bl).toArray.size) undef,defers:=[] } j=v:=fun j v hj=>ZB (by grind)
 refine callsIn_wide.1 (callsIn_of_wp_marks (n:=0) hf hb trivial ?_);generalize ({ tmps:=(vs++K3 bl).toArray++Array.replicate (fn.ntmps-(vs++K3 bl).toArray.size) undef,defers:=[] }:Act)=a at fL fB |-
 let m:=fs.cs.length
 let all:=rng m 0
 let A:Nat->Prop:=fun b=>(b∈bl\/G b)\/w.heap.size<=b
 let U:Nat->Value:=fun k=>if k<m then .pointer (some ⟨bl.getD k 0,0,none⟩) else ss.headD .nilIface
 let ι:Nat->Nat:=fun k=>if k<m then ts.getD k 0 else σs.headD 0
 let s0:S:=⟨Yl fs.ps x 0++(initK f all m fs.cs cr y fs.ps.len 0).1,(initK f all m fs.cs cr y fs.ps.len 0).2,m+2,0⟩
 let X:Cx:=⟨P,O,U,m+2,ι,A,Go.Lift.Fr w,0,0⟩
 obtain⟨st,⟨iR,_⟩,fZ⟩:=ZN ι s0.M 0
 let F:Frm:=⟨P,fn.ntmps,[],A,O,w,fun _ _=>False,0,bl,{ FrX.no st O w with nr:=true }⟩
 have hU:∀(r:Nat) b,bl[r]?=some b->U r=.pointer (some ⟨b,0,none⟩):=fun r b hr=>by
  grind
 have hι:∀(r:Nat) τ,ts[r]?=some τ->ι r=τ:=fun r τ hr=>by
  grind
 have hUm:∀u,ss.head?=some u->U m=u:=fun u hu=>by
  grind
 have hιm:∀σ,σs.head?=some σ->ι m=σ:=fun u hu=>by
  grind
 have hptr:∀k∈all,k<X.n/\∃b,X.U k=.pointer (some ⟨b,0,none⟩):=fun k hk=>by
  have:=G3.1 hk;have gF:k<bl.length:=by omega
  exact⟨by grind,_,hU k _ (zMD gF)⟩
 have cQ:all.map X.U=K3 bl:=mU (by grind) fun r v hr=>by
  grind
 have sR:((q8 all).sem X w).l (K3 bl):=by grind [qe]
 have hM:=fun {k e}=>Kx (X:=X) (q:=m) (all:=all) (i:=fs.ps.len) (j:=0) rfl rfl (by grind) sR (fun g hg=>.inl (.inr hg)) hC hσ (fun r b hr=>by grind) (fun r b hr=>by grind) hUm hιm (fun b hb=>.inl (.inl hb)) (k:=k) (e:=e)
 have cF:∀ {k e},look s0.M k=some e->(∃t,(ts++σs)[k]?=some t/\ι k=t)/\k<m+1:=fun {k e} he=>by
  obtain⟨_,_,h3⟩:=hM he;rcases h3 with ⟨r,h4,h5⟩|⟨h4,h5⟩
  ·grind
  ·subst h4
   cases σs with
   |nil=>grind
   |cons σ σs=>exact⟨⟨σ,by rw[zLo (by omega),sS];simp[m],hιm σ rfl⟩,zLl _⟩
 have hL:∀ {t e},look s0.L t=some e->e.1=0/\e.2.holds X w (a.get t):=fun {t e} he=>by
  rcases gD he with h1|⟨_,h1⟩
  ·exact Z5 (X:=X) (a:=a) (i:=0) rfl rfl ha (fun j v hj=>by grind) h1
  ·obtain⟨q,h2,h3,h4⟩:=Ky h1
   subst h3 h4;have gF:q<bl.length:=by omega
   have hg:=fB (fs.ps.len+q) (.pointer (some ⟨bl[q],0,none⟩)) (by rw[zLo (by omega),hA6,Nat.add_sub_cancel_left];simp[gF])
   refine⟨rfl,by grind,bl[q],?_,?_⟩
   ·grind
   ·rw[hg]
 have hX0:RelX F s0 a w X:=by
  refine⟨rfl,rfl,rfl,rfl,rfl,hO,fL,⟨rfl,rfl,rfl,zLb _,fun _ _ _=>rfl,hO,fun _ _ _=>rfl,fun _ _ h=>h,fun b hb=>.inr hb⟩,fun t e he _=>(hL he).2,fun k e he=>(hM he).2.1,fun t e he=>by grind,fun k e he=>⟨by grind,by grind⟩,fun k k' e e' he he' _ _ fV=>?_,fun k e he _=>⟨fun hz=>?_,fZ k e he⟩,Nat.zero_le _,Nat.succ_pos _,fun _ _ h=>h.elim,⟨by grind,fun j b hj=>hU j b hj⟩,?_⟩
  ·obtain⟨⟨t,a1,a2⟩,_⟩:=cF he
   obtain⟨⟨t',b1,b2⟩,_⟩:=cF he';have fV:ι k=ι k':=fV
   rw[a2,b2]at fV;subst fV;exact(List.getElem?_inj (zLf.1 a1).1 sA).1 (a1.trans b1.symm)
  ·obtain⟨⟨t,a1,a2⟩,_⟩:=cF he
   grind
  ·exact⟨iR,fun _ _ h=>h.elim,fun _ _ h=>h.elim,zb.refl _ _ _,rfl⟩
 have hWA:∀b,b<w.heap.size->¬(b∈bl\/G b)->¬A b:=fun b hb hn hA=>hA.elim hn fun h=>zLp hb (Nat.not_lt.2 h)
 have hWnz:∀b,(b∈bl\/G b)->O b≠0:=fun b hW hz=>by
  grind
 -- tags at the end
 have sF:∀ {X':Cx} {w':World} (g0:Option Nat) (σ:Nat),Base A O w X'.O w'->(∀g,g0=some g->X'.O g≠0/\g<w'.heap.size)->∃O'':zR,zb 0 X'.O w' O'' w'/\KeepK (fun b=>b∈bl\/G b) O w O'' w'/\(∀b,b<w.heap.size->O'' b=O b)/\∀g,g0=some g->w.heap.size<=g->O'' g=σ:=by
  intro X' w' g0 σ hB hg0;refine⟨fun b=>if b<w.heap.size then O b else if g0=some b then σ else X'.O b,⟨zLb _,fun b hb hz=>⟨?_,rfl⟩⟩,⟨hB.os,hB.tape,hB.output,hB.size,fun b hb hn=>hB.block b hb (hWA b hb hn),fun b hb _=>zLz hb,fun b hb hW=>?_,fun b hb=>?_⟩,fun b hb=>zLz hb,fun g hg tW=>?_⟩
  ·show (if b<w.heap.size then O b else if g0=some b then σ else X'.O b)=0
   split
   ·exact hB.zero b hb hz
   grind
  ·grind
  ·have tW:=hB.size
   show (if b<w.heap.size then O b else if g0=some b then σ else X'.O b)=0
   rw[zMA (by omega),zMA fun e=>by grind]
   exact hB.ok b hb
  grind
 have xM:∀F' s' a' w',F.To F'->Rel F' s' a' w'->Inv s0 s'->(rtK E f fs s').run n=some r->LeavesInM Fence.wide 0 P fn a'.tmps (fs.post P f cr O w bl ts σs G r) a'.defers .returning w':=by
  intro F' s' a' w' hT h' hi hr;have aA:=hT.nr rfl
  subst aA;refine leaves (.refl F) rfl (fun _ _ h=>h) (zLb _) h' fun q n' ep' w2 hX'=>?_
  obtain⟨X',hX'⟩:=hX';have hP:X'.P=P:=hX'.P
  have hE':E.ok X'.P:=by grind
  unfold rtK at hr;split at hr
  ·rename_i p hp
   split at hr
   ·rename_i dF
    rw[zLZ]at dF;have e:=run_pure hr
    subst e;have hfk:=dF.2
    have dF:=Nat.le_of_ble_eq_true dF.1;obtain⟨i1,i2,bl2,ss2,i3,i4⟩:=Kn (fr:=0) hE'.G hX'.m hp;obtain⟨tC,aF⟩:=HY i3;have hbl2:bl2=bl:=by
     refine List.ext_getElem? fun r=>?_
     by_cases hr:r<m
     ·have e1:bl2[r]?=some bl2[r]:=zMD (by omega)
      have e2:bl[r]?=some bl[r]:=zMD (by omega)
      have q1:=aF r _ e1;have q2:=hX'.bl.2 r _ e2
      rw[Nat.zero_add,q2]at q1;simp only[Value.pointer.injEq,zLw,Addr.mk.injEq,and_true]at q1;rw[e1,e2,q1]
     ·rw[List.getElem?_eq_none (by omega),List.getElem?_eq_none (by omega)]
    subst hbl2;have hus':(rng m 0).map X'.U=K3 bl2:=mU (by simp[tC];rfl) fun r v hr=>by
     rw[List.getElem?_map,Option.map_eq_some_iff]at hr;obtain⟨b,hb,rfl⟩:=hr;exact aF r b hb
    have hC':=i4 (lr X' p.2.2) fun g hg=>hg
    have aU:p.1=cr:=WL (f:=f) (all:=all) (q:=m) (x:=cr) (y:=y) (i:=fs.ps.len) (j:=0) hi.m (fun k e _ _ h=>h) (by omega) hp hfk
    rw[aU]at hC';rw[hus',hP]at hC';obtain⟨n1,n2⟩:=hC'.nO;have n3:=hC.nO.1
    have cG:Base A O w X'.O w2:=hX'.base
    -- its slice
    have xP:∀g,lr X' p.2.2 g->A g/\X'.O g≠0/\g ∉ bl2:=fun g hg=>by
     obtain⟨j,hj,hg⟩:=hg;obtain⟨st',nw,t,T',xs',hl'⟩:=i2 j hj;have hOj:=hX'.m j _ hl'
     change zo (X'.ι j) (t.gr X'.P) T' (X'.B nw) X'.O w2 (X'.U j) xs' at hOj
     refine⟨(hX'.okB nw).sub _ (hOj.ge g hg).1,by rw[hOj.tagged g hg];exact(hX'.pos j _ hl' rfl).1,fun hm=>?_⟩
     obtain⟨k,x9,xB⟩:=i3.mem g hm;obtain⟨st2,nw2,c2,T2,bQ⟩:=i1 k x9;obtain⟨b',cs',k1,k2,k3,k4⟩:=hX'.m k _ bQ;rw[xB]at k1;simp only[Value.pointer.injEq,zLw,Addr.mk.injEq,and_true]at k1;subst k1;have:=hX'.inj j k _ _ hl' bQ rfl rfl ((hOj.tagged g hg).symm.trans k2.tag)
     subst this;rw[hl']at bQ;cases bQ
    have hss:∀u∈ss2,∀g,u.ownBlock=some g->lr X' p.2.2 g/\g<w2.heap.size:=fun u hu g hg=>⟨(n2 u hu g hg).1.2,(n2 u hu g hg).2⟩
    obtain⟨O'',q1,q2,q3,q4⟩:=sF (X':=X') (w':=w2) (ss2.head?.bind Value.ownBlock) (σs.headD 0) cG fun g hg=>by
     cases ss2 with
     |nil=>cases hg
     |cons u ss2=>exact⟨(xP g (hss u (by simp) g hg).1).2.1,(hss u (by simp) g hg).2⟩
    refine⟨_,by simp[results,tT];rfl,O'',q2,⟨_,rfl⟩,ss2,Cnt.Cm q1 hC' ?_ (by omega) fun i u σ' hu hσ' g hg hQ=>?_⟩
    ·rw[htsO];exact List.map_congr_left fun b hb=>(q3 b (hblt b hb)).symm
    ·have hi:i=0:=by have:=(zLf.1 hσ').1;omega
     subst hi;obtain⟨h1,h2,h3⟩:=xP g hQ;have hσh:σs.headD 0=σ':=by cases σs with|nil=>simp at hσ'|cons _ _=>simpa using hσ'
     by_cases gF:g<w.heap.size
     ·have hGg:G g:=by
       rcases h1 with (h1|h1)|h1
       ·exact zLp h1 h3
       ·exact h1
       ·omega
      refine⟨?_,.inr hGg⟩;rw[q3 g gF];have sT:=(hGG g hGg).2
      cases σs with
      |nil=>cases sT
      |cons σ σs =>
       cases σs with
       |nil=>simp at sT hσ';omega
       |cons _ _=>simp at hσ
     ·refine⟨?_,.inl (Nat.le_of_not_lt gF)⟩
      rw[q4 g ?_ (Nat.le_of_not_lt gF),hσh]
      cases ss2 with
      |nil=>simp at hu
      |cons v ss2=>simp at hu;subst hu;exact hg
   ·cases hr
  ·cases hr
 refine Yu c (F:=F) hm (fun _ _ h=>h) hE hc (.inr a7) rfl ⟨X,hX0⟩ (Inv.refl _) hr ⟨fun F' s' a' w' h0 h1 hi h2=>xM F' s' a' w' h0 h1 hi h2,fun i fD F' s' a' w' _ _ _ h2=>?_,fun F' s' a' w' h0 h1 hi h2=>xM F' s' a' w' h0 h1 hi h2,fun F' s' a'' v0 w' hT h1 _ h2=>?_⟩
 ·rw[show Nat.beq i PL=false by rw[zU];grind]at h2;cases h2
 ·have aA:=hT.nr rfl
  subst aA;obtain⟨X',hX'⟩:=h1;have hP:X'.P=P:=hX'.P
  rw[Nat.beq_refl]at h2
  change (pnK E fs s').run n=some r at h2
  unfold pnK at h2;split at h2
  ·rename_i φ oA
   split at h2
   ·rename_i z hz
    have e:=run_pure h2;subst e;have hdd:a''.defers=[]:=(Act.put_defers a'' (some 0) v0).symm.trans hX'.fit.defers
    show LeavesInM Fence.wide 0 P fn a''.tmps _ a''.defers (.panicking _) w'
    rw[hdd];rw[<-hX'.ep]at oA;have hv:=hX'.rd #[.tmp 0] (.tmp 0) _ (by simp) oA
    change φ.holds X' w' ((a''.put (some 0) v0).get 0) at hv
    rw[yZ (wV hX'.fit) (tD hN)]at hv;obtain⟨O'',q1,q2,_,_⟩:=sF (X':=X') (w':=w') none 0 hX'.base fun g hg=>nomatch hg
    refine⟨O'',q2,v0,?_,?_⟩
    ·rw[hZ]
    ·have hE':E.ok X'.P:=by grind
     have:=GR.yu _ (AV.Z7 hE'.G (M:=[]) (fun k e he=>nomatch he) hz hv) q1
     grind
   ·cases h2
  ·cases h2
def cl:Code->Code
 |.seq a _=>a
 |c=>c
def cr:Code->Code
 |.seq _ b=>b
 |c=>c
def opsOf:Code->List Oper
 |.region _ ops _=>ops.toList
 |_=>[]
structure RecG(P:Program)(g:FuncId)(gn:Func)(R0 rest:Code)(m se so:Nat)(T:TypeId)(zt:Ty):Prop where
 fn:P.funcs[g]?=some gn
 ok:FnOk P g
 body:gn.body=some (.seq R0 rest)
 res:gn.results=#[]
 sl:m<=se/\m<=so/\se≠so
 pan:∀(caps:List Value),caps.length=m->∀(c₀:Frame) cs w v,(∃O w z,(zt.gr P).v O w v z)->c₀.mode=.panicking [{ v:=.iface T v,recovered:=false }]->∀Q:Exit->Act->List Frame->World->Prop,
  (∀a1 w1,Ext w w1->a1.fitD gn.ntmps []->(∀(i:Nat) u,caps[i]?=some u->a1.get i=u)->a1.get se=v->a1.get so=.bool true->Q .normal a1 ({ c₀ with mode:=.panicking [{ v:=.iface T v,recovered:=true }] }::cs) w1) ->
  R0.wpSIn Fence.wide 0 P Q { tmps:=caps.toArray++Array.replicate (gn.ntmps-caps.toArray.size) undef,defers:=[] } (c₀::cs) w
 ret:∀(caps:List Value),caps.length=m->∀(c₀:Frame) cs w,c₀.mode=.returning->∀Q:Exit->Act->List Frame->World->Prop,
  (∀a1 w1,Ext w w1->a1.fitD gn.ntmps []->(∀(i:Nat) u,caps[i]?=some u->a1.get i=u)->a1.get so=.bool false->Q .normal a1 (c₀::cs) w1) ->
  R0.wpSIn Fence.wide 0 P Q { tmps:=caps.toArray++Array.replicate (gn.ntmps-caps.toArray.size) undef,defers:=[] } (c₀::cs) w
def Hm(n:Nat):List Nat->Nat->LS
 | [],_=>[]
 |k::l,i=>(i,n,.bx k 0)::Hm n l (i+1)
theorem pd{n:Nat}:∀ {l:List Nat} {i t:Nat} {e:Nat×AV},look (Hm n l i) t=some e->∃r k,l[r]?=some k/\t=i+r/\e=(n,.bx k 0)
 | [],_,_,_,h=>nomatch h
 |k::l,i,t,e,h=>by
  rcases zC h with ⟨h1,h2⟩|⟨_,h2⟩
  ·exact⟨0,k,rfl,h1.symm,h2.symm⟩
  ·obtain⟨r,k',g1,g2,g3⟩:=pd h2;exact⟨r+1,k',g1,by omega,g3⟩
def AJ(E:VE)(rest:Code)(hG:H)(se so:Nat)(ks:List Nat)(s:S)(e:AV)(ok:Bool)(k:S->Comp β):Comp β :=
 den E rest β hG ⟨Hm s.n ks 0++[(se,s.n,e),(so,s.n,.rd .bool ok)],s.M,s.n+1,s.ep⟩ (fun s2=>k (s2.back (Jh s.n s.L)).tick) (fun _ _=>Comp.fail) (fun s2=>k (s2.back (Jh s.n s.L)).tick)
def zEl(T:TypeId)(v:Value):Bool->FrameMode
 |true=>.panicking [{ v:=.iface T v,recovered:=false }]
 |false=>.returning
section
variable {F:Frm} {E:VE}
theorem QV{g:FuncId}{gn:Func}{R0 rest:Code}{m se so:Nat}{T:TypeId}{zt:Ty}{P:Program}(hP:F.P=P)(hg:RecG P g gn R0 rest m se so T zt)(hm:P.follows .mixedOrders=true)(hE:E.ok P)(kA:okC gn.ntmps rest=true)(a7:ZD rest=true)(fC:∀t φ,¬F.Lh t φ)(sD:F.x.sb=F.w0.heap.size)(tS:F.x.rd=none)(hxn:F.x.nr=true)
  {ks:List Nat} {us:List Value} (dY:ks.length=m) (cQ:us.length=m) (sR:∀(i k:Nat) u,ks[i]?=some k->us[i]?=some u->F.x.kv u (.bx k 0)) (hD:F.D=[{ target:=.fn (.func g) us.toArray,args:=#[] }])
  {fn:Func} {R:Ending->World->Prop} {s:S} {a:Act} {w:World} (hR:Rel F s a w) {e:AV} {ok:Bool} {v:Value} (he:ok=true->e.ze=false/\(∃O w z,(zt.gr P).v O w v z)/\∃X,RelX F s a w X/\e.holds X w v) (hft:ok=false->e=.top) {hG:H} {k:S->Comp β} {nf:Nat} {y:β} (hr:(AJ E rest hG se so ks s e ok k).run nf=some y)
  (hk:∀s' w',Rel F s' a w'->(k s').run nf=some y->∃v,(results fn a.tmps).run P w'=.ok v w'/\R (.returned v) w') :
  LeavesInM Fence.wide 0 P fn a.tmps R a.defers (zEl T v ok) w:=by
 subst hP
 -- what is known in all
 obtain⟨X,hX,heX⟩:∃X,RelX F s a w X/\(ok=true->e.holds X w v):=by
  cases ok with
  |true=>grind
  |false=>obtain⟨X,h1⟩:=hR;grind
 have hef:e.ze=false:=by
  cases ok with
  |true=>grind
  |false=>rw[hft rfl];rfl
 rw[show a.defers=F.D from hX.fit.defers,hD]
 obtain⟨gn',k1,k2,k3⟩:=hg.ok.h;have hinv:(invoke (Target.fn (.func g) us.toArray) #[]).run F.P w=.ok (.enter g us.toArray) w:=by
  grind [invoke,callFunc,run_program,Sem.run_bind,Sem.run_pure,Result.andThen]
 let L1:=Jh s.n s.L
 have oZ:∀t e,look L1 t=some e->e.2.ze=false:=fun t e he=>(jG he).1
 let kv1:Value->AV->Prop:=fun u φ=>F.x.kv u φ\/∃t e,look L1 t=some e/\u=a.get t/\φ=e.2
 let F1:Frm:={ F with N:=gn.ntmps,D:=[],x:={ F.x with kv:=kv1 } }
 have hXn:∀t e,look L1 t=some e->e.2.holds X w (a.get t):=fun t e he=>by
  rcases(jG he).2 with h1|h1
  ·exact hX.l t e h1 (by grind [fresh])
  ·rw[h1];trivial
 -- behind its first region
 have xK:∀(a1:Act) (w1:World) (cs':List Frame) (c₀:Frame) (cs:List Frame) (u':FrameMode),Ext w w1->a1.fitD gn.ntmps []->(∀(i:Nat) u,us[i]?=some u->a1.get i=u)->(ok=true->a1.get se=v)->a1.get so=.bool ok->cs'={ c₀ with mode:=u' }::cs->settle u'=.returning ->
   rest.wpSIn Fence.wide 0 F.P (bodyPostS F.P gn c₀ cs fun e u w=>match e with
    |.returned _=>LeavesInM Fence.wide 0 F.P fn a.tmps R [] (settle u) w
    |.panicked chain=>LeavesInM Fence.wide 0 F.P fn a.tmps R [] (raised u chain) w
    |.outgrown=>R .outgrown w) a1 cs' w1:=by
  intro a1 w1 cs' c₀ cs u' fX fL hC4 hse hso xG xV;subst xG;have xR:=hX.ext fX
  have fG:X.le w X w1:=X.le_ext fX
  let X2:Cx:={ X with n:=s.n+1 }
  have bH:X.le w X2 w1:=⟨rfl,zb.ext fX,fun _ _=>rfl,by rw[hX.n];grind,rfl⟩
  have hle3:X.le w1 X2 w1:=⟨rfl,zb.refl _ _ _,fun _ _=>rfl,by rw[hX.n];grind,rfl⟩
  have hex:Exx F1.x X2 w1:=⟨xR.ex.st,xR.ex.sys,fun u φ hu=>by
   rcases hu with hu|⟨t,e,he,rfl,rfl⟩
   ·have h1:=xR.ex.kv u φ hu
    exact⟨h1.1,φ.le h1.1 hle3 h1.2⟩
   ·exact⟨oZ t e he,e.2.le (oZ t e he) bH (hXn t e he)⟩,xR.ex.since,xR.ex.L⟩
  have hL2:∀t e',look (Hm s.n ks 0++[(se,s.n,e),(so,s.n,.rd .bool ok)]) t=some e'->e'.1=s.n/\e'.2.holds X2 w1 (a1.get t):=fun t e' he'=>by
   rcases gD he' with h1|⟨_,h1⟩
   ·obtain⟨r,k,q1,q2,q3⟩:=pd h1
    subst q2 q3;have gF:r<us.length:=by grind
    have hu:=zMD gF;have hb:=(hex.kv _ _ (.inl (sR r k _ q1 hu))).2
    grind
   ·rcases zC h1 with ⟨q1,q2⟩|⟨_,h2⟩
    ·subst q1 q2
     refine⟨rfl,?_⟩
     cases ok with
     |true=>show e.holds X2 w1 (a1.get se);rw[hse rfl];exact e.le hef bH (heX rfl)
     |false=>show e.holds X2 w1 _;rw[hft rfl];trivial
    ·rcases zC h2 with ⟨q1,q2⟩|⟨_,h3⟩
     ·subst q1 q2
      refine⟨rfl,?_⟩;rw[hso];exact kO.2 rfl
     ·cases h3
  have x8:RelX { F with x:=F.x } ⟨s.L,s.M,s.n+1,s.ep⟩ a w1 X2:=xR.go xR.fit rfl rfl rfl (fun _ _=>zb.refl _ _ _) (fun _ _=>rfl) rfl xR.ep (zLk _) (Nat.le_succ_of_le xR.epn) xR.base (fun hf=>⟨hf,Ext.refl _⟩) (fun _ _ _=>rfl) (fun t e he=>.inr ⟨he,rfl,fun _ hf=>⟨hf,Ext.refl _⟩⟩) (fun k e he=>.inr ⟨he,rfl,fun _=>zb.refl _ _ _⟩) xR.inj xR.pos
  have hA7:RelX F1 ⟨Hm s.n ks 0++[(se,s.n,e),(so,s.n,.rd .bool ok)],s.M,s.n+1,s.ep⟩ a1 w1 X2 :=
   x8.conv (F':=F1) (L':=Hm s.n ks 0++[(se,s.n,e),(so,s.n,.rd .bool ok)]) rfl rfl rfl rfl fC rfl rfl rfl fL (fun t e he _=>(hL2 t e he).2) (fun t e he=>by grind) hex
  have hfin:∀F2 s2 a2 w2,F1.To F2->Rel F2 s2 a2 w2->Inv ⟨Hm s.n ks 0++[(se,s.n,e),(so,s.n,.rd .bool ok)],s.M,s.n+1,s.ep⟩ s2->(k (s2.back (Jh s.n s.L)).tick).run nf=some y->a2.defers=[]/\∃v,(results gn a2.tmps).run F.P w2=.ok v w2/\LeavesInM Fence.wide 0 F.P fn a.tmps R [] (settle u') w2:=by
   intro F2 s2 a2 w2 hT ⟨Xc,bG⟩ hi xB;have aA:=hT.nr hxn
   subst aA;refine⟨bG.fit.defers,_,by simp[results,hg.res];rfl,?_⟩
   rw[xV];have cU:RelX F (s2.back L1) a w2 Xc:=by
    refine bG.conv (F':=F) (L':=L1) rfl rfl rfl rfl fC rfl rfl rfl hX.fit (fun t e he _=>?_) (fun t e he=>?_) ⟨bG.ex.st,bG.ex.sys,fun u φ hu=>bG.ex.kv u φ (.inl hu),bG.ex.since,bG.ex.L⟩
    ·exact(bG.ex.kv _ _ (.inr ⟨t,e,he,rfl,rfl⟩)).2
    ·have gF:e.1<s.n+1:=by
      rcases(jG he).2 with h1|h1
      ·exact Nat.lt_succ_of_lt (hX.ln t e h1)
      grind
     exact zLm gF hi.le
   have m9:RelX F (s2.back L1).tick a w2 { Xc with n:=s2.n+1,ep:=s2.n }:=by
    refine cU.go cU.fit rfl rfl rfl (fun _ _=>zb.refl _ _ _) (fun _ _=>rfl) rfl rfl (zLk _) (zLk _) cU.base (fun hf=>zLp (hf:s2.n<=F.fe) (Nat.not_le.2 cU.fe)) (fun _ _ _=>rfl) (fun t e he=>.inr ⟨he,rfl,fun f8 _=>?_⟩) (fun k e he=>.inr ⟨he,rfl,fun _=>zb.refl _ _ _⟩) cU.inj cU.pos
    rw[oZ t e he]at f8;cases f8
   exact hk _ _ ⟨_,m9⟩ xB
  have hden:rest.wpIn Fence.wide 0 F.P (fun e a' w'=>bodyPostS F.P gn c₀ cs (fun e u w=>match e with
    |.returned _=>LeavesInM Fence.wide 0 F.P fn a.tmps R [] (settle u) w
    |.panicked chain=>LeavesInM Fence.wide 0 F.P fn a.tmps R [] (raised u chain) w
    |.outgrown=>R .outgrown w) e a' ({ c₀ with mode:=u' }::cs) w') a1 w1:=by
   have hd:=Yu rest (F:=F1) (Q:=fun e a' w'=>bodyPostS F.P gn c₀ cs (fun e u w=>match e with
    |.returned _=>LeavesInM Fence.wide 0 F.P fn a.tmps R [] (settle u) w
    |.panicked chain=>LeavesInM Fence.wide 0 F.P fn a.tmps R [] (raised u chain) w
    |.outgrown=>R .outgrown w) e a' ({ c₀ with mode:=u' }::cs) w') hm fC hE kA (.inr a7) sD ⟨X2,hA7⟩ (Inv.refl _) hr ⟨fun F2 s2 a2 w2 h0 h1 h2 h3=>?_,fun i fD F2 s2 a2 w2 _ _ _ h3=>(nomatch h3),fun F2 s2 a2 w2 h0 h1 h2 h3=>?_,fun F2 s2 a2 _ w2 _ _ _ h3=>(nomatch h3)⟩
   ·unfold Frm.wp at hd
    change rest.wpIn (fw F.x.rd) 0 F.P _ a1 w1 at hd
    rw[tS]at hd;exact hd
   ·obtain⟨q1,v',q2,q3⟩:=hfin F2 s2 a2 w2 h0 h1 h2 h3
    exact⟨q1,u',rfl,v',q2,q3⟩
   ·obtain⟨q1,v',q2,q3⟩:=hfin F2 s2 a2 w2 h0 h1 h2 h3
    exact⟨q1,u',rfl,v',q2,q3⟩
  exact wpSIn_of_wpIn rfl hden
 cases ok with
 |true =>
  refine⟨by simp[zEl],.inr ⟨fun h=>by grind [Fence.wide],.func g,us.toArray,g,us.toArray,rfl,hinv,fun _ _=>trivial,?_⟩⟩
  refine callsDIn_of_wpSIn (n:=0) hg.fn hg.body trivial fun c₀ cs hu=>?_
  refine wpSIn_seq (hg.pan us cQ c₀ cs w v (he rfl).2.1 hu _ fun a1 w1 q1 q2 q3 q4 q5=>?_)
  exact xK a1 w1 _ c₀ cs _ q1 q2 q3 (fun _=>q4) q5 rfl rfl
 |false =>
  refine⟨by simp[zEl],.inr ⟨fun h=>by grind [Fence.wide],.func g,us.toArray,g,us.toArray,rfl,hinv,fun _ _=>trivial,?_⟩⟩
  refine callsDIn_of_wpSIn (n:=0) hg.fn hg.body trivial fun c₀ cs hu=>?_
  refine wpSIn_seq (hg.ret us cQ c₀ cs w hu _ fun a1 w1 q1 q2 q3 q5=>?_)
  refine xK a1 w1 _ c₀ cs .returning q1 q2 q3 (fun h=>nomatch h) q5 ?_ rfl
  have hu:c₀.mode=.returning:=hu;rw[<-hu]
end
theorem RelX.zFO{F:Frm}{s:S}{a:Act}{w:World}{X:Cx}{d:Nat}{v:Value}(h:RelX F s (a.put (some d) v) w X)(fC:∀t φ,¬F.Lh t φ):RelX F (s.put (some d) .top) a w { X with n:=s.n+1 }:=by
 refine h.go (wV h.fit) rfl rfl rfl (fun _ _=>zb.refl _ _ _) (fun _ _=>rfl) rfl h.ep (zLk _) (Nat.le_succ_of_le h.epn) h.base (fun hf=>⟨hf,Ext.refl _⟩) (fun t φ hp=>zLp hp (fC t φ)) (fun u e he=>?_) (fun k e he=>.inr ⟨he,rfl,fun _=>zb.refl _ _ _⟩) h.inj h.pos
 rcases zC he with ⟨h1,h2⟩|⟨h1,h2⟩
 ·subst h1 h2;exact .inl ⟨zLl _,fun _=>trivial⟩
 ·exact .inr ⟨h2,(vk h1 v).symm,fun f8 hf=>⟨hf,Ext.refl _⟩⟩
def dfD(E:VE)(g:FuncId)(m:Nat)(ops:List Oper)(s:S)(k:List Nat->S->Comp β):Comp β:=match ops with
 | [o,p]=>match p.op with
  |.defer c=>match c.callee with
   |.value x=>match c.args.toList,o.guard.isNone && (p.guard.isNone && (p.dst.isNone && Cw [o])) with
    | [],true=>step E (wrS ops) s o fun s1=>match rdO s1.ep s1.L [] [] x with
     |some (.cl f a b)=>match Nat.beq f g && W7 a,nZ b with
      |true,some ks=>match Nat.beq ks.length m with
       |true=>k ks s1
       |false=>Comp.fail
      |_,_=>Comp.fail
     |_=>Comp.fail
    |_,_=>Comp.fail
   |_=>Comp.fail
  |_=>Comp.fail
 |_=>Comp.fail
def exR(E:VE)(zt:Ty)(rest:Code)(hG:H)(se so:Nat)(ks:List Nat)(k:S->Comp β)(i:Nat)(s:S):Comp β:=match Nat.beq i PL with
 |true=>match rdO s.ep s.L [] [] (.tmp 0) with
  |some φ=>match φ.asT E.G [] zt with
   |some z=>AJ E rest hG se so ks (s.put (some 0) .top) (.rd zt z) true k
   |none=>Comp.fail
  |none=>Comp.fail
 |false=>Comp.fail
def Rm(E:VE)(A B:Code)(dops:List Oper)(C:Code)(hA hB hC:H)(rest:Code)(hG:H)(g:FuncId)(m se so:Nat)(zt:Ty)(l:List ResultVar)(ps rs:Ty)(rk:List (Option TypeId))(x:ps.D):Comp rs.D :=
 den E A rs.D hA ⟨Yl ps x 0,[],1,0⟩ (fun s=>den E B rs.D hB s (fun s=>dfD E g m dops s fun ks s=>den E C rs.D hC s (fun s=>AJ E rest hG se so ks s .top false (rtF E rk rs l)) (exR E zt rest hG se so ks (rtF E rk rs l)) (fun s=>AJ E rest hG se so ks s .top false (rtF E rk rs l)))
  (fun _ _=>Comp.fail) (rtF E rk rs l)) (fun _ _=>Comp.fail) (rtF E rk rs l)
theorem zDw{P:Program}{E:VE}(hE:E.ok P)(hm:P.follows .mixedOrders=true){f:FuncId}{fn:Func}{A B C:Code}{id:Nat}{dops:List Oper}{hA hB hC:H}{fs:FS}(hF:FnOk P f)(hf:P.funcs[f]?=some fn)(hb:fn.body=some (.seq A (.seq B (.seq (.region id dops.toArray false) C))))
  (hcA:okC fn.ntmps A=true) (hcB:okC fn.ntmps B=true) (hcC:okC fn.ntmps C=true) (a7:(ZD A && (ZD B && ZD C))=true) (hdd:zz fn.ntmps dops=true) (hl:Nat.ble fs.ps.len fn.ntmps=true) (hN:Nat.blt 0 fn.ntmps=true)
  {g:FuncId} {gn:Func} {R0 rest:Code} {m se so:Nat} {zt:Ty} (hg:RecG P g gn R0 rest m se so E.Z zt) {hG:H} (hcG:okC gn.ntmps rest=true) (hnG:ZD rest=true)
  (hs:∀x,Rm E A B dops C hA hB hC rest hG g m se so zt fn.results.toList fs.ps fs.rs fs.rk x=fs.sem x):fs.ok P f:=by
 refine⟨hF,fun O w hO vs x ha n y hy=>?_⟩
 rw[<-hs x]at hy;simp only[zLZ]at a7;have fL:=ZC vs.toArray fn.ntmps (by have:=Z8 ha;simp_all)
 have fB:∀(j:Nat) v,vs[j]?=some v->Act.get { tmps:=vs.toArray++Array.replicate (fn.ntmps-vs.toArray.size) undef,defers:=[] } j=v:=fun j v hj=>ZB (by grind)
 refine callsIn_wide.1 (callsIn_of_wp_marks (n:=0) hf hb trivial ?_);generalize ({ tmps:=vs.toArray++Array.replicate (fn.ntmps-vs.toArray.size) undef,defers:=[] }:Act)=a at fL fB |-
 let F:Frm:=⟨P,fn.ntmps,[],Go.Lift.Fr w,O,w,fun _ _=>False,0,[],{ FrX.no 1 O w with nr:=true }⟩
 let X:Cx:=⟨P,O,fun _=>.nilIface,1,fun k=>k,Go.Lift.Fr w,Go.Lift.Fr w,0,0⟩
 have hR:Rel F ⟨Yl fs.ps x 0,[],1,0⟩ a w:=by
  have fE:=fun {u e}=>Z5 (X:=X) (a:=a) (i:=0) rfl rfl ha (fun j v hj=>by grind) (u:=u) (e:=e)
  refine⟨X,rfl,rfl,rfl,rfl,rfl,hO,fL,Base.start hO,fun t e he _=>(fE he).2,fun k e he=>(nomatch he),fun t e he=>(by grind),fun k e he=>(nomatch he),fun k k' e e' he=>(nomatch he),fun k e he=>(nomatch he),Nat.zero_le _,Nat.zero_lt_one,fun _ _ h=>h.elim,⟨Nat.zero_le _,fun j b hj=>(nomatch hj)⟩,⟨Nat.one_ne_zero,fun _ _ h=>h.elim,fun _ _ h=>h.elim,zb.refl _ _ _,rfl⟩⟩
 -- the results
 have tT:∀ {F':Frm},F'.P=P->F'.A=Go.Lift.Fr w->F'.O0=O->F'.w0=w->∀s' a' w',Rel F' s' a' w'->(rtF E fs.rk fs.rs fn.results.toList s').run n=some y->∃v,(results fn a'.tmps).run P w'=.ok v w'/\∃v',Ending.returned v=.returned v'/\Ext w w'/\∃rs,kh rs v'/\XA P O w.heap.size w' fs.rk fs.rs rs y:=by
  intro F' e1 e2 e3 e4 s' a' w' ⟨X',hX'⟩ hr;have hP:X'.P=P:=hX'.P.trans e1
  have hE':E.ok X'.P:=by grind
  unfold rtF at hr;split at hr
  ·rename_i m' hm'
   split at hr
   ·rename_i y' t6 hy'
    have e:=run_pure hr;subst e;obtain⟨vs',g1,g2,g3⟩:=Xv hE' hX' hm';obtain⟨v,g4,g5⟩:=ZA g1;rw[hP]at g4;refine⟨v,g4,v,rfl,?_,vs',g5,?_⟩
    ·have:=hX'.base
     rw[e2,e3,e4]at this;exact this.ext
    ·have:=ug hE'.G hX' hy' g2 fun i φ u hi hu=>⟨g3 i φ u hi hu,kr t6 φ (zLe hi)⟩
     grind
   ·cases hr
  ·cases hr
 have xM:∀F' s' a' w',F.To F'->Rel F' s' a' w'->(rtF E fs.rk fs.rs fn.results.toList s').run n=some y->LeavesInM Fence.wide 0 P fn a'.tmps (fun e w'=>∃v,e=.returned v/\Ext w w'/\∃rs,kh rs v/\XA P O w.heap.size w' fs.rk fs.rs rs y) a'.defers .returning w':=by
  intro F' s' a' w' hT h' hr;have aA:=hT.nr rfl
  subst aA;have:=tT rfl rfl rfl rfl s' a' w' h' hr
  obtain⟨X',hX'⟩:=h';rw[show a'.defers=[] from hX'.fit.defers]
  exact this
 refine wpIn_seq ?_;refine Yu A (F:=F) hm (fun _ _ h=>h) hE hcA (.inr a7.1) rfl hR (Inv.refl _) hy ⟨fun F' s1 a1 w1 h0 h1 _ h2=>?_,fun i _ F' s' a' w' _ _ _ h2=>(nomatch h2),fun F' s' a' w' h0 h1 _ h2=>xM F' s' a' w' h0 h1 h2,fun F' s' a' _ w' _ _ _ h2=>(nomatch h2)⟩
 have aA:=h0.nr rfl;subst aA;show Code.wpIn Fence.wide 0 P (.seq B _) _ a1 w1
 refine wpIn_seq ?_;refine Yu B (F:=F) hm (fun _ _ h=>h) hE hcB (.inr a7.2.1) rfl h1 (Inv.refl _) h2 ⟨fun F' s2 a2 w2 h0 h1 _ h2=>?_,fun i _ F' s' a' w' _ _ _ h2=>(nomatch h2),fun F' s' a' w' h0 h1 _ h2=>xM F' s' a' w' h0 h1 h2,fun F' s' a' _ w' _ _ _ h2=>(nomatch h2)⟩
 have aA:=h0.nr rfl;subst aA;show Code.wpIn Fence.wide 0 P (.seq _ C) _ a2 w2
 refine wpIn_seq ?_;obtain⟨o,p,rfl⟩:∃o p,dops=[o,p]:=by
  unfold dfD at h2;split at h2
  ·grind
  ·cases h2
 simp only[dfD]at h2;split at h2
 ·rename_i c aC
  split at h2
  ·rename_i xf bF
   split at h2
   ·rename_i fU xQ
    simp only[zLZ]at xQ;have sA:=qX xQ.2.2.2 o (by simp)
    have cL:o.guard=none:=by simp_all
    have hpg:p.guard=none:=by simp_all
    have hpd:p.dst=none:=by simp_all
    have fY:F.dst o.dst:=fun t ht=>⟨((zS hdd (show ([o,p]:List Oper)[0]?=some o from rfl)).2.1 t ht).1,fun φ h=>h⟩
    show F.wp (.region id _ false) _ a2 w2
    refine Jr (fun h=>nomatch h) ?_
    show XB (F.W _) _ _ (List.range 2) a2 w2
    rw[List.range_eq_range'];show XB (F.W _) _ _ (List.range' 0 ([o,p]:List Oper).length) a2 w2
    rw[kV [o,p] 0 (by simp)]
    simp only[vt,Region.wanted,cL,hpg,if_true];refine jz sA (Ku hE h1 _ _ fY n y h2 _ _ fun s3 v w3 k1 k2 k3=>?_)
    split at k3
    ·rename_i f' ca cb hφ
     split at k3
     ·rename_i ks hfa dY
      rw[zLZ]at hfa;split at k3
      ·rename_i fA
       obtain⟨X3,x8⟩:=k1;rw[<-x8.ep]at hφ;have hP3:X3.P=P:=x8.P
       have xO:=x8.rd #[xf] xf _ (by simp) hφ
       obtain⟨vs3,us,c1,c2,c3⟩:=xO;have nB:=ml hfa.2
       subst nB;have hvs3:vs3=[]:=c1
       subst hvs3;have hcb:=qW dY
       subst hcb;obtain⟨c4,c5⟩:=AK c2;have hfg:=zLY hfa.1
       subst hfg;have hks3:ks.length=m:=zLY fA
       have hB9:c.args=#[]:=Array.ext' (by omega)
       have fI:(execOp (a2.put o.dst v).eval p).run P w3=.ok (.defer { target:=.fn (.func f') us.toArray,args:=#[] }) w3:=by
        simp_all [execOp,resolve,Deferred.ofValue]
       let dfr:Deferred:={ target:=.fn (.func f') us.toArray,args:=#[] }
       let F2:Frm:={ F with D:=[dfr],x:={ F.x with kv:=fun u φ=>∃(i k:Nat),ks[i]?=some k/\us[i]?=some u/\φ=.bx k 0 } }
       have iW:us.length=m:=by grind
       let a4:Act:={ tmps:=(a2.put o.dst v).tmps,defers:=dfr::(a2.put o.dst v).defers }
       have hR4:Rel F2 s3 a4 w3:=by
        refine⟨X3,x8.conv (F':=F2) (L':=s3.L) rfl rfl rfl rfl (fun _ _ h=>h) rfl rfl rfl ⟨x8.fit.size,by show dfr::_=[dfr];rw[show (a2.put o.dst v).defers=[] from x8.fit.defers]⟩ x8.l x8.ln ⟨x8.ex.st,x8.ex.sys,fun u φ hu=>?_,x8.ex.since,x8.ex.L⟩⟩
        obtain⟨i,k,q1,q2,rfl⟩:=hu;refine⟨rfl,?_⟩;obtain⟨q3,b,q4⟩:=c5 k (zLe q1);rw[c4,List.getElem?_map,q1]at q2;simp only[Option.map_some,zLw]at q2;exact⟨q3,b,q4,q2.symm.trans q4⟩
       refine⟨fun _ _=>trivial,?_⟩
       show Oper.uponIn (fw none) 0 P p _ _ _ ((execOp (a2.put o.dst v).eval p).run P w3)
       rw[fI];show Code.wpIn Fence.wide 0 P C _ (Act.put { tmps:=(a2.put o.dst v).tmps,defers:=dfr::(a2.put o.dst v).defers } p.dst undef) w3
       rw[hpd];show Code.wpIn Fence.wide 0 P C _ a4 w3
       have aV:=fun {s':S} {a':Act} {w':World} (hR':Rel F2 s' a' w') (e:AV) (ok:Bool) (v':Value)=>QV (F:=F2) (P:=P) (E:=E) (fn:=fn) (R:=fun e w'=>∃v,e=.returned v/\Ext w w'/\∃rs,kh rs v/\XA P O w.heap.size w' fs.rk fs.rs rs y) rfl hg hm hE hcG hnG (fun _ _ h=>h) rfl rfl rfl hks3 iW (fun i k u q1 q2=>⟨i,k,q1,q2,rfl⟩) rfl hR' (e:=e) (ok:=ok) (v:=v') (hG:=hG) (k:=rtF E fs.rk fs.rs fn.results.toList) (nf:=n) (y:=y)
       refine Yu C (F:=F2) hm (fun _ _ h=>h) hE hcC (.inr a7.2.2) rfl hR4 (Inv.refl _) k3 ⟨fun F' s5 a5 w5 t0 t1 _ t2=>?_,fun i fD F' s5 a5 w5 t0 t1 _ t2=>?_,fun F' s5 a5 w5 t0 t1 _ t2=>?_,fun F' s5 a5 v5 w5 t0 t1 _ t2=>?_⟩
       ·have aA:=t0.nr rfl
        subst aA;exact aV t1 .top false undef (fun h=>nomatch h) (fun _=>rfl) t2 fun s' w' q1 q2=>tT rfl rfl rfl rfl s' a5 w' q1 q2
       ·unfold exR at t2
        rw[show Nat.beq i PL=false by grind [zU]]at t2
        cases t2
       ·have aA:=t0.nr rfl
        subst aA;exact aV t1 .top false undef (fun h=>nomatch h) (fun _=>rfl) t2 fun s' w' q1 q2=>tT rfl rfl rfl rfl s' a5 w' q1 q2
       ·have aA:=t0.nr rfl
        subst aA;unfold exR at t2;rw[Nat.beq_refl]at t2;dsimp only at t2;split at t2
        ·rename_i φ hφ5
         split at t2
         ·rename_i z hz
          obtain⟨X5,aH⟩:=t1;have hX6:=aH.zFO (fun _ _ h=>h)
          rw[<-aH.ep]at hφ5;have hv5:=aH.rd #[.tmp 0] (.tmp 0) _ (by simp) hφ5
          change φ.holds X5 w5 ((a5.put (some 0) v5).get 0) at hv5
          rw[yZ (wV aH.fit) (tD hN)]at hv5;have fG:X5.le w5 { X5 with n:=s5.n+1 } w5:=⟨rfl,zb.refl _ _ _,fun _ _=>rfl,by rw[aH.n];grind,rfl⟩
          have hP5:X5.P=P:=aH.P;have hE5:E.ok X5.P:=by grind
          have hz5:=AV.Z7 hE5.G (M:=[]) (fun k e he=>nomatch he) hz hv5
          exact aV ⟨_,hX6⟩ (.rd zt z) true v5 (fun _=>⟨rfl,⟨_,_,z,by rw[<-hP5];exact hz5⟩,_,hX6,hz5⟩) (fun h=>nomatch h) t2 fun s' w' q1 q2=>tT rfl rfl rfl rfl s' a5 w' q1 q2
         ·cases t2
        ·cases t2
      ·cases k3
     ·cases k3
    ·cases k3
   ·cases h2
  ·cases h2
 ·cases h2
def asQ(k:Knd)(φ:AV):Option AV:=match k,K5 φ with
 |.pr _ (.pr _ _),some (.pr (.ag a) .un)=>some a
 |_,o=>o
theorem GA{k:Knd}{φ ψ:AV}(h:asQ k φ=some ψ):K5 φ=some ψ\/K5 φ=some (.pr (.ag ψ) .un):=by
 unfold asQ at h;grind
def Knd.ks(M:MS):Knd->AV->List (Option Nat)
 |.o ..,φ=>match X6 M φ with
  |some p=>[some p.1]
  |none=>[none]
 |.pr a b,φ=>match φ with
  |.pr φ1 φ2=>a.ks M φ1++b.ks M φ2
  |_=>[]
 |.ag l,φ=>match asQ l φ with
  |some φ=>l.ks M φ
  |none=>[]
 |_,_=>[]
def D9(ks:List (Option Nat)):MS->MS
 | []=>[]
 |e::M=>(e.1,e.2.1,match vh e.1 (yq ks) with
  |true=>.dead
  |false=>YC e.2.2)::D9 ks M
theorem pU{ks:List (Option Nat)}:∀ {M:MS} {k:Nat} {e:Nat×MV},look (D9 ks M) k=some e->∃m,look M k=some (e.1,m)/\((e.2=.dead)\/(e.2=YC m/\some k ∉ ks))
 | [],k,e,h=>by cases h
 |f::M,k,e,h=>by
  obtain⟨k0,st,m⟩:=f;simp only[D9,look]at h |-
  cases hb:Nat.beq k0 k with
  |true =>
   rw[hb]at h;have hk:=zLY hb
   subst hk
   cases hm:vh k0 (yq ks) with
   |true=>grind
   |false =>
    rw[hm]at h;cases h;exact⟨m,rfl,.inr ⟨rfl,fun hi=>by grind [ky,Ya]⟩⟩
  |false=>rw[hb]at h;exact pU h
def Knd.rt(G:FE)(M M':MS):(k:Knd)->AV->Option k.D
 |.v t,φ=>φ.asT G M' t
 |.o _ t T,φ=>match X6 M φ with
  |some p=>match p.2.1 && Nat.beq p.2.2.1 T,zEg p.2.2.2.2 (.sl t) with
   |true,some x=>some x
   |_,_=>none
  |none=>match Ys φ with
   |true=>some ([]:List t.D)
   |false=>none
 |.un,φ=>match φ with
  |.un=>some ()
  |_=>none
 |.pr a b,φ=>match φ with
  |.pr φ1 φ2=>match a.rt G M M' φ1,b.rt G M M' φ2 with
   |some x,some y=>some (x,y)
   |_,_=>none
  |_=>none
 |.ag l,φ=>match asQ l φ with
  |some φ=>l.rt G M M' φ
  |none=>none
 |.m ..,_=>none
 |.bv ..,_=>none
def Knd.rtL(G:FE)(M M':MS):(k:Knd)->List AV->Option k.D
 |.pr a b,l=>match l with
  |φ::l=>match a.rt G M M' φ,b.rtL G M M' l with
   |some x,some y=>some (x,y)
   |_,_=>none
  | []=>none
 |.un,l=>match l with
  | []=>some ()
  |_=>none
 |_,_=>none
def Knd.ksL(M:MS):Knd->List AV->List (Option Nat)
 |.pr a b,l=>match l with
  |φ::l=>a.ks M φ++b.ksL M l
  | []=>[]
 |_,_=>[]
def uOf(X:Cx):Option Nat->Value
 |some k=>X.U k
 |none=>.slice none 0 0
section
variable {F:Frm} {s:S} {a:Act} {w:World} {X:Cx} {E:VE}
def Cx.outJ(X:Cx)(F:Frm)(us:List Value):Cx:={ X with O:=uI F.O0 us }
theorem Qp{O:zR}{us:List Value}{b:Nat}(h:O b=0)(hn:∀u∈us,u.ownBlock≠some b):uI O us b=0:=by
 simp_all [uI]
def Ci(X:Cx)(s:S)(ks:List (Option Nat)):Prop:=∀k,some k∈ks->∃st t T xs,look s.M k=some (st,.sl true t T xs)
theorem uv(h:RelX F s a w X){ks:List (Option Nat)}(hk:Ci X s ks){u:Value}(hu:u∈ks.map (uOf X)){g:Nat}(hg:u.ownBlock=some g):∃k e,some k∈ks/\look s.M k=some e/\e.2.own=true/\X.O g=X.ι k/\X.ι k≠0:=by
 obtain⟨o,ho,rfl⟩:=List.mem_map.1 hu
 cases o with
 |none=>cases hg
 |some k =>
  obtain⟨st,t,T,xs,hl⟩:=hk k ho;have hO:=h.m k _ hl
  change zo (X.ι k) (t.gr X.P) T (X.B true) X.O w (X.U k) xs at hO
  exact⟨k,_,ho,hl,rfl,hO.tagged g hg,(h.pos k _ hl rfl).1⟩
theorem RelX.mh(h:RelX F s a w X){ks:List (Option Nat)}(hk:Ci X s ks):X.le w (X.outJ F (ks.map (uOf X))) w:=⟨rfl,⟨zLb _,fun b hb hz=>⟨Qp (h.base.zero b hb hz) fun u hu hg=>by
 grind [uv],rfl⟩⟩,fun _ _=>rfl,zLb _,rfl⟩
theorem RelX.Q4(h:RelX F s a w X){ks:List (Option Nat)}(hk:Ci X s ks):yE (D9 ks s.M) (X.outJ F (ks.map (uOf X))) w:=by
 intro k e he;obtain⟨m,h1,h2⟩:=pU he;have sN:=(h.mh hk).k
 rcases h2 with h2|⟨h2,h3⟩
 ·rw[h2];trivial
 have hh:=h.m k _ h1;rw[h2]
 -- a block of its own isn't among those
 have hz:∀g,m.own=true->X.O g=X.ι k->F.w0.heap.size<=g->uI F.O0 (ks.map (uOf X)) g=0:=fun g ho ht tW=>Qp (h.ok0 g tW) fun u hu hg=>by
  obtain⟨k',e',q1,q2,q3,q4,_⟩:=uv h hk hu hg;have:=h.inj k k' _ _ h1 q2 ho q3 (ht.symm.trans q4)
  grind
 cases m with
 |sl nw t T xs =>
  cases nw with
  |false=>trivial
  |true =>
   obtain⟨vs,g1,g2,g3⟩:=hh;refine Yk.2 ⟨vs,g1.slv,g2.mono sN,fun _ g hg=>⟨g1.gK g hg,hz g rfl (g3 g hg).1 ?_⟩⟩
   have:=(g3 g hg).2
   change X.F g at this
   rw[h.Fn]at this;exact this
 |bx nw c T=>cases nw<;>trivial
 |fs t xs=>exact GR.yu _ hh sN
 |fb t x=>exact GR.yu _ hh sN
 |fg f=>trivial
 |mp nw a b xs =>
  cases nw with
  |false=>trivial
  |true =>
   obtain⟨c,es,clock,g1,g2,g3,g4,g5⟩:=hh;have hc:F.w0.heap.size<=c:=by
    have:X.F c:=g4;rw[h.Fn]at this;exact this
   exact⟨_,.inr ⟨c,es,clock,rfl,g2,g3.mono sN,hz c rfl g5 hc⟩,g1⟩
 |fm a b xs=>exact GR.yu _ hh sN
 |dead=>trivial
end
section
variable {F:Frm} {s:S} {a:Act} {w:World} {X:Cx} {E:VE}
theorem tx:∀(t:Ty) (x:t.D),(UX t x).ze=false
 |.cons a b,x=>by show (_ || _)=false;rw[tx b];rfl
 |.nil,_|.int _,_|.bool,_|.str,_|.sl _,_|.arr ..,_|.box ..,_|.fn ..,_|.seq ..,_|.slo ..,_|.mp ..,_=>rfl
theorem SF{φ ψ:AV}(hψ:K5 φ=some ψ){cs:List Value}(hc:(φ.sem X w).c cs):(ψ.sem X w).c cs:=by
 unfold K5 at hψ;split at hψ
 ·cases hψ;exact hc
 ·split at hψ
  ·rename_i hb
   cases hψ
   rw[zLZ]at hb;exact E3 hb.2 hc
  ·cases hψ
 ·cases hψ
theorem zES{φ ψ:AV}(hψ:K5 φ=some ψ){u:Value}(hu:φ.holds X w u):∃cs,(φ.sem X w).c cs/\u=yD true cs:=by
 unfold K5 at hψ;split at hψ
 ·obtain⟨cs,h1,h2⟩:=hu;exact⟨cs,h1,h2⟩
 ·split at hψ
  ·rename_i hb
   rw[zLZ]at hb;obtain⟨cs,h1,h2⟩:=hu;refine⟨cs,h1,?_⟩;grind [Ty.jI]
  ·cases hψ
 ·cases hψ
theorem zHA{k:Knd}{φ ψ:AV}(hψ:asQ k φ=some ψ){cs:List Value}(hc:(φ.sem X w).c cs):(ψ.sem X w).c cs:=by
 rcases GA hψ with e|e
 ·exact SF e hc
 ·obtain⟨c1,c2,g1,g2,g3⟩:=SF e hc
  have g3:c2=[]:=g3;rw[g1,g3,zMF];exact g2
theorem qG{φ ψ:AV}(hψ:K5 φ=some ψ)(hf:φ.ze=false):ψ.ze=false:=by
 unfold K5 at hψ;split at hψ
 ·cases hψ;exact hf
 ·grind [tx]
 ·cases hψ
theorem MT{k:Knd}{φ ψ:AV}(hψ:asQ k φ=some ψ)(hf:φ.ze=false):ψ.ze=false:=by
 rcases GA hψ with e|e
 ·exact qG e hf
 ·have:=qG e hf
  grind [AV.ze]
theorem zHL(hG:FOk X.P E.G)(h:RelX F s a w X){all:List (Option Nat)}(fH:Ci X s all):∀ {k:Knd} {φ:AV} {x:k.D} {cs:List Value},k.rt E.G s.M (D9 all s.M) φ=some x->(∀o∈k.ks s.M φ,o∈all)->φ.ze=false->(φ.sem X w).c cs ->
  Ce X.P (uI F.O0 (all.map (uOf X))) w F.w0.heap.size k x cs ((k.ks s.M φ).map (uOf X)):=by
 have fG:=h.mh fH;intro k
 induction k with
 |v t =>
  intro φ x cs hr _ hf hc;exact⟨(AV.jR (X:=X.outJ F (all.map (uOf X))) hG φ (h.Q4 fH)).vc hr ((φ.mono fG fun hf'=>by grind).2.2 _ hc),rfl⟩
 |o nw t T =>
  intro φ x cs hr fE hf hc;simp only[Knd.rt]at hr;simp only[Knd.ks]at fE |-;split at hr
  ·rename_i p hp
   split at hr
   ·rename_i y hb hy
    cases hr
    rw[zLZ]at hb;have bD:φ=.ob p.1/\∃st,look s.M p.1=some (st,.sl p.2.1 p.2.2.2.1 p.2.2.1 p.2.2.2.2):=by
     unfold X6 at hp;grind
    obtain⟨hφ,st,hk⟩:=bD;subst hφ;obtain⟨u,g1,g2,g3,g4,g5⟩:=hc;have hO:=h.m _ _ hk
    change zo (X.ι p.1) (p.2.2.2.1.gr X.P) p.2.2.1 (X.B p.2.1) X.O w (X.U p.1) p.2.2.2.2 at hO
    rw[hb.1]at hO
    change zo _ _ _ X.F _ _ _ _ at hO
    rw[h.Fn]at hO;obtain⟨vs,q1,q2,q3⟩:=hO;obtain⟨e1,e2⟩:=Ty.jN hy;injection e1 with e1;subst e1;have e2:p.2.2.2.2=x:=e2
    have q2':y5 (p.2.2.2.1.gr X.P) X.O w vs x:=by grind
    have hT:=zLY hb.2;refine⟨u,vs,g1,by grind [uOf],g2,?_,q2'.mono fG.k⟩
    rw[g3,<-hT];exact q1.Q0 fun g hg=>(q3 g hg).2
   ·cases hr
  ·rename_i hp
   split at hr
   ·rename_i hn
    cases hr
    have hφ:=jW hn;subst hφ;refine⟨.slice none 0 0,[],hc,rfl,rfl,OwnS.nil _ _ _ _,trivial⟩
   ·cases hr
 |m nw a b=>intro φ x cs hr;cases hr
 |bv nw t T=>intro φ x cs hr;cases hr
 |un =>
  intro φ x cs hr _ hf hc;simp only[Knd.rt]at hr;split at hr
  ·exact⟨hc,rfl⟩
  ·cases hr
 |pr k1 k2 ih1 ih2 =>
  intro φ x cs hr fE hf hc;simp only[Knd.rt]at hr;split at hr
  ·rename_i φ1 φ2
   split at hr
   ·rename_i x1 x2 oA iV
    cases hr
    simp only[AV.ze,Bool.or_eq_false_iff]at hf;obtain⟨c1,c2,g1,g2,g3⟩:=hc;refine⟨c1,c2,_,_,g1,by grind [Knd.ks],ih1 oA (fun o ho=>fE o (by grind [Knd.ks])) hf.1 g2,ih2 iV (fun o ho=>fE o (by grind [Knd.ks])) hf.2 g3⟩
   ·cases hr
  ·cases hr
 |ag l ih =>
  intro φ x cs hr fE hf hc;simp only[Knd.rt]at hr;split at hr
  ·rename_i ψ hψ
   have dY:(Knd.ag l).ks s.M φ=l.ks s.M ψ:=by grind [Knd.ks]
   rw[dY]at fE |-;exact ih hr fE (MT hψ hf) (zHA hψ hc)
  ·cases hr
theorem zKX(hG:FOk X.P E.G)(h:RelX F s a w X){all:List (Option Nat)}(fH:Ci X s all){k:Knd}{φ:AV}{x:k.D}{v:Value}(hr:k.rt E.G s.M (D9 all s.M) φ=some x)(fE:∀o∈k.ks s.M φ,o∈all)(hf:φ.ze=false)(x9:k.zEp=true)(hv:φ.holds X w v) :
  ∃cs,v=yD k.agg cs/\Ce X.P (uI F.O0 (all.map (uOf X))) w F.w0.heap.size k x cs ((k.ks s.M φ).map (uOf X)):=by
 have fG:=h.mh fH
 cases k with
 |v t =>
  have hv2:=AV.Z7 (X:=X.outJ F (all.map (uOf X))) hG (h.Q4 fH) hr (φ.le hf fG hv);obtain⟨cs,h1,h2⟩:=hv2;exact⟨cs,by rw[h2,Ty.jI];rfl,h1,rfl⟩
 |o nw t T =>
  have bB:∀ {u:Value},φ.holds X w u->u.oneCell'=true->(φ.sem X w).c [u]:=by
   intro u hu h1;simp only[Knd.rt]at hr;split at hr
   ·rename_i p hp
    have bD:φ=.ob p.1:=by
     unfold X6 at hp;grind
    rw[bD]at hu |-;exact⟨u,rfl,h1,hu⟩
   ·split at hr
    ·rename_i hn
     have hφ:=jW hn;subst hφ;rw[show u=_ from hu];rfl
    ·cases hr
  have h1:v.oneCell'=true:=by
   simp only[Knd.rt]at hr;split at hr
   ·rename_i p hp
    have bD:φ=.ob p.1:=by
     unfold X6 at hp;grind
    rw[bD]at hv;exact hv.2.2
   ·split at hr
    ·rename_i hn
     have hφ:=jW hn;subst hφ;rw[show v=_ from hv];rfl
    ·cases hr
  exact⟨[v],rfl,zHL hG h fH hr fE hf (bB hv h1)⟩
 |ag l =>
  have hψ:∃ψ,K5 φ=some ψ:=by
   grind [Knd.rt,GA]
  obtain⟨ψ,hψ⟩:=hψ;obtain⟨cs,h1,h2⟩:=zES hψ hv;exact⟨cs,h2,zHL hG h fH hr fE hf h1⟩
 |_=>cases x9
theorem zBV(hG:FOk X.P E.G)(h:RelX F s a w X){all:List (Option Nat)}(fH:Ci X s all):∀ {k:Knd} {l:List AV} {x:k.D} {vs:List Value},k.rtL E.G s.M (D9 all s.M) l=some x->(∀o∈k.ksL s.M l,o∈all)->k.EB=true->vs.length=l.length->(∀(i:Nat) φ v,l[i]?=some φ->vs[i]?=some v->φ.holds X w v/\φ.ze=false) ->
  K8 X.P (uI F.O0 (all.map (uOf X))) w F.w0.heap.size k x vs ((k.ksL s.M l).map (uOf X)):=by
 intro k
 induction k with
 |pr k1 k2 _ ih =>
  intro l x vs hr fE hv hl hh;simp only[Knd.EB,zLZ]at hv
  match l,vs,hl with
  | [],[],hl=>cases hr
  |φ::l,v::vs,hl =>
   simp only[Knd.rtL]at hr;split at hr
   ·rename_i x1 x2 oA iV
    cases hr
    obtain⟨q1,q2⟩:=hh 0 φ v rfl rfl;obtain⟨cs,r1,r2⟩:=zKX hG h fH oA (fun o ho=>fE o (by grind [Knd.ksL])) q2 hv.1 q1
    refine⟨v,vs,_,_,cs,rfl,by grind [Knd.ksL],r1,r2,ih iV (fun o ho=>fE o (by grind [Knd.ksL])) hv.2 (by grind) fun i ψ u hi hu=>hh (i+1) ψ u (by grind) (by grind)⟩
   ·cases hr
 |un =>
  intro l x vs hr fE hv hl hh;simp only[Knd.rtL]at hr;split at hr
  ·exact⟨List.length_eq_zero_iff.1 (by omega),rfl⟩
  ·cases hr
 |_=>intro l x vs hr fE hv hl hh;cases hv
def Hx(M:MS):List (Option Nat)->Bool
 | []=>true
 |o::l=>(match o with
  |none=>true
  |some k=>match look M k with
   |some (_,.sl true _ _ _)=>true
   |_=>false) && Hx M l
theorem Bb{X:Cx}{s:S}:∀ {l:List (Option Nat)},Hx s.M l=true->Ci X s l
 | [],_=>fun k hk=>by grind
 |o::l,h=>fun k hk=>by
  simp only[Hx,zLZ]at h;rcases zLd.1 hk with rfl|hk
  ·grind
  ·exact Bb (X:=X) h.2 k hk
theorem nG(h:RelX F s a w X):∀ {l:List (Option Nat)},Ci X s l->(yq l).Nodup->((l.map (uOf X)).filterMap Value.ownBlock).Nodup:=by
 intro l
 induction l with
 |nil=>grind
 |cons o l ih =>
  intro hk hn;have hk':Ci X s l:=fun k cO=>hk k (by grind)
  cases o with
  |none =>
   have:=ih hk' hn;rw[List.map_cons,List.filterMap_cons_none (show (uOf X none).ownBlock=none from rfl)];omega
  |some k =>
   obtain⟨e9,hn2⟩:=List.nodup_cons.1 hn;have ih:=ih hk' hn2
   simp only[List.map_cons]
   cases hb:(uOf X (some k)).ownBlock with
   |none=>grind
   |some g =>
    rw[List.filterMap_cons_some hb];refine List.nodup_cons.2 ⟨fun hm=>?_,ih⟩
    obtain⟨u,hu,hg⟩:=List.mem_filterMap.1 hm;obtain⟨k',e',q1,q2,q3,q4,_⟩:=uv h (ks:=l) hk' hu hg;obtain⟨k2,e2,p1,p2,p3,p4,_⟩:=uv h (ks:=[some k]) (fun j hj=>hk j (by grind)) (List.mem_map.2 ⟨some k,by simp,rfl⟩) hb
    have p1:k2=k:=by grind
    subst p1;have:=h.inj k2 k' e2 e' p2 q2 p3 q3 (p4.symm.trans q4)
    grind [Ya]
end
def rtJ(E:VE)(kd:Knd)(l:List ResultVar)(s:S):Comp kd.D:=match lZ E s l with
 |some m=>match Zy m && (kd.EB && (qu (yq (kd.ksL s.M m)) && Hx s.M (kd.ksL s.M m))),kd.rtL E.G s.M (D9 (kd.ksL s.M m) s.M) m with
  |true,some y=>Comp.pure y
  |_,_=>Comp.fail
 |none=>Comp.fail
def Ru(E:VE)(c:Code)(h:H)(l:List ResultVar)(ps:Ty)(kd:Knd)(x:ps.D):Comp kd.D :=
 den E c kd.D h ⟨Yl ps x 0,[],1,0⟩ (rtJ E kd l) (fun _ _=>Comp.fail) (rtJ E kd l)
theorem zEC{P:Program}{E:VE}(hE:E.ok P)(hm:P.follows .mixedOrders=true){f:FuncId}{fn:Func}{c:Code}{h:H}{fs:FJ}(hF:FnOk P f)(hf:P.funcs[f]?=some fn)(hb:fn.body=some c)(hc:okC fn.ntmps c=true)(hl:Nat.ble fs.ps.len fn.ntmps=true)
  (hs:∀x,Ru E c h fn.results.toList fs.ps fs.kd x=fs.sem x):fs.ok P f:=by
 refine⟨hF,fun O w hO vs x ha n y hy=>?_⟩
 rw[<-hs x]at hy;have fL:=ZC vs.toArray fn.ntmps (by have:=Z8 ha;simp_all)
 have fB:∀(j:Nat) v,vs[j]?=some v->Act.get { tmps:=vs.toArray++Array.replicate (fn.ntmps-vs.toArray.size) undef,defers:=[] } j=v:=fun j v hj=>ZB (by grind)
 refine callsIn_wide.1 (callsIn_of_wp_marks (n:=0) hf hb trivial ?_);generalize ({ tmps:=vs.toArray++Array.replicate (fn.ntmps-vs.toArray.size) undef,defers:=[] }:Act)=a at fL fB |-
 let F:Frm:=⟨P,fn.ntmps,[],Go.Lift.Fr w,O,w,fun _ _=>False,0,[],FrX.no 1 O w⟩
 let X:Cx:=⟨P,O,fun _=>.nilIface,1,fun k=>k,Go.Lift.Fr w,Go.Lift.Fr w,0,0⟩
 have hR:Rel F ⟨Yl fs.ps x 0,[],1,0⟩ a w:=by
  have fE:=fun {u e}=>Z5 (X:=X) (a:=a) (i:=0) rfl rfl ha (fun j v hj=>by grind) (u:=u) (e:=e)
  refine⟨X,rfl,rfl,rfl,rfl,rfl,hO,fL,Base.start hO,fun t e he _=>(fE he).2,fun k e he=>(nomatch he),fun t e he=>(by grind),fun k e he=>(nomatch he),fun k k' e e' he=>(nomatch he),fun k e he=>(nomatch he),Nat.zero_le _,Nat.zero_lt_one,fun _ _ h=>h.elim,⟨Nat.zero_le _,fun j b hj=>(nomatch hj)⟩,Exx.no Nat.one_ne_zero rfl⟩
 have xM:∀F' s' a' w',F.To F'->Rel F' s' a' w'->(rtJ E fs.kd fn.results.toList s').run n=some y->LeavesInM Fence.wide 0 P fn a'.tmps (fun e w'=>∃v,e=.returned v/\Ext w w'/\∃rs us,kh rs v/\K8 P (uI O us) w' w.heap.size fs.kd y rs us/\(us.filterMap Value.ownBlock).Nodup) a'.defers .returning w':=by
  intro F' s' a' w' hT h' hr;refine leaves hT rfl (fun _ _ h=>h) (zLb _) h' fun q n' ep' w' hX'=>?_
  obtain⟨X',hX'⟩:=hX';have hs:=hT.same
  have hP:X'.P=P:=hX'.P.trans hs.P;have hE':E.ok X'.P:=by grind
  unfold rtJ at hr;split at hr
  ·rename_i m hm'
   split at hr
   ·rename_i y' hb hy'
    simp only[zLZ]at hb;obtain⟨t6,hav,sA,sI⟩:=hb;have e:=run_pure hr
    subst e;obtain⟨vs',g1,g2,g3⟩:=Xv hE' hX' (Jn hm' t6);obtain⟨v,g4,g5⟩:=ZA g1;rw[hP]at g4;have hJ:=Bb (X:=X') (s:={ s' with n:=n',ep:=ep' }) sI
    refine⟨v,g4,v,rfl,?_,vs',(fs.kd.ksL s'.M m).map (uOf X'),g5,?_,nG hX' hJ (wQ sA)⟩
    ·have:=hX'.base
     change Base F'.A F'.O0 F'.w0 _ _ at this
     rw[hs.A,hs.O0,hs.w0]at this;exact this.ext
    ·have:=zBV hE'.G hX' hJ hy' (fun o ho=>ho) hav g2 fun i φ u hi hu=>⟨g3 i φ u hi hu,kr t6 φ (zLe hi)⟩
     change K8 _ (uI F'.O0 _) _ F'.w0.heap.size _ _ _ _ at this
     rwa[hP,hs.O0,hs.w0]at this
   ·cases hr
  ·cases hr
 exact Yu c (F:=F) hm (fun _ _ h=>h) hE hc (.inl ⟨rfl,rfl⟩) rfl hR (Inv.refl _) hy ⟨fun F' s' a' w' h0 h1 _ h2=>xM F' s' a' w' h0 h1 h2,fun i _ F' s' a' w' _ _ _ h2=>(nomatch h2),fun F' s' a' w' h0 h1 _ h2=>xM F' s' a' w' h0 h1 h2,fun F' s' a' _ w' _ _ _ h2=>(nomatch h2)⟩
end Go.Den
end
noncomputable section
namespace Go.Den
open Go Go.RowKit Go.Eng Go.Lift
def UE(P:Program)(X:TypeId):Nat->List (Nat×Nat×Nat)->Prop
 |_,[]=>True
 |k,e::l=>Fld P X k e.1 e.2.1 e.2.2/\UE P X (k+1) l
theorem zAx{P:Program}{X:TypeId}:∀ {l:List (Nat×Nat×Nat)} {k:Nat},UE P X k l->∀(f:Nat) e,l[f]?=some e->Fld P X (k+f) e.1 e.2.1 e.2.2
 | [],_,_,f,e,h=>by simp at h
 |e0::l,k,h,f,e,he=>by
  cases f with
  |zero=>simp at he;subst he;exact h.1
  |succ f=>have:=zAx h.2 f e (by grind);grind
theorem yj{P:Program}{X:TypeId}{i:TI}(h:i.kq=false):i.kq=true->KeyB P X i.τ:=fun h'=>by grind
def TI.zFC(P:Program)(X:TypeId)(i:TI):Prop:=i.eq≠0->EqT P X i.τ i.eq/\i.eq<=10000/\(i.τ.agg=true->P.eqGuardType P.depth X=false)
theorem YI{P:Program}{X:TypeId}{i:TI}(h:i.eq=0):i.zFC P X:=fun h'=>zLp h h'
theorem yX{P:Program}{X:TypeId}{i:TI}(h:Eng.Ty P X i.dd i.z i.sz i.by_)(hf:i.fl=[])(he:i.zFC P X)(hk:i.kq=true->KeyB P X i.τ):i.ok P X:=⟨h,fun f e he=>(by grind),.inl hf,he,hk⟩
theorem jU{P:Program}{X:TypeId}{i:TI}(h:Eng.Ty P X i.dd i.z i.sz i.by_)(hf:UE P X 0 i.fl)(hp:Plc P X (i.fl.map (fun e=>(e.2.1,e.2.2+1))).toArray)(he:i.zFC P X)(hk:i.kq=true->KeyB P X i.τ):i.ok P X :=
 ⟨h,fun f e he=>(by have:=zAx hf f e he;grind),.inr hp,he,hk⟩
def iS(e:TypeId)(t:Ty):TI:=⟨.slice e,.slice none 0 0,1,24,[],t,0,false⟩
theorem XP{P:Program}{X e:TypeId}{t:Ty}(h:Eng.Ty P X (.slice e) (.slice none 0 0) 1 24):(iS e t).ok P X:=yX (i:=iS e t) h rfl (YI rfl) (yj rfl)
theorem Uy(P:Program):TOk P []:=fun X i h=>nomatch h
theorem zV{P:Program}{X:TypeId}{i:TI}{l:TE}(h:i.ok P X)(hl:TOk P l):TOk P ((X,i)::l):=fun Y j hj=>by
 rcases zC hj with ⟨h1,h2⟩|⟨_,h2⟩
 ·grind
 ·exact hl Y j h2
def C1(l:List (Nat×Ty×Nat))(D:Nat):List Field->Ty->Nat->Bool
 | [],.nil,_=>true
 |f::fs,.cons a b,off=>!(f.name == "_") && (Nat.beq f.offset off && ((match look l f.type with
  |some e=>a.beq e.1 && Nat.ble e.2 D
  |none=>false) && C1 l D fs b (off+a.sz)))
 |_,_,_=>false
def IK(P:Program)(l:List (Nat×Ty×Nat)):Prop:=∀X e,look l X=some e->EqT P X e.1 e.2
theorem XV(P:Program):IK P []:=fun X i h=>nomatch h
theorem Yh{P:Program}{X:TypeId}{t:Ty}{D:Nat}{l:List (Nat×Ty×Nat)}(h:EqT P X t D)(hl:IK P l):IK P ((X,t,D)::l):=fun Y j hj=>by
 rcases zC hj with ⟨h1,h2⟩|⟨_,h2⟩
 ·grind
 ·exact hl Y j h2
theorem Js{P:Program}{l:List (Nat×Ty×Nat)}(hl:IK P l){D:Nat}:∀ {fs:List Field} {t:Ty} {off:Nat},C1 l D fs t off=true->EqTs P D fs t off
 | [],.nil,_,_=>.nil
 |f::fs,.cons a b,off,h=>by
  simp only[C1,zLZ]at h;obtain⟨h1,h2,h3,h4⟩:=h;split at h3
  ·rename_i e he
   rw[zLZ]at h3;have:=hl _ _ he
   rw[<-Ty.wB h3.1]at this;exact .cons (by grind) (zLY h2) this (Nat.le_of_ble_eq_true h3.2) (Js hl h4)
  ·cases h3
 | [],.int _,_,h | [],.bool,_,h | [],.str,_,h | [],.sl _,_,h | [],.cons ..,_,h | [],.arr ..,_,h | [],.box _,_,h | [],.fn ..,_,h | [],.seq ..,_,h | [],.slo ..,_,h | [],.mp ..,_,h=>by grind [C1]
 |_::_,.int _,_,h|_::_,.bool,_,h|_::_,.str,_,h|_::_,.sl _,_,h|_::_,.nil,_,h|_::_,.arr ..,_,h|_::_,.box _,_,h|_::_,.fn ..,_,h|_::_,.seq ..,_,h|_::_,.slo ..,_,h|_::_,.mp ..,_,h=>by grind [C1]
theorem Yp{κ:Type}{P:Nat->κ->Prop}{f:Nat}{s:κ}{l:List (Nat×κ)}(h:P f s)(hl:∀g t,look l g=some t->P g t):∀g t,look ((f,s)::l) g=some t->P g t:=fun Y j hj=>by
 grind [zC]
section short
variable {P:Program} {T:TE} {lG:List (Nat×FS)} {lM:List (Nat×FM)} {lO:List (Nat×FO)} {lN:List (Nat×FS)} {lQ:List (Nat×GS)} {lJ:List (Nat×FJ)}
abbrev ve(T:TE)(lG:List (Nat×FS))(lM:List (Nat×FM))(lO:List (Nat×FO))(lN:List (Nat×FS))(lQ:List (Nat×GS))(lJ:List (Nat×FJ)):VE:={ T:=T,G:=look lG,H:=look lM,O:=look lO,N:=look lN,Q:=look lQ,J:=look lJ }
structure EK(P:Program)(T:TE)(lG:List (Nat×FS))(lM:List (Nat×FM))(lO:List (Nat×FO))(lN:List (Nat×FS))(lQ:List (Nat×GS))(lJ:List (Nat×FJ)):Prop where
 e:(ve T lG lM lO lN lQ lJ).ok P
 m:P.follows .mixedOrders=true
theorem e0(h:TOk P T)(hm:P.follows .mixedOrders=true):EK P T [] [] [] [] [] []:=⟨⟨h,(fun X i h=>nomatch h),(fun X i h=>nomatch h),(fun X i h=>nomatch h),(fun X i h=>nomatch h),(fun X i h=>nomatch h),(fun X i h=>nomatch h),(fun X i h=>nomatch h)⟩,hm⟩
theorem EK.S{f s}(h:EK P T lG lM lO lN lQ lJ)(hs:FS.ok P f s):EK P T ((f,s)::lG) lM lO lN lQ lJ:=⟨{ h.e with G:=Yp hs h.e.G },h.m⟩
theorem EK.M{f s}(h:EK P T lG lM lO lN lQ lJ)(hs:FM.ok P f s):EK P T lG ((f,s)::lM) lO lN lQ lJ:=⟨{ h.e with H:=Yp hs h.e.H },h.m⟩
theorem EK.O{f s}(h:EK P T lG lM lO lN lQ lJ)(hs:FO.ok P f s):EK P T lG lM ((f,s)::lO) lN lQ lJ:=⟨{ h.e with O:=Yp hs h.e.O },h.m⟩
theorem EK.N{f s}(h:EK P T lG lM lO lN lQ lJ)(hs:FS.okN P f s):EK P T lG lM lO ((f,s)::lN) lQ lJ:=⟨{ h.e with N:=Yp hs h.e.N },h.m⟩
theorem EK.Q{f s}(h:EK P T lG lM lO lN lQ lJ)(hs:GS.ok P f s):EK P T lG lM lO lN ((f,s)::lQ) lJ:=⟨{ h.e with Q:=Yp hs h.e.Q },h.m⟩
theorem EK.J{f s}(h:EK P T lG lM lO lN lQ lJ)(hs:FJ.ok P f s):EK P T lG lM lO lN lQ ((f,s)::lJ):=⟨{ h.e with J:=Yp hs h.e.J },h.m⟩
abbrev veK(T:TE)(lG:List (Nat×FS))(lM:List (Nat×FM))(lO:List (Nat×FO))(lN:List (Nat×FS))(lQ:List (Nat×GS))(lJ:List (Nat×FJ))(g:Nat)(s:FK):VE:={ ve T lG lM lO lN lQ lJ with K:=look [(g,s)],Z:=s.zT }
theorem EK.K{g:FuncId}{s:FK}(h:EK P T lG lM lO lN lQ lJ)(hs:s.ok P g):(veK T lG lM lO lN lQ lJ g s).ok P:={ h.e with K:=Yp hs fun X i h=>nomatch h }
def okA(fn:Func)(c:Code)(n:Nat):Bool:=!fn.body.isNone && (!(fn.name == "runtime.NumGoroutine") && (okC fn.ntmps c && Nat.ble n fn.ntmps))
theorem vm{fn:Func}{c:Code}{n:Nat}(h:okA fn c n=true):fn.body.isNone=false/\(fn.name == "runtime.NumGoroutine")=false/\okC fn.ntmps c=true/\Nat.ble n fn.ntmps=true:=by
 simp_all [okA]
variable {f:FuncId} {fn:Func} {c:Code}
theorem fS(hE:EK P T lG lM lO lN lQ lJ)(h:H){fs:FS}(hf:P.funcs[f]?=some fn)(hb:fn.body=some c:=by rfl)(hk:okA fn c fs.ps.len=true:=by kernel_rfl)(hs:∀x,S4 (ve T lG lM lO lN lQ lJ) c h fn.results.toList fs.ps fs.rs fs.rk x=fs.sem x:=by intro x;kernel_rfl):fs.ok P f :=
 zAw hE.e hE.m ⟨_,hf,(vm hk).1,(vm hk).2.1⟩ hf hb (vm hk).2.2.1 (vm hk).2.2.2 hs
theorem fM(hE:EK P T lG lM lO lN lQ lJ)(h:H){fs:FM}(hf:P.funcs[f]?=some fn)(hb:fn.body=some c:=by rfl)(hk:okA fn c fs.ps.len=true:=by kernel_rfl)(hs:∀x,Rs (ve T lG lM lO lN lQ lJ) c h fn.results.toList fs.ps fs.io fs.rs x=fs.sem x:=by intro x;kernel_rfl):fs.ok P f :=
 zEA hE.e hE.m ⟨_,hf,(vm hk).1,(vm hk).2.1⟩ hf hb (vm hk).2.2.1 (vm hk).2.2.2 hs
theorem fO(hE:EK P T lG lM lO lN lQ lJ)(h:H){fs:FO}(hf:P.funcs[f]?=some fn)(hb:fn.body=some c:=by rfl)(hk:(fs.ret && okA fn c (fs.ps.len+1))=true:=by kernel_rfl)(hs:∀xs z,Rq (ve T lG lM lO lN lQ lJ) c h fn.results.toList fs.e fs.T fs.ps xs z=fs.sem xs z:=by intro xs z;kernel_rfl):fs.ok P f:=by
 rw[zLZ]at hk;exact zDy hE.e hE.m ⟨_,hf,(vm hk.2).1,(vm hk.2).2.1⟩ hf hb (vm hk.2).2.2.1 (vm hk.2).2.2.2 hk.1 hs
theorem fN(hE:EK P T lG lM lO lN lQ lJ)(h:H){fs:FS}(hf:P.funcs[f]?=some fn)(hb:fn.body=some c:=by rfl)(hk:okA fn c (fs.ps.len+1)=true:=by kernel_rfl)(hs:∀x,Rr (ve T lG lM lO lN lQ lJ) c h fn.results.toList fs.ps fs.rs fs.rk x=fs.sem x:=by intro x;kernel_rfl):fs.okN P f :=
 zDz hE.e hE.m ⟨_,hf,(vm hk).1,(vm hk).2.1⟩ hf hb (vm hk).2.2.1 (vm hk).2.2.2 hs
theorem fQ(hE:EK P T lG lM lO lN lQ lJ)(h:H){fs:GS}(hf:P.funcs[f]?=some fn)(hb:fn.body=some c:=by rfl)(hk:(Nat.beq fn.results.size 0 && (ZD c && okA fn c (fs.ps.len+1)))=true:=by kernel_rfl)(hs:∀x,Rn (ve T lG lM lO lN lQ lJ) c h fs.ps fs.t x=fs.sem x:=by intro x;kernel_rfl):fs.ok P f:=by
 simp only[zLZ]at hk;have ho:=vm hk.2.2
 exact zDx hE.e hE.m ⟨_,hf,ho.1,ho.2.1⟩ hf hb (by grind) (zLY hk.1) ho.2.2.2 hs
theorem fJ(hE:EK P T lG lM lO lN lQ lJ)(h:H){fs:FJ}(hf:P.funcs[f]?=some fn)(hb:fn.body=some c:=by rfl)(hk:okA fn c fs.ps.len=true:=by kernel_rfl)(hs:∀x,Ru (ve T lG lM lO lN lQ lJ) c h fn.results.toList fs.ps fs.kd x=fs.sem x:=by intro x;kernel_rfl):fs.ok P f :=
 zEC hE.e hE.m ⟨_,hf,(vm hk).1,(vm hk).2.1⟩ hf hb (vm hk).2.2.1 (vm hk).2.2.2 hs
def okK(fn:Func)(c:Code)(fs:FK):Bool:=Nat.beq fn.results.size 0 && (ZD c && (Nat.blt 0 fn.ntmps && okA fn c (fs.ps.len+fs.cs.length)))
theorem fK(hE:EK P T lG lM lO lN lQ lJ)(h:H){fs s0:FK}(iU:s0.ok P f)(hf:P.funcs[f]?=some fn)(hZ:fs.zT=s0.zT:=by rfl)(hb:fn.body=some c:=by rfl)(hk:okK fn c fs=true:=by kernel_rfl)(hs:∀x r y,Rt (veK T lG lM lO lN lQ lJ f s0) f c h fs x r y=fs.sem x r y:=by intro x r y;kernel_rfl):fs.ok P f:=by
 unfold okK at hk;simp only[zLZ]at hk;have ho:=vm hk.2.2.2
 exact zEB (hE.K iU) hE.m ⟨_,hf,ho.1,ho.2.1⟩ hf hb ho.2.2.1 hk.2.1 (Array.size_eq_zero_iff.1 (zLY hk.1)) ho.2.2.2 hk.2.2.1 hZ hs
theorem Wv{s:Nat->FK}(hF:FnOk P f)(h0:∀x r y,(s 0).sem x r y=Comp.fail)(hS:∀n,(s n).ok P f->(s (n+1)).ok P f):∀n,(s n).ok P f
 |0=>⟨hF,fun O w _ vs x c y bl ts σs ss G _ _ _ _ _ _ n r hr=>by rw[h0]at hr;cases hr⟩
 |n+1=>hS n (Wv hF h0 hS n)
theorem Wu{s:Nat->FS}(hF:FnOk P f)(h0:∀x,(s 0).sem x=Comp.fail)(hS:∀n,(s n).ok P f->(s (n+1)).ok P f):∀n,(s n).ok P f
 |0=>⟨hF,fun O w _ vs x _ n y hr=>by rw[h0]at hr;cases hr⟩
 |n+1=>hS n (Wu hF h0 hS n)
theorem fSK{g:FuncId}{s0:FK}(hE:EK P T lG lM lO lN lQ lJ)(iU:s0.ok P g)(h:H){fs:FS}(hf:P.funcs[f]?=some fn)(hb:fn.body=some c:=by rfl)(hk:okA fn c fs.ps.len=true:=by kernel_rfl)(hs:∀x,S4 (veK T lG lM lO lN lQ lJ g s0) c h fn.results.toList fs.ps fs.rs fs.rk x=fs.sem x:=by intro x;kernel_rfl):fs.ok P f :=
 zAw (hE.K iU) hE.m ⟨_,hf,(vm hk).1,(vm hk).2.1⟩ hf hb (vm hk).2.2.1 (vm hk).2.2.2 hs
def okR(fn:Func)(c:Code)(n:Nat)(gn:Func):Bool:=!fn.body.isNone && (!(fn.name == "runtime.NumGoroutine") && (Nat.ble n fn.ntmps && (Nat.blt 0 fn.ntmps && (okC fn.ntmps (cl c) && (okC fn.ntmps (cl (cr c)) && (okC fn.ntmps (cr (cr (cr c))) && ((ZD (cl c) && (ZD (cl (cr c)) && ZD (cr (cr (cr c))))) && (zz fn.ntmps (opsOf (cl (cr (cr c)))) && (okC gn.ntmps (cr (gn.body.getD .skip)) && ZD (cr (gn.body.getD .skip)))))))))))
theorem fR{g:FuncId}{s0:FK}{gn:Func}{R0:Code}{m se so:Nat}{zt:Ty}{id:Nat}(hE:EK P T lG lM lO lN lQ lJ)(iU:s0.ok P g){d:FuncId}(hg:RecG P d gn R0 (cr (gn.body.getD .skip)) m se so s0.zT zt)(hA hB hC hG:H){fs:FS}(hf:P.funcs[f]?=some fn)(hb:fn.body=some (.seq (cl c) (.seq (cl (cr c)) (.seq (.region id (opsOf (cl (cr (cr c)))).toArray false) (cr (cr (cr c)))))):=by rfl)(hk:okR fn c fs.ps.len gn=true:=by kernel_rfl)
  (hs:∀x,Rm (veK T lG lM lO lN lQ lJ g s0) (cl c) (cl (cr c)) (opsOf (cl (cr (cr c)))) (cr (cr (cr c))) hA hB hC (cr (gn.body.getD .skip)) hG d m se so zt fn.results.toList fs.ps fs.rs fs.rk x=fs.sem x:=by intro x;kernel_rfl):fs.ok P f:=by
 unfold okR at hk;simp only[zLZ,Bool.not_eq_true']at hk;obtain⟨k1,k2,k3,k4,k5,k6,k7,k8,k9,k10,k11⟩:=hk;exact zDw (hE.K iU) hE.m ⟨_,hf,k1,k2⟩ hf hb k5 k6 k7 (by grind) k9 k3 k4 hg k10 k11 hs
def nj{T:Type}(z:T)(s:T->T)(n:Nat):T:=Nat.rec z (fun _ r=>s r) n
end short
end Go.Den
end
section
namespace Go.Lift
open Go Go.Eng
variable {α β γ δ ε σ τ:Type}
namespace Comp
def Za(f:σ->α->Step σ ε)(fin:σ->ε):σ->List α->ε
 |s,[]=>fin s
 |s,x::xs=>match f s x with
  |.next s'=>Za f fin s' xs
  |.done e=>e
def Step.map(g:σ->τ):Step σ ε->Step τ ε
 |.next s=>.next (g s)
 |.done e=>.done e
theorem Yf{body:τ->Comp (Step τ ε)}(st:σ->Nat->τ)(xs:List α)(f:σ->α->Step σ ε)(fin:σ->ε)(I:σ->Nat->Prop)
  (hb:∀s i x,xs[i]?=some x->I s i->(body (st s i)).val=some ((f s x).map fun s'=>st s' (i+1)))
  (hI:∀s i x s',xs[i]?=some x->I s i->f s x=.next s'->I s' (i+1))
  (he:∀s,I s xs.length->(body (st s xs.length)).val=some (.done (fin s))) (s:σ) (h0:I s 0):(loop body (st s 0)).val=some (Za f fin s xs):=by
 have key:∀(ys zs:List α) (s:σ),xs=zs++ys->I s zs.length->(loop body (st s zs.length)).val=some (Za f fin s ys):=by
  intro ys
  induction ys with
  |nil =>
   intro zs s hx hs;rw[zMF]at hx;subst hx;rw[zM,he s hs];rfl
  |cons y ys ih =>
   intro zs s hx hs;have hy:xs[zs.length]?=some y:=by grind
   rw[zM,hb s _ y hy hs];simp only[Za,zLX]
   cases hf:f s y with
   |next s' =>
    simp only[Step.map];have:=ih (zs++[y]) s' (by grind) (by grind)
    grind
   |done e=>rfl
 exact key xs [] s rfl h0
theorem Xj{f:σ->α->σ}{fin:σ->ε}:∀(xs:List α) (s:σ),Za (fun s x=>.next (f s x)) fin s xs=fin (xs.foldl f s)
 | [],_=>rfl
 |x::xs,s=>by simp only[Za,List.foldl_cons];exact Xj xs (f s x)
end Comp
theorem zO{xs:List α}{i:Nat}{x:α}(h:xs[i]?=some x):(idx xs (i:Int)).val=some x:=by
 simp_all [idx]
theorem Yq{xs:List α}{i:Int}{x:α}(h0:0<=i)(h:xs[i.toNat]?=some x):(idx xs i).val=some x:=by
 simp_all [idx]
theorem yY{xs ys:List α}(h:xs.length+ys.length<=LIM):(app xs ys).val=some (xs++ys):=by
 unfold app;simp_all
theorem YS{xs:List α}{l h:Int}(hr:0<=l/\l<=h/\h<=xs.length):(sub xs l h).val=some ((xs.take h.toNat).drop l.toNat):=by
 unfold sub;simp_all
theorem mk_val{n:Int}{z:α}(h:0<=n/\n<=LIM):(mk n z).val=some (List.replicate n.toNat z):=by
 unfold mk;simp_all
theorem Uv{xs:List α}{i:Int}{x:α}(h:0<=i/\i<xs.length):(upd xs i x).val=some (xs.set i.toNat x):=by
 unfold upd;simp_all
theorem XG{a b:Int}(h:b≠0):(rem a b).val=some (a.tmod b):=by
 unfold rem;simp_all
theorem zN{xs:List α}{i:Nat}{x:α}(h:xs[i]?=some x):i<xs.length:=(zLf.1 h).1
def Ok(c:Comp α)(P:α->Prop):Prop:=∃a,c.val=some a/\P a
namespace Ok
theorem zr{c:Comp α}{a:α}{P:α->Prop}(h:c.val=some a):Ok c P↔P a:=by
 constructor
 ·rintro⟨b,h1,h2⟩;grind
 ·exact fun hp=>⟨a,h,hp⟩
theorem val{c:Comp α}{a:α}(h:Ok c (fun x=>x=a)):c.val=some a:=by
 obtain⟨b,h1,h2⟩:=h;grind
theorem mono{c:Comp α}{P Q:α->Prop}(h:Ok c P)(i:∀a,P a->Q a):Ok c Q:=by
 obtain⟨a,h1,h2⟩:=h;exact⟨a,h1,i a h2⟩
theorem pure{a:α}{P:α->Prop}:Ok (Comp.pure a) P↔P a:=zr (Comp.zB a)
theorem bind{c:Comp α}{f:α->Comp β}{P:β->Prop}:Ok (c.bind f) P↔Ok c fun a=>Ok (f a) P:=by
 unfold Ok;rw[zA]
 cases hc:c.val with
 |none=>simp
 |some a=>simp
theorem zI{c:Comp α}{a:α}(h:c.val=some a){f:α->Comp β}{P:β->Prop}:Ok (c.bind f) P↔Ok (f a) P:=by rw[bind,zr h]
theorem gd{g:Bool}{c:Comp α}{d:α}{P:α->Prop}:Ok (Comp.gd g c d) P↔if g=true then Ok c P else P d:=by
 cases g with
 |true=>exact Iff.rfl
 |false=>exact pure
theorem jg{g:Bool}{c:Comp α}{d:α}{P:α->Prop}(h1:g=true->Ok c P)(h2:g=false->P d):Ok (Comp.gd g c d) P:=by
 cases g with
 |true=>exact h1 rfl
 |false=>exact pure.2 (h2 rfl)
theorem idx{xs:List α}{i:Int}{P:α->Prop}{x:α}(h0:0<=i)(h:xs[i.toNat]?=some x):Ok (Lift.idx xs i) P↔P x:=zr (Yq h0 h)
theorem gz{xs:List α}{i:Nat}{P:α->Prop}{x:α}(h:xs[i]?=some x):Ok (Lift.idx xs (i:Int)) P↔P x:=zr (zO h)
theorem app{xs ys:List α}{P:List α->Prop}(h:xs.length+ys.length<=LIM):Ok (Lift.app xs ys) P↔P (xs++ys):=zr (yY h)
theorem sub{xs:List α}{l h:Int}{P:List α->Prop}(hr:0<=l/\l<=h/\h<=xs.length):Ok (Lift.sub xs l h) P↔P ((xs.take h.toNat).drop l.toNat):=zr (YS hr)
theorem rem{a b:Int}{P:Int->Prop}(h:b≠0):Ok (Lift.rem a b) P↔P (a.tmod b):=zr (XG h)
theorem upd{xs:List α}{i:Int}{x:α}{P:List α->Prop}(h:0<=i/\i<xs.length):Ok (Lift.upd xs i x) P↔P (xs.set i.toNat x):=zr (Uv h)
theorem mk{n:Int}{z:α}{P:List α->Prop}(h:0<=n/\n<=LIM):Ok (Lift.mk n z) P↔P (List.replicate n.toNat z):=zr (mk_val h)
theorem loop{body:σ->Comp (Comp.Step σ ε)}(I:σ->Prop)(m:σ->Nat){P:ε->Prop}{s:σ}(h0:I s)
  (hb:∀s,I s->Ok (body s) fun t=>match t with|.next s'=>I s'/\m s'<m s|.done e=>P e):Ok (Comp.loop body s) P:=by
 have key:∀k s,m s=k->I s->Ok (Comp.loop body s) P:=by
  intro k
  induction k using Nat.strongRecOn with
  |_ k ih =>
   intro s hk hI;obtain⟨t,h1,h2⟩:=hb s hI
   cases t with
   |next s' =>
    obtain⟨e,h3,h4⟩:=ih (m s') (by omega) s' rfl h2.1
    exact⟨e,by grind [zM],h4⟩
   |done e=>exact⟨e,by grind [zM],h2⟩
 grind
theorem count{body:σ->Comp (Comp.Step σ ε)}(N:Nat)(I:Nat->σ->Prop){P:ε->Prop}{s:σ}(h0:I 0 s)
  (hb:∀i s,i<N->I i s->Ok (body s) fun t=>match t with|.next s'=>I (i+1) s'|.done e=>P e)
  (he:∀s,I N s->Ok (body s) fun t=>match t with|.next _=>False|.done e=>P e):Ok (Comp.loop body s) P:=by
 have key:∀k i s,i+k=N->I i s->Ok (Comp.loop body s) P:=by
  intro k
  induction k with
  |zero =>
   intro i s hi hI;have:i=N:=by omega
   subst this;obtain⟨t,h1,h2⟩:=he s hI
   cases t with
   |next _=>grind
   |done e=>exact⟨e,by grind [zM],h2⟩
  |succ k ih =>
   intro i s hi hI;obtain⟨t,h1,h2⟩:=hb i s (by omega) hI
   cases t with
   |next s' =>
    obtain⟨e,h3,h4⟩:=ih (i+1) s' (by omega) h2
    exact⟨e,by grind [zM],h4⟩
   |done e=>exact⟨e,by grind [zM],h2⟩
 exact key N 0 s (by omega) h0
end Ok
end Go.Lift
end
section
namespace Go.Geo
open Go Go.Eng Go.Lift Go.Den
variable {α β γ δ ε σ τ:Type}
theorem zY{m n:Int}:(ltI m n=true)=(m<n):=by simp[ltI]
theorem Jv{m n:Int}:(gtI m n=true)=(n<m):=by simp[gtI]
theorem zAs{m n:Int}:(leI m n=true)=(m<=n):=by simp[leI]
theorem S3{m n:Int}:(geI m n=true)=(n<=m):=by simp[geI]
theorem Z6{m n:Int}:(eqI m n=true)=(m=n):=by simp[eqI]
theorem je{m n:Int}:(neI m n=true)=(m≠n):=by simp[neI]
theorem vo(f:α->Comp β)(g:(α->Comp β)->Comp β):jn f g=g f:=rfl
theorem yS(b:Bool):ntB b = !b:=rfl
theorem XF(a b:Bool):sel a true b=(a || b):=by cases a<;>rfl
theorem kB(a b:Bool):sel a b false=(a && b):=by cases a<;>rfl
theorem zQ(xs:List α):zD xs=(xs.length:Int):=rfl
attribute [grind =] ltI gtI leI geI eqI neI zD ntB adB sel
def W(n:Int):Int:=IntKind.wrap .i64 n
theorem UD(n:Int):W n=(n+9223372036854775808) % 18446744073709551616-9223372036854775808:=by
 unfold W;simp[IntKind.wrap,IntKind.bits,IntKind.signed];omega
theorem EF{n:Int}(h : -9223372036854775808<=n/\n<9223372036854775808):W n=n:=by grind [UD]
theorem zAM{m n:Int}(k:Int)(h:m=n+18446744073709551616 * k):W m=W n:=by grind [UD]
theorem II(n:Int):∃k,W n=n+18446744073709551616 * k:=⟨- ((n+9223372036854775808) / 18446744073709551616),by grind [UD]⟩
theorem Wo(m n:Int):W (W m+n)=W (m+n):=by
 obtain⟨k,h⟩:=II m;grind [zAM]
theorem Wn(m n:Int):W (m+W n)=W (m+n):=by
 obtain⟨k,h⟩:=II n;grind [zAM]
theorem He(m n:Int):W (W m-n)=W (m-n):=by
 obtain⟨k,h⟩:=II m;grind [zAM]
theorem Hd(m n:Int):W (m-W n)=W (m-n):=by
 obtain⟨k,h⟩:=II n;grind [zAM]
theorem zEV(m n:Int):zG .i64 m n=W (m+n):=rfl
theorem Qr(m n:Int):vu .i64 m n=W (m-n):=rfl
theorem Ra(m n:Int):ku .i64 m n=W (m * n):=rfl
theorem zDf(m:Int):Yw .i64 m=W (-m):=by unfold Yw;rw[Int.zero_sub];rfl
theorem jS{m n:Int}(h : -9223372036854775808<=m+n/\m+n<9223372036854775808):zG .i64 m n=m+n:=EF h
theorem Jg{m n:Int}(h : -9223372036854775808<=m-n/\m-n<9223372036854775808):vu .i64 m n=m-n:=EF h
theorem XM{m n:Int}(h : -9223372036854775808<=m * n/\m * n<9223372036854775808):ku .i64 m n=m * n:=EF h
theorem Ji{m:Int}(h : -9223372036854775808<m/\m<9223372036854775808):Yw .i64 m = -m:=by grind [zDf,EF]
theorem zJ{i:Nat}(h:i<9223372036854775807):zG .i64 (i:Int) 1=((i+1:Nat):Int):=by grind [jS]
theorem YY:LIM<9223372036854775807:=by decide
attribute [grind =] jS Jg zJ
theorem ga{n:Nat}{m:Int}(h:0<=m/\m<n):(inb n m).val=some ():=by simp_all [inb]
theorem Wi{e:Bool}{c:Comp β}{y:β}(h1:e=true->c.val=some y){d:Comp β}(h2:d.val=some y):(amb e c d).val=some y:=by
 cases e with
 |false=>exact h2
 |true =>
  obtain⟨n,hn⟩:=vL.1 (h1 rfl);obtain⟨m,hm⟩:=vL.1 h2;have a1:=c.mono (Nat.le_max_left n m) hn
  have a2:=d.mono (Nat.le_max_right n m) hm;refine vL.2 ⟨max n m,?_⟩
  show (match c.run (max n m),d.run (max n m) with
  |some x,some y=>match Classical.propDecidable (x=y) with
   |.isTrue _=>some x
   |.isFalse _=>none
  |_,_=>none)=some y
  rw[a1,a2];simp only;split
  ·rfl
  grind
theorem Kz{xs:List α}{i:Int}{x:α}(h:(if 0<=i then xs[i.toNat]? else none)=some x):(idx xs i).val=some x:=by
 grind [Yq]
theorem wK{body:τ->Comp (Comp.Step τ ε)}(st:σ->Nat->τ)(xs:List α)(f:σ->α->Comp.Step σ ε)(fin:σ->ε)(s:σ)
  (hb:∀s i x,xs[i]?=some x->(body (st s i)).val=some ((f s x).map fun s'=>st s' (i+1)))
  (he:∀s,(body (st s xs.length)).val=some (.done (fin s))):(Comp.loop body (st s 0)).val=some (Comp.Za f fin s xs) :=
 Comp.Yf st xs f fin (fun _ _=>True) (fun s i x hx _=>hb s i x hx) (fun _ _ _ _ _ _ _=>trivial) (fun s _=>he s) s trivial
theorem pR{p:α->Bool}{c d:ε}:∀(xs:List α),Comp.Za (fun (_:Unit) x=>if p x=true then .next () else .done c) (fun _=>d) () xs=bif xs.all p then d else c
 | []=>rfl
 |x::xs=>by
  have ih:=pR (p:=p) (c:=c) (d:=d) xs;grind [Comp.Za]
theorem Z1{body:Int->Comp (Comp.Step Int ε)}(xs:List α)(p:α->Bool){c d:ε}(hb:∀(i:Nat) x,xs[i]?=some x->(body (i:Int)).val=some (if p x=true then .next ((i+1:Nat):Int) else .done c))(he:(body (xs.length:Int)).val=some (.done d)) :
  (Comp.loop body 0).val=some (bif xs.all p then d else c):=by
 have h1:=wK (fun (_:Unit) i=>((i:Nat):Int)) xs (fun (_:Unit) x=>if p x=true then .next () else .done c) (fun _=>d) () (body:=body)
  (fun s i x hx=>by rw[hb i x hx];cases p x<;>rfl) (fun s=>he)
 rw[pR]at h1;exact h1
def fnd(p:α->Bool):List α->Nat->Option Nat
 | [],_=>none
 |x::xs,i=>if p x=true then some i else fnd p xs (i+1)
theorem mz{p:α->Bool}:∀ {xs:List α} {i:Nat},(fnd p xs i).isSome=xs.any p
 | [],_=>rfl
 |x::xs,i=>by
  simp only[fnd,List.any_cons]
  cases hp:p x with
  |true=>rfl
  |false=>simp[mz (xs:=xs)]
theorem B5{p:α->Bool}:∀ {xs:List α} {i j:Nat},fnd p xs i=some j->i<=j/\∃x,xs[j-i]?=some x/\p x=true/\∀k y,k<j-i->xs[k]?=some y->p y=false
 | [],_,_,h=>by cases h
 |x::xs,i,j,h=>by
  unfold fnd at h;split at h
  ·grind
  ·rename_i hp
   obtain⟨h1,y,h2,h3,h4⟩:=B5 h;grind
def IA(x0:List α)(x1:α×Unit->Comp (Bool×Unit)):Comp (Int×Unit) :=
 (Comp.loop
   (fun (x:Int)=>if ltI x (zD x0)=true then
     (idx x0 x).bind fun x_1=>(x1 (x_1,())).bind fun x_2=>if x_2.1=true then Comp.pure (.done (Sum.inr x)) else Comp.pure (.next (zG .i64 x 1))
    else Comp.pure (.done (Sum.inl ())))
   0).bind fun (x:Unit⊕Int)=>match x with
  |Sum.inl x=>Comp.pure (-1,())
  |Sum.inr x=>Comp.pure (x,())
def zAB:Option Nat->Int
 |some i=>i
 |none => -1
theorem Bx{xs:List α}{f:α×Unit->Comp (Bool×Unit)}{p:α->Bool}(hl:xs.length<9223372036854775807)(hf:∀x∈xs,(f (x,())).val=some (p x,())):(IA xs f).val=some (zAB (fnd p xs 0),()):=by
 unfold IA;have key:∀(ys:List α) (i:Nat),Comp.Za (fun (s:Nat) x=>if p x=true then .done (Sum.inr ((s:Nat):Int)) else .next (s+1)) (fun _=>(Sum.inl ():Unit⊕Int)) i ys=match fnd p ys i with|some j=>Sum.inr ((j:Nat):Int)|none=>Sum.inl ():=by
  intro ys
  induction ys with
  |nil=>intro i;rfl
  |cons y ys ih =>
   grind [Comp.Za,fnd]
 have h:=Comp.Yf (fun (s:Nat) i=>((i:Nat):Int)) xs (fun (s:Nat) x=>if p x=true then .done (Sum.inr ((s:Nat):Int)) else .next (s+1)) (fun _=>(Sum.inl ():Unit⊕Int)) (fun s i=>s=i)
  (body:=fun (x:Int)=>if ltI x (zD xs)=true then
     (idx xs x).bind fun x_1=>(f (x_1,())).bind fun x_2=>if x_2.1=true then Comp.pure (.done (Sum.inr x)) else Comp.pure (.next (zG .i64 x 1))
    else Comp.pure (.done (Sum.inl ())))
  (fun s i x hx hs=>by
   subst hs;have gF:=zN hx
   have h1:(s:Int)<zD xs:=by grind
   simp only[zY,h1,if_true,zA,zO hx,zLX,hf x (zLe hx),zJ (show s<9223372036854775807 by omega)]
   cases hp:p x<;>simp[Comp.Step.map])
  (fun s i x s' hx hs he=>by
   grind)
  (fun s hs=>by
   simp[zQ,zY]) 0 rfl
 rw[key xs 0]at h;rw[zA];refine(zLq (fun o=>Option.bind o _) h).trans ?_
 rw[zLX];cases fnd p xs 0<;>exact Comp.zB _
def zHt(x0:List α)(x1:α×Unit->Comp (Bool×Unit)):Comp (Bool×Unit):=(IA x0 x1).bind fun x=>Comp.pure (geI x.1 0,())
theorem Z0{xs:List α}{f:α×Unit->Comp (Bool×Unit)}{p:α->Bool}(hl:xs.length<9223372036854775807)(hf:∀x∈xs,(f (x,())).val=some (p x,())):(zHt xs f).val=some (xs.any p,()):=by
 unfold zHt;rw[zA,Bx hl hf,zLX,Comp.zB,<-mz (i:=0)];cases fnd p xs 0<;>simp[zAB,geI]
end Go.Geo
end
noncomputable section
namespace Go.Geo
open Go Go.Eng Go.Lift Go.Den
variable {α β γ δ ε σ τ:Type}
def S2(z:α)(x0:Int):Comp (List α×Unit) :=
 jn
  (fun (x:Unit)=>jn (fun (x:List α)=>Comp.pure (x,()))
    fun (j:List α->Comp (List α×Unit))=>if gtI (vu .i64 x0 0) 0=true then
     jn (fun (x:List α)=>j x)
      fun (j:List α->Comp (List α×Unit))=>((sub [] 0 0).bind fun (x:List Unit)=>Comp.pure ()).bind fun x=>(mk (vu .i64 x0 0) z).bind fun zs=>(sub zs 0 0).bind fun ys=>j ys
    else j [])
  fun (j:Unit->Comp (List α×Unit))=>if ltI x0 0=true then Comp.fail else j ()
theorem QC{z:α}{n:Nat}(h:n<=LIM):(S2 z n).val=some ([],()):=by
 have hL:=YY;unfold S2;simp only[vo,zY,Jv,Jg (show -9223372036854775808<=(n:Int)-0/\(n:Int)-0<9223372036854775808 by omega)]
 rw[zMA (by omega)]
 rw[Xu];split
 ·have h1:(sub ([]:List Unit) 0 0).val=some []:=by grind [YS]
  have h2:(mk ((n:Int)-0) z).val=some (List.replicate n z):=by grind [mk_val]
  simp_all [YS,zA]
 ·exact Comp.zB _
def zHx(z:α)(x0:List (List α)):Comp (List α×Unit) :=
 (Comp.loop
   (fun (x:Int×Int)=>if ltI x.2 (zD x0)=true then
     (idx x0 x.2).bind fun x_1=>jn (fun (x_2:Unit)=>Comp.pure (.next (zG .i64 x.1 (zD x_1),zG .i64 x.2 1)))
       fun (j:Unit->Comp (Comp.Step (Int×Int) Int))=>if ltI (zG .i64 x.1 (zD x_1)) 0=true then Comp.fail else j ()
    else Comp.pure (.done x.1))
   (0,0)).bind fun x=>(S2 z x).bind fun y=>(Comp.loop
     (fun (x:List α×Int)=>if ltI x.2 (zD x0)=true then
       (idx x0 x.2).bind fun x_1=>(app x.1 x_1).bind fun zs=>Comp.pure (.next (zs,zG .i64 x.2 1))
      else Comp.pure (.done x.1))
     (y.1,0)).bind fun x=>Comp.pure (x,())
theorem YN{xs:List (List α)}{i:Nat}{x:List α}(h:xs[i]?=some x):(xs.take (i+1)).flatten=(xs.take i).flatten++x:=by
 grind [List.take_add_one]
theorem tv{xs:List (List α)}(i:Nat):(xs.take i).flatten.length<=xs.flatten.length:=by
 grind [List.take_append_drop]
theorem lK{z:α}{xs:List (List α)}(h:xs.flatten.length<=LIM)(hn:xs.length<9223372036854775807):(zHx z xs).val=some (xs.flatten,()):=by
 have hL:=YY;unfold zHx;have h1:=Comp.Yf (fun (s:Nat) i=>(((s:Nat):Int),((i:Nat):Int))) xs (fun (s:Nat) x=>.next (s+x.length)) (fun s=>((s:Nat):Int)) (fun s i=>s=(xs.take i).flatten.length)
  (body:=fun (x:Int×Int)=>if ltI x.2 (zD xs)=true then
     (idx xs x.2).bind fun x_1=>jn (fun (x_2:Unit)=>Comp.pure (.next (zG .i64 x.1 (zD x_1),zG .i64 x.2 1)))
       fun (j:Unit->Comp (Comp.Step (Int×Int) Int))=>if ltI (zG .i64 x.1 (zD x_1)) 0=true then Comp.fail else j ()
    else Comp.pure (.done x.1))
  (fun s i x hx hs=>by
   have gF:=zN hx;have h1:(i:Int)<zD xs:=by grind
   have h2:s+x.length<=LIM:=by
    have:=tv (xs:=xs) (i+1);rw[YN hx,zLa]at this;omega
   have h3:zG .i64 (s:Int) (zD x)=((s+x.length:Nat):Int):=by grind
   simp only[vo,zY,h1,if_true,zA,zO hx,zLX,h3];rw[zMA (by omega),Comp.zB,zJ (show i<9223372036854775807 by omega)]
   rfl)
  (fun s i x s' hx hs he=>by simp_all [YN])
  (fun s hs=>by
   simp[zQ,zY]) 0 (by simp)
 have hsum:Comp.Za (fun (s:Nat) (x:List α)=>(.next (s+x.length):Comp.Step Nat Int)) (fun s=>((s:Nat):Int)) 0 xs=((xs.flatten.length:Nat):Int):=by
  have key:∀(ys:List (List α)) (s:Nat),Comp.Za (fun (s:Nat) (x:List α)=>(.next (s+x.length):Comp.Step Nat Int)) (fun s=>((s:Nat):Int)) s ys=((s+ys.flatten.length:Nat):Int):=by
   intro ys
   induction ys with
   |nil=>grind [Comp.Za]
   |cons y ys ih=>grind [Comp.Za]
  grind
 rw[hsum]at h1;have h2:=Comp.Yf (fun (s:List α) i=>(s,((i:Nat):Int))) xs (fun (s:List α) x=>.next (s++x)) (fun s=>s) (fun s i=>s=(xs.take i).flatten)
  (body:=fun (x:List α×Int)=>if ltI x.2 (zD xs)=true then
       (idx xs x.2).bind fun x_1=>(app x.1 x_1).bind fun zs=>Comp.pure (.next (zs,zG .i64 x.2 1))
      else Comp.pure (.done x.1))
  (fun s i x hx hs=>by
   have gF:=zN hx;have h1:(i:Int)<zD xs:=by grind
   have h2:s.length+x.length<=LIM:=by
    have:=tv (xs:=xs) (i+1);rw[YN hx,zLa]at this;grind
   simp only[zY,h1,if_true,zA,zO hx,zLX,yY h2,Comp.zB,zJ (show i<9223372036854775807 by omega)]
   rfl)
  (fun s i x s' hx hs he=>by grind [YN])
  (fun s hs=>by
   simp[zQ,zY]) [] (by simp)
 have iX:Comp.Za (fun (s:List α) (x:List α)=>(.next (s++x):Comp.Step (List α) (List α))) (fun s=>s) [] xs=xs.flatten:=by
  have key:∀(ys:List (List α)) (s:List α),Comp.Za (fun (s:List α) (x:List α)=>(.next (s++x):Comp.Step (List α) (List α))) (fun s=>s) s ys=s++ys.flatten:=by
   intro ys
   induction ys with
   |nil=>grind [Comp.Za]
   |cons y ys ih=>grind [Comp.Za]
  grind
 rw[iX]at h2;rw[zA];refine(zLq (fun o=>Option.bind o _) h1).trans ?_
 rw[zLX,zA,QC h,zLX,zA];simp_all
def zHu(x0:List α):Comp (List α×Unit):=amb (uS x0) (Comp.pure ([],())) ((app [] x0).bind fun zs=>Comp.pure (zs,()))
theorem HS{xs:List α}(h:xs.length<=LIM):(zHu xs).val=some (xs,()):=by
 unfold zHu;refine Wi (fun he=>?_) ?_
 ·cases xs with
  |nil=>exact Comp.zB _
  |cons=>cases he
 simp_all [zA,yY]
def zHs(z:α)(xs:List α)(x0:α×Unit->Comp (Bool×Unit)):Comp (List α) :=
 (IA xs x0).bind fun x=>if eqI x.1 (-1)=true then Comp.pure xs
  else
   (Comp.loop
      (fun (x:List α×Int×Int)=>if ltI x.2.2 (zD x.1)=true then
        (idx x.1 x.2.2).bind fun x_1=>(x0 (x_1,())).bind fun x_2=>jn (fun (x_3:List α×Int)=>Comp.pure (.next (x_3.1,x_3.2,zG .i64 x.2.2 1)))
           fun (j:List α×Int->Comp (Comp.Step (List α×Int×Int) (List α×Int)))=>if ntB x_2.1=true then (inb x.1.length x.2.1).bind fun x_3=>j (jy x.1 x.2.1 x_1,zG .i64 x.2.1 1)
           else j (x.1,x.2.1)
       else Comp.pure (.done (x.1,x.2.1)))
      (xs,x.1,zG .i64 x.1 1)).bind fun x=>((sub x.1 x.2 (zD x.1)).bind fun x=>Comp.pure ()).bind fun x_1=>(sub x.1 (Int.ofNat x.2.toNat) (zD x.1)).bind fun x_2=>jn (fun (x:List α)=>Comp.pure x)
       fun (j:List α->Comp (List α))=>(sub (List.take x.2.toNat x.1++List.replicate (x.1.length.sub x.2.toNat) z) 0 x.2).bind fun ys=>j ys
theorem HR{z:α}{l:List α}{k:Nat}(h:k<=l.length):(((sub l (k:Int) (zD l)).bind fun x=>Comp.pure ()).bind fun x_1=>(sub l (Int.ofNat (k:Int).toNat) (zD l)).bind fun x_2=>jn (fun (x:List α)=>Comp.pure x)
       fun (j:List α->Comp (List α))=>(sub (List.take (k:Int).toNat l++List.replicate (l.length.sub (k:Int).toNat) z) 0 (k:Int)).bind fun ys=>j ys).val=some (l.take k):=by
 have e:Int.ofNat (k:Int).toNat=(k:Int):=by simp
 have e2:(k:Int).toNat=k:=by simp
 rw[e,e2];have h1:(sub l (k:Int) (zD l)).val=some (l.drop k):=by simp_all [YS,zQ]
 have h2:(sub (List.take k l++List.replicate (l.length.sub k) z) 0 (k:Int)).val=some (l.take k):=by
  grind [YS]
 simp_all [zA,vo]
theorem HQ{z:α}{xs:List α}{f:α×Unit->Comp (Bool×Unit)}{p:α->Bool}(hl:xs.length<9223372036854775807)(hf:∀x∈xs,(f (x,())).val=some (p x,())):(zHs z xs f).val=some (xs.filter fun x=>!p x):=by
 unfold zHs;rw[zA,Bx hl hf,zLX]
 cases iY:fnd p xs 0 with
 |none =>
  have c6:xs.any p=false:=by grind [mz]
  simp only[zAB,eqI,decide_true,if_true,Comp.zB];grind [List.filter_eq_self]
 |some i =>
  obtain⟨_,x,hx,hp,sH⟩:=B5 iY;rw[Nat.sub_zero]at hx sH;have gF:=zN hx
  have fD:¬((i:Int) = -1):=by omega
  simp only[zAB,Z6,fD,if_false];have fW:(xs.take (i+1)).filter (fun x=>!p x)=xs.take i:=by
   rw[List.take_add_one,hx,List.filter_append];simp only[Option.toList_some,List.filter_cons,hp,Bool.not_true,Bool.false_eq_true,if_false,List.filter_nil,zMF];grind [List.filter_eq_self,List.mem_iff_getElem?]
  -- the state: what is kept,then what was not walked over yet
  let st:List α->Nat->List α×Int×Int:=fun l k=>(l,(((xs.take k).filter fun x=>!p x).length:Int),(k:Int))
  have inv:∀(m k:Nat) (l:List α),k+m=xs.length->i+1<=k->l.length=xs.length->l.take ((xs.take k).filter fun x=>!p x).length=(xs.take k).filter (fun x=>!p x)->l.drop k=xs.drop k->∃l',l'.length=xs.length/\l'.take (xs.filter fun x=>!p x).length=xs.filter (fun x=>!p x)/\(Comp.loop
      (fun (x:List α×Int×Int)=>if ltI x.2.2 (zD x.1)=true then
        (idx x.1 x.2.2).bind fun x_1=>(f (x_1,())).bind fun x_2=>jn (fun (x_3:List α×Int)=>Comp.pure (.next (x_3.1,x_3.2,zG .i64 x.2.2 1)))
           fun (j:List α×Int->Comp (Comp.Step (List α×Int×Int) (List α×Int)))=>if ntB x_2.1=true then (inb x.1.length x.2.1).bind fun x_3=>j (jy x.1 x.2.1 x_1,zG .i64 x.2.1 1)
           else j (x.1,x.2.1)
       else Comp.pure (.done (x.1,x.2.1)))
      (st l k)).val=some (l',((xs.filter fun x=>!p x).length:Int)):=by
   intro m
   induction m with
   |zero =>
    intro k l hk eT cV ht hd;have hk':k=xs.length:=by omega
    subst hk';rw[List.take_length]at ht;refine⟨l,cV,ht,?_⟩;rw[zM];have h1:¬((xs.length:Int)<zD l):=by grind
    simp only[st,zY,h1,if_false,Comp.zB,zLX,List.take_length]
   |succ m ih =>
    intro k l hk eT cV ht hd;have aL:k<xs.length:=by omega
    obtain⟨y,hy⟩:∃y,xs[k]?=some y:=⟨xs[k],by grind⟩
    have hly:l[k]?=some y:=by
     have h1:(l.drop k)[0]?=some y:=by grind
     grind
    have h1:(k:Int)<zD l:=by grind
    have hcnt:((xs.take k).filter fun x=>!p x).length<=k:=by
     grind [zLu]
    -- at least one was dropped
    have hcnt':((xs.take k).filter fun x=>!p x).length<k:=by
     have:xs.take k=xs.take (i+1)++(xs.take k).drop (i+1):=by
      conv=>lhs;rw[<-List.take_append_drop (i+1) (xs.take k)]
      grind
     rw[this,List.filter_append,fW,zLa];have h2:=List.length_filter_le (fun x=>!p x) ((xs.take k).drop (i+1))
     rw[List.length_drop,zLu]at h2;rw[zLu];omega
    have fT:xs.take (k+1)=xs.take k++[y]:=by grind [List.take_add_one]
    have hd':l.drop (k+1)=xs.drop (k+1):=by rw[<-List.drop_drop,hd,List.drop_drop]
    rw[zM];have e1:(idx l (k:Int)).val=some y:=zO hly
    have e2:=hf y (zLe hy)
    cases hpy:p y with
    |true =>
     obtain⟨l',g1,g2,g3⟩:=ih (k+1) l (by omega) (by omega) cV (by simp_all) hd'
     refine⟨l',g1,g2,?_⟩;rw[<-g3];simp only[st,zY,h1,if_true,zA,e1,zLX,e2,hpy,vo,yS,Bool.not_true,Bool.false_eq_true,if_false,Comp.zB,zJ (show k<9223372036854775807 by omega)]
     simp_all
    |false =>
     have hc:((xs.take k).filter fun x=>!p x).length<l.length:=by omega
     obtain⟨l',g1,g2,g3⟩:=ih (k+1) (l.set ((xs.take k).filter fun x=>!p x).length y) (by omega) (by omega) (by grind)
      (by
       rw[fT,List.filter_append];simp only[List.filter_cons,hpy,Bool.not_false,if_true,List.filter_nil,zLa,zLc];simp_all [List.take_add_one,List.take_set_of_le])
      (by grind [List.drop_set_of_lt])
     refine⟨l',g1,g2,?_⟩;rw[<-g3];have e3:(inb l.length (((xs.take k).filter fun x=>!p x).length:Int)).val=some ():=ga (by omega)
     simp only[st,zY,h1,if_true,zA,e1,zLX,e2,hpy,vo,yS,Bool.not_false,Comp.zB,zJ (show k<9223372036854775807 by omega),e3,jy,Int.toNat_natCast,zJ (show ((xs.take k).filter fun x=>!p x).length<9223372036854775807 by omega)]
     simp_all
  obtain⟨l',g1,g2,g3⟩:=inv (xs.length-(i+1)) (i+1) xs (by omega) (zLb _) rfl (by grind) rfl
  have fZ:st xs (i+1)=(xs,(i:Int),zG .i64 (i:Int) 1):=by
   grind
  rw[fZ]at g3;rw[zA];refine(zLq (fun o=>Option.bind o _) g3).trans ?_
  rw[zLX];refine(HR (z:=z) ?_).trans ?_
  ·grind
  ·rw[g2]
def KB [DecidableEq α]:α->List α->List α
 |_,[]=>[]
 |x,y::l=>if y=x then KB y l else y::KB y l
def cpc [DecidableEq α]:List α->List α
 | []=>[]
 |x::l=>x::KB x l
theorem wW [DecidableEq α]{a b:α}:∀ {l:List α} {x:α},KB x (l++[a,b])=KB x (l++[a])++if b=a then [] else [b]
 | [],x=>by
  grind [KB]
 |y::l,x=>by
  simp only[List.cons_append,KB];split
  ·exact wW
  ·rw[wW];rfl
theorem QQ [DecidableEq α]{a b:α}{l:List α}:cpc (l++[a,b])=cpc (l++[a])++if b=a then [] else [b]:=by
 cases l with
 |nil=>grind [cpc,KB]
 |cons x l=>grind [cpc,wW]
theorem JN [DecidableEq α]{xs:List α}{k:Nat}{a b:α}(ha:xs[k]?=some a)(hb:xs[k+1]?=some b):cpc (xs.take (k+1+1))=cpc (xs.take (k+1))++if b=a then [] else [b]:=by
 grind [List.take_add_one,QQ]
theorem CM [DecidableEq α]:∀ {l:List α} {x:α},(KB x l).length<=l.length
 | [],_=>zLb _
 |y::l,x=>by
  have:=CM (l:=l) (x:=y);grind [KB]
theorem WO [DecidableEq α]:∀ {l:List α},(cpc l).length<=l.length
 | []=>zLb _
 |x::l=>by grind [CM,cpc]
end Go.Geo
end
section
namespace Go.Geo
open Go Go.Eng Go.Lift Go.Den
variable {α β γ δ ε σ τ:Type}
def zFF(eq:α->α->Bool)(x2:Int)(x1:List α):Comp (List α×Int) :=
 Comp.loop
  (fun (x_4:List α×Int×Int)=>if ltI x_4.2.2 (zD (List.drop x2.toNat x_4.1))=true then
    (idx (List.drop x2.toNat x_4.1) x_4.2.2).bind fun x_5=>(idx (List.drop x2.toNat x_4.1) (vu .i64 x_4.2.2 1)).bind fun x_6=>jn
       (fun (x:List α×Int)=>Comp.pure (.next (x.1,x.2,zG .i64 x_4.2.2 1)))
       fun (j:List α×Int->Comp (Comp.Step (List α×Int×Int) (List α×Int)))=>if ntB (eq x_5 x_6)=true then
        (idx (List.drop x2.toNat x_4.1) x_4.2.2).bind fun x=>(inb x_4.1.length x_4.2.1).bind fun x_7=>j (jy x_4.1 x_4.2.1 x,zG .i64 x_4.2.1 1)
       else j (x_4.1,x_4.2.1)
   else Comp.pure (.done (x_4.1,x_4.2.1)))
  (x1,x2,1)
def zFE(eq:α->α->Bool)(z:α)(xs:List α):Comp (List α) :=
 if ltI (zD xs) 2=true then Comp.pure xs
 else
  (Comp.loop
     (fun (x:List α×Int)=>if ltI x.2 (zD x.1)=true then
       (idx x.1 x.2).bind fun x_1=>(idx x.1 (vu .i64 x.2 1)).bind fun x_2=>if eq x_1 x_2=true then
          ((sub x.1 x.2 (zD x.1)).bind fun x=>Comp.pure ()).bind fun x_3=>(zFF eq x.2 x.1).bind fun x=>((sub x.1 x.2 (zD x.1)).bind fun x=>Comp.pure ()).bind fun x_4=>(sub x.1 (Int.ofNat x.2.toNat) (zD x.1)).bind fun x_5=>jn (fun (x:List α)=>Comp.pure (.done (Sum.inr x)))
               fun (j:List α->Comp (Comp.Step (List α×Int) (List α⊕List α)))=>(sub (List.take x.2.toNat x.1++List.replicate (x.1.length.sub x.2.toNat) z) 0 x.2).bind fun ys=>j ys
         else Comp.pure (.next (x.1,zG .i64 x.2 1))
      else Comp.pure (.done (Sum.inl x.1)))
     (xs,1)).bind fun (x:List α⊕List α)=>match x with
   |Sum.inl x=>Comp.pure x
   |Sum.inr x=>Comp.pure x
theorem zK{xs:List α}{k:Nat}(h:k<xs.length):∃y,xs[k]?=some y:=⟨xs[k],by simp[h]⟩
theorem wz{l xs:List α}{i k:Nat}(h:l.drop i=xs.drop i)(hi:i<=k):l[k]?=xs[k]?:=by
 have:(l.drop i)[k-i]?=(xs.drop i)[k-i]?:=by rw[h]
 grind
theorem QR [DecidableEq α]{eq:α->α->Bool}(fV:∀x y,eq x y=decide (x=y)){xs:List α}(hl:xs.length<9223372036854775807){i0:Nat}(h0:1<=i0)(hi:i0<xs.length)(fW:cpc (xs.take i0)=xs.take i0)(hdup:xs[i0]?=xs[i0-1]?) :
  ∃l',l'.length=xs.length/\l'.take (cpc xs).length=cpc xs/\(zFF eq (i0:Int) xs).val=some (l',((cpc xs).length:Int)):=by
 have inv:∀(m k:Nat) (l:List α),i0+k+m=xs.length->1<=k->l.length=xs.length->l.take (cpc (xs.take (i0+k))).length=cpc (xs.take (i0+k))->l.drop (i0+k-1)=xs.drop (i0+k-1)->∃l',l'.length=xs.length/\l'.take (cpc xs).length=cpc xs/\(Comp.loop
  (fun (x_4:List α×Int×Int)=>if ltI x_4.2.2 (zD (List.drop (i0:Int).toNat x_4.1))=true then
    (idx (List.drop (i0:Int).toNat x_4.1) x_4.2.2).bind fun x_5=>(idx (List.drop (i0:Int).toNat x_4.1) (vu .i64 x_4.2.2 1)).bind fun x_6=>jn
       (fun (x:List α×Int)=>Comp.pure (.next (x.1,x.2,zG .i64 x_4.2.2 1)))
       fun (j:List α×Int->Comp (Comp.Step (List α×Int×Int) (List α×Int)))=>if ntB (eq x_5 x_6)=true then
        (idx (List.drop (i0:Int).toNat x_4.1) x_4.2.2).bind fun x=>(inb x_4.1.length x_4.2.1).bind fun x_7=>j (jy x_4.1 x_4.2.1 x,zG .i64 x_4.2.1 1)
       else j (x_4.1,x_4.2.1)
   else Comp.pure (.done (x_4.1,x_4.2.1)))
  (l,((cpc (xs.take (i0+k))).length:Int),(k:Int))).val=some (l',((cpc xs).length:Int)):=by
  intro m
  induction m with
  |zero =>
   intro k l hk h1 cV ht hd;rw[show i0+k=xs.length by omega,List.take_length]at ht |-
   refine⟨l,cV,ht,?_⟩;rw[zM];have h1:¬((k:Int)<zD (List.drop (i0:Int).toNat l)):=by grind
   simp only[zY,h1,if_false,Comp.zB,zLX]
  |succ m ih =>
   intro k l hk h1 cV ht hd;obtain⟨b,hb⟩:=zK (xs:=xs) (k:=i0+k) (by omega)
   obtain⟨a,ha⟩:=zK (xs:=xs) (k:=i0+k-1) (by omega)
   have hlb:l[i0+k]?=some b:=by grind [wz]
   have hla:l[i0+k-1]?=some a:=by grind [wz]
   have gF:(k:Int)<zD (List.drop (i0:Int).toNat l):=by grind
   have e1:(idx (List.drop (i0:Int).toNat l) (k:Int)).val=some b:=zO (by rw[Int.toNat_natCast,List.getElem?_drop];exact hlb)
   have e2:(idx (List.drop (i0:Int).toNat l) (vu .i64 (k:Int) 1)).val=some a:=by
    rw[Jg (by omega),show (k:Int)-1=((k-1:Nat):Int) by omega]
    exact zO (by rw[Int.toNat_natCast,List.getElem?_drop,show i0+(k-1)=i0+k-1 by omega];exact hla)
   have fT:=JN (xs:=xs) (k:=i0+k-1) ha (by rw[show i0+k-1+1=i0+k by omega];exact hb)
   rw[show i0+k-1+1=i0+k by omega]at fT
   -- fewer are kept than were seen
   have hcnt:(cpc (xs.take (i0+k))).length<i0+k:=by
    have base:(cpc (xs.take (i0+1))).length=i0:=by
     obtain⟨c,hc⟩:=zK (xs:=xs) (k:=i0) hi;have h2:=JN (xs:=xs) (k:=i0-1) (a:=c) (b:=c) (by grind) (by grind)
     rw[show i0-1+1=i0 by omega,zLz rfl,zMF]at h2
     grind
    have mono:∀j,(cpc (xs.take (i0+1+j))).length<=i0+j:=by
     intro j
     induction j with
     |zero=>grind
     |succ j ihj =>
      by_cases hj:i0+1+j<xs.length
      ·obtain⟨b',hb'⟩:=zK (xs:=xs) (k:=i0+j+1) (by omega)
       obtain⟨a',ha'⟩:=zK (xs:=xs) (k:=i0+j) (by omega)
       have h3:=JN ha' hb';rw[show i0+1+(j+1)=i0+j+1+1 by omega,h3,zLa]
       rw[show i0+1+j=i0+j+1 by omega]at ihj
       split<;>simp<;>omega
      grind [List.take_of_length_le]
    have:=mono (k-1);rw[show i0+1+(k-1)=i0+k by omega]at this;omega
   have hd1:l.drop (i0+(k+1)-1)=xs.drop (i0+(k+1)-1):=by
    have:(l.drop (i0+k-1)).drop 1=(xs.drop (i0+k-1)).drop 1:=by rw[hd]
    rw[List.drop_drop,List.drop_drop,show i0+k-1+1=i0+(k+1)-1 by omega]at this
    omega
   by_cases eN:b=a
   ·rw[zLz eN,zMF]at fT
    rw[show i0+k+1=i0+(k+1) by omega]at fT
    obtain⟨l',g1,g2,g3⟩:=ih (k+1) l (by omega) (by omega) cV (by grind) hd1
    refine⟨l',g1,g2,?_⟩;rw[fT]at g3;rw[<-g3]
    conv=>lhs;rw[zM]
    simp only[zY,gF,if_true,zA,e1,e2,zLX,vo,fV,eN,decide_true,yS,Bool.not_true,Bool.false_eq_true,if_false,Comp.zB,zJ (show k<9223372036854775807 by omega)]
   ·rw[zMA eN]at fT
    rw[show i0+k+1=i0+(k+1) by omega]at fT
    have hc:(cpc (xs.take (i0+k))).length<l.length:=by omega
    obtain⟨l',g1,g2,g3⟩:=ih (k+1) (l.set (cpc (xs.take (i0+k))).length b) (by omega) (by omega) (by grind)
     (by
      rw[fT,zLa,zLc,List.take_add_one,List.take_set_of_le (zLb _),ht];grind)
     (by grind [List.drop_set_of_lt])
    refine⟨l',g1,g2,?_⟩;rw[fT]at g3;rw[<-g3];have e3:(inb l.length ((cpc (xs.take (i0+k))).length:Int)).val=some ():=ga (by omega)
    simp only[Int.toNat_natCast]at gF e1 e2
    conv=>lhs;rw[zM]
    simp only[zY,gF,if_true,zA,e1,e2,e3,zLX,vo,fV,eN,decide_false,yS,Bool.not_false,Comp.zB,zJ (show k<9223372036854775807 by omega),jy,Int.toNat_natCast,zJ (show (cpc (xs.take (i0+k))).length<9223372036854775807 by omega),zLa,zLc]
 have cG:cpc (xs.take (i0+1))=xs.take i0:=by
  obtain⟨c,hc⟩:=zK (xs:=xs) (k:=i0) hi;have h2:=JN (xs:=xs) (k:=i0-1) (a:=c) (b:=c) (by grind) (by grind)
  grind
 obtain⟨l',g1,g2,g3⟩:=inv (xs.length-(i0+1)) 1 xs (by omega) (zLb _) rfl (by grind) rfl
 refine⟨l',g1,g2,?_⟩;rw[<-g3,cG,zLu,Nat.min_eq_left (by omega)]
 rfl
theorem WM [DecidableEq α]{eq:α->α->Bool}(fV:∀x y,eq x y=decide (x=y)){z:α}{xs:List α}(hl:xs.length<9223372036854775807):(zFE eq z xs).val=some (cpc xs):=by
 unfold zFE;rw[Xu];split
 ·rename_i h
  rw[zY,zQ]at h;rw[Comp.zB]
  match xs,h with
  | [],_=>rfl
  | [x],_=>rfl
  |x::y::l,h=>grind
 ·rename_i h
  rw[zY,zQ]at h;have inv:∀(m k:Nat),k+m=xs.length->1<=k->cpc (xs.take k)=xs.take k->∃r:List α⊕List α,(r=.inl (cpc xs)\/r=.inr (cpc xs))/\(Comp.loop
     (fun (x:List α×Int)=>if ltI x.2 (zD x.1)=true then
       (idx x.1 x.2).bind fun x_1=>(idx x.1 (vu .i64 x.2 1)).bind fun x_2=>if eq x_1 x_2=true then
          ((sub x.1 x.2 (zD x.1)).bind fun x=>Comp.pure ()).bind fun x_3=>(zFF eq x.2 x.1).bind fun x=>((sub x.1 x.2 (zD x.1)).bind fun x=>Comp.pure ()).bind fun x_4=>(sub x.1 (Int.ofNat x.2.toNat) (zD x.1)).bind fun x_5=>jn (fun (x:List α)=>Comp.pure (.done (Sum.inr x)))
               fun (j:List α->Comp (Comp.Step (List α×Int) (List α⊕List α)))=>(sub (List.take x.2.toNat x.1++List.replicate (x.1.length.sub x.2.toNat) z) 0 x.2).bind fun ys=>j ys
         else Comp.pure (.next (x.1,zG .i64 x.2 1))
      else Comp.pure (.done (Sum.inl x.1)))
     (xs,(k:Int))).val=some r:=by
   intro m
   induction m with
   |zero =>
    intro k hk h1 hp;rw[show k=xs.length by omega,List.take_length]at hp
    refine⟨.inl (cpc xs),.inl rfl,?_⟩;rw[zM];simp_all [zQ,zY]
   |succ m ih =>
    intro k hk h1 hp;obtain⟨b,hb⟩:=zK (xs:=xs) (k:=k) (by omega)
    obtain⟨a,ha⟩:=zK (xs:=xs) (k:=k-1) (by omega)
    have gF:(k:Int)<zD xs:=by grind
    have e1:(idx xs (k:Int)).val=some b:=zO hb;have e2:(idx xs (vu .i64 (k:Int) 1)).val=some a:=by
     grind [zO]
    by_cases eN:b=a
    ·subst eN
     obtain⟨l',g1,g2,g3⟩:=QR fV hl h1 (by omega) hp (by grind)
     refine⟨.inr (cpc xs),.inr rfl,?_⟩;have e4:(sub xs (k:Int) (zD xs)).val=some (xs.drop k):=by grind [YS]
     have e5:=HR (z:=z) (l:=l') (k:=(cpc xs).length) (by grind)
     rw[g2]at e5;simp only[zA,vo,Comp.zB]at e5;rw[zM];simp only[zY,gF,if_true,zA,e1,e2,zLX,fV,decide_true,e4,Comp.zB,g3,vo]
     revert e5
     generalize (sub l' ((cpc xs).length:Int) (zD l')).val=o1;generalize (sub l' (Int.ofNat ((cpc xs).length:Int).toNat) (zD l')).val=o2;generalize (sub (List.take ((cpc xs).length:Int).toNat l'++List.replicate (l'.length.sub ((cpc xs).length:Int).toNat) z) 0 ((cpc xs).length:Int)).val=o3;intro e5;cases o1<;>cases o2<;>cases o3<;>simp_all
    ·obtain⟨r,g1,g2⟩:=ih (k+1) (by omega) (by omega) (by
      have fT:=JN (xs:=xs) (k:=k-1) ha (by rw[show k-1+1=k by omega];exact hb)
      rw[show k-1+1=k by omega,zMA eN,hp]at fT
      grind [List.take_add_one])
     refine⟨r,g1,?_⟩;rw[<-g2]
     conv=>lhs;rw[zM]
     simp only[zY,gF,if_true,zA,e1,e2,zLX,fV,eN,decide_false,Bool.false_eq_true,if_false,Comp.zB,zJ (show k<9223372036854775807 by omega)]
  obtain⟨r,g1,g2⟩:=inv (xs.length-1) 1 (by omega) (zLb _) (by
   match xs with
   | []=>rfl
   |x::l=>rfl)
  rw[zA];refine(zLq (fun o=>Option.bind o _) g2).trans ?_
  rw[zLX];rcases g1 with rfl|rfl<;>exact Comp.zB _
end Go.Geo
end
noncomputable section
namespace Go.Den
open Go Go.Lift
abbrev Pln:=(Int×Int×Int×Unit)×Int×Unit
def X9(p q:Pln):Int :=
 if p.1.1<q.1.1 then -1 else if q.1.1<p.1.1 then 1 else
 if p.1.2.1<q.1.2.1 then -1 else if q.1.2.1<p.1.2.1 then 1 else
 if p.1.2.2.1<q.1.2.2.1 then -1 else if q.1.2.2.1<p.1.2.2.1 then 1 else
 if p.2.1<q.2.1 then -1 else if q.2.1<p.2.1 then 1 else 0
def K4(p:Pln):List Pln->List Pln
 | []=>[p]
 |q::l=>if X9 q p<0 then q::K4 p l else p::q::l
def Jw:List Pln->List Pln
 | []=>[]
 |p::l=>K4 p (Jw l)
open Classical in
def Cj(xs:List Pln)(c:Pln×Pln×Unit->Comp (Int×Unit)):Comp (List Pln) :=
 if xs.length<=LIM/\∀x y,∃n,(c (x,y,())).run n=some (X9 x y,()) then Comp.pure (Jw xs) else Comp.fail
def LtP(p q:Pln):Prop:=p.1.1<q.1.1\/(p.1.1=q.1.1/\(p.1.2.1<q.1.2.1\/(p.1.2.1=q.1.2.1/\(p.1.2.2.1<q.1.2.2.1\/(p.1.2.2.1=q.1.2.2.1/\p.2.1<q.2.1)))))
theorem pZ(p q:Pln):(X9 p q = -1/\LtP p q)\/(X9 p q=0/\p=q)\/(X9 p q=1/\LtP q p):=by
 obtain⟨⟨a,b,c,u⟩,d,v⟩:=p;obtain⟨⟨a',b',c',u'⟩,d',v'⟩:=q;unfold X9 LtP;grind
theorem LtP.irr{p:Pln}(h:LtP p p):False:=by unfold LtP at h;omega
theorem LtP.trans{p q r:Pln}(h:LtP p q)(k:LtP q r):LtP p r:=by unfold LtP at *;omega
theorem LtP.asym{p q:Pln}(h:LtP p q)(k:LtP q p):False:=(h.trans k).irr
theorem KN{p q:Pln}:X9 p q<0↔LtP p q:=by
 rcases pZ p q with ⟨h1,h2⟩|⟨h1,h2⟩|⟨h1,h2⟩
 ·grind
 ·subst h2;rw[h1];simp;exact fun h=>h.irr
 ·rw[h1];simp;exact fun h=>h.asym h2
theorem LtP.tri(p q:Pln):LtP p q\/p=q\/LtP q p:=by
 rcases pZ p q with ⟨_,h⟩|⟨_,h⟩|⟨_,h⟩
 ·grind
 ·grind
 grind
theorem wR(p:Pln):∀l,(K4 p l).Perm (p::l)
 | []=>.refl _
 |q::l=>by
  unfold K4;split
  ·exact((wR p l).cons q).trans (.swap p q l)
  grind
theorem rf:∀l,(Jw l).Perm l
 | []=>.refl _
 |p::l=>(wR p _).trans ((rf l).cons p)
theorem Bv(p:Pln):∀ {l:List Pln},l.Pairwise (fun p q=>¬LtP q p)->(K4 p l).Pairwise (fun p q=>¬LtP q p)
 | [],_=>by simp[K4]
 |q::l,h=>by
  rw[List.pairwise_cons]at h;unfold K4;split
  ·rename_i h1
   rw[List.pairwise_cons];refine⟨fun a ha=>?_,Bv p h.2⟩
   rcases zLd.1 ((wR p l).mem_iff.1 ha) with rfl|ha
   ·exact fun k=>(KN.1 h1).asym k
   grind
  ·rename_i h1
   rw[List.pairwise_cons];refine⟨fun a ha=>?_,List.pairwise_cons.2 h⟩
   have h2:¬LtP q p:=fun k=>h1 (KN.2 k)
   rcases zLd.1 ha with rfl|ha
   ·exact h2
   ·intro k
    rcases LtP.tri p q with h3|h3|h3
    ·exact h.1 a ha (k.trans h3)
    ·grind
    grind
theorem BG:∀l:List Pln,(Jw l).Pairwise (fun p q=>¬LtP q p)
 | []=>.nil
 |p::l=>Bv p (BG l)
end Go.Den
end
