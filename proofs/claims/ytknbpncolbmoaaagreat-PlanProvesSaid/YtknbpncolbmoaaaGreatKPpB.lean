/- Lemmas behind a claim. -/
import Derived.Test.YtknbpncolbmoaaaGreatKPpA
import Derived.ArgAppend
set_option linter.unusedSimpArgs false
set_option linter.unusedVariables false
open Go.Lift.Comp (run_bind zBU rp run_pure)
section
namespace Go.Den
open Go Go.RowKit Go.Eng Go.Lift
variable {α β γ δ:Type}
inductive AV
 |rd (t:Ty) (x:t.D)
 |pt (t:Ty) (x:t.D)
 |ob (k:Nat)
 |bx (k off:Nat)
 |ba (k off sz:Nat) (i:Int) (esz off2:Nat)
 |el (k:Nat) (i:Int) (esz off2:Nat)
 |pq (t:Ty) (x:t.D)
 |cl (f:FuncId) (a b:AV)
 |un
 |pr (a b:AV)
 |tp (l:AV)
 |ag (l:AV)
 |ex (v:Value)
 |nb (p e:Bool)
 |em (t:Ty) (xs:List t.D)
 |sx (k lo esz:Nat)
 |px (k n:Nat)
 |yl
 |top
structure Cx where
 P:Program
 O:zR
 U:Nat->Value
 n:Nat
 ι:Nat->Nat
 A:Nat->Prop
 F:Nat->Prop
 ep:Nat
 Lp:Nat
def Cx.B(X:Cx)(nw:Bool):Nat->Prop:=match nw with
 |true=>X.F
 |false=>X.A
structure AVS where
 v:Value->Prop
 l:List Value->Prop
 c:List Value->Prop
def one(v:Value->Prop):AVS:=⟨v,fun _=>False,fun cs=>∃u,cs=[u]/\u.oneCell'=true/\v u⟩
def AV.sem(X:Cx)(w:World):AV->AVS
 |.rd t x=>⟨fun u=>(t.gr X.P).v X.O w u x,fun _=>False,fun cs=>(t.gr X.P).rel X.O w cs x⟩
 |.pt t x=>one fun u=>lq (t.gr X.P) X.O w u x/\0<t.sz
 |.ob k=>one fun u=>u=X.U k/\k<X.n/\u.oneCell'=true
 |.bx k off=>one fun u=>k<X.n/\∃b,X.U k=.pointer (some ⟨b,0,none⟩)/\u=.pointer (some ⟨b,off,none⟩)
 |.ba k off sz i esz off2=>one fun u=>k<X.n/\0<=i/\i.toNat * esz+esz<=sz/\∃b,X.U k=.pointer (some ⟨b,0,none⟩)/\u=.pointer (some ⟨b,off+i.toNat * esz+off2,none⟩)
 |.el k i esz off2=>one fun u=>k<X.n/\0<=i/\(∃p n c,X.U k=.slice p n c/\i<n)/\nq (X.U k) (i.toNat * esz+off2) u
 |.pq t x=>⟨fun u=>∃v,Y9 w u v/\(t.gr X.P).v X.O w v x,fun _=>False,fun _=>False⟩
 |.cl f a b=>one fun u=>∃vs us,(a.sem X w).l vs/\(b.sem X w).l us/\u=.func (.func f) vs.toArray us.toArray
 |.un=>⟨fun _=>False,fun vs=>vs=[],fun cs=>cs=[]⟩
 |.pr a b=>⟨fun _=>False,fun vs=>∃v vs',vs=v::vs'/\(a.sem X w).v v/\(b.sem X w).l vs',fun cs=>∃c1 c2,cs=c1++c2/\(a.sem X w).c c1/\(b.sem X w).c c2⟩
 |.tp l=>⟨fun u=>∃vs,(l.sem X w).l vs/\u=.tuple vs.toArray,fun _=>False,fun _=>False⟩
 |.ag l=>⟨fun u=>∃cs,(l.sem X w).c cs/\u=.agg cs.toArray,fun _=>False,fun cs=>(l.sem X w).c cs⟩
 |.ex v=>⟨fun u=>u=v,fun _=>False,fun cs=>cs=v.cells.toList⟩
 |.em t xs=>one fun u=>(rSl (t.gr X.P)).v X.O w u xs/\∃p n,u=.slice p n n/\(p=none\/∃b off,p=some ⟨b,off,none⟩)
 |.sx k lo esz=>one fun u=>u=rS (X.U k) lo esz/\k<X.n
 |.px k n=>one fun u=>(u=Mh (X.U k) n/\∃p l c,X.U k=.slice p l c/\n<=l)/\k<X.n
 |.yl=>one fun u=>u=.func (.yield X.Lp) #[] #[]
 |.nb p e=>⟨fun u=>∃b,u=.bool b/\(b=p->e=true),fun _=>False,fun _=>False⟩
 |.top=>⟨fun _=>True,fun _=>False,fun _=>False⟩
abbrev AV.holds(X:Cx)(w:World)(u:Value)(φ:AV):Prop:=(φ.sem X w).v u
def AV.ze:AV->Bool
 |.pq ..=>true
 |.pr a b=>a.ze || b.ze
 |.tp l=>l.ze
 |.ag l=>l.ze
 |.cl _ a b=>a.ze || b.ze
 |_=>false
structure Cx.le(X:Cx)(w:World)(X':Cx)(w':World):Prop where
 P:X'.P=X.P
 k:zb 0 X.O w X'.O w'
 U:∀k,k<X.n->X'.U k=X.U k
 n:X.n<=X'.n
 L:X'.Lp=X.Lp
theorem Cx.le_refl(X:Cx)(w:World):X.le w X w:=⟨rfl,zb.refl _ _ _,fun _ _=>rfl,zLb _,rfl⟩
theorem Cx.le_ext(X:Cx){w w':World}(h:Ext w w'):X.le w X w':=⟨rfl,zb.ext h,fun _ _=>rfl,zLb _,rfl⟩
theorem ym{p q:Value->Prop}(h:∀u,p u->q u):(∀u,(one p).v u->(one q).v u)/\(∀vs,(one p).l vs->(one q).l vs)/\(∀cs,(one p).c cs->(one q).c cs) :=
 ⟨h,fun _ h=>h,fun cs ⟨u,h1,h2,h3⟩=>⟨u,h1,h2,h u h3⟩⟩
theorem AV.mono{X X':Cx}{w w':World}(hX:X.le w X' w')(φ:AV)(hf:φ.ze=true->Ext w w'):(∀u,(φ.sem X w).v u->(φ.sem X' w').v u)/\(∀vs,(φ.sem X w).l vs->(φ.sem X' w').l vs)/\(∀cs,(φ.sem X w).c cs->(φ.sem X' w').c cs):=by
 induction φ with
 |rd t x =>
  refine⟨fun u h=>?_,fun _ h=>h,fun cs h=>?_⟩
  ·show (t.gr X'.P).v _ _ _ _;rw[hX.P];exact GR.yu _ h hX.k
  ·show (t.gr X'.P).rel _ _ _ _;rw[hX.P];exact GR.mono _ hX.k h
 |pt t x =>
  refine ym fun u h=>?_
  have hs:0<(t.gr X.P).sz:=by grind [Ty.yr]
  rw[hX.P];exact⟨h.1.keep hX.k hs (Ty.fits _ _),h.2⟩
 |ob k=>exact ym fun u h=>⟨by rw[h.1,hX.U k h.2.1],zLm h.2.1 hX.n,h.2.2⟩
 |bx k off =>
  refine ym fun u h=>?_
  obtain⟨h1,b,h2,h3⟩:=h;exact⟨zLm h1 hX.n,b,by rw[hX.U k h1];exact h2,h3⟩
 |ba k off sz i esz off2 =>
  refine ym fun u h=>?_
  obtain⟨h1,h2,h3,b,h4,h5⟩:=h;exact⟨zLm h1 hX.n,h2,h3,b,by rw[hX.U k h1];exact h4,h5⟩
 |el k i esz off2 =>
  refine ym fun u h=>?_
  obtain⟨h1,h2,h3,h4⟩:=h;exact⟨zLm h1 hX.n,h2,by rw[hX.U k h1];exact h3,by rw[hX.U k h1];exact h4⟩
 |pq t x =>
  refine⟨fun u h=>?_,fun _ h=>h,fun _ h=>h⟩
  obtain⟨v,h1,h2⟩:=h;refine⟨v,h1.ext (hf rfl),?_⟩;rw[hX.P];exact GR.yu _ h2 hX.k
 |cl f a b iha ihb =>
  have iha:=iha fun h=>hf (by simp[AV.ze,h])
  have ihb:=ihb fun h=>hf (by simp[AV.ze,h])
  refine ym fun u h=>?_
  grind
 |un=>exact⟨fun _ h=>h,fun _ h=>h,fun _ h=>h⟩
 |pr a b iha ihb =>
  have iha:=iha fun h=>hf (by simp[AV.ze,h])
  have ihb:=ihb fun h=>hf (by simp[AV.ze,h])
  refine⟨fun _ h=>h,fun vs h=>?_,fun cs h=>?_⟩
  ·obtain⟨v,vs',h1,h2,h3⟩:=h
   exact⟨v,vs',h1,iha.1 _ h2,ihb.2.1 _ h3⟩
  ·obtain⟨c1,c2,h1,h2,h3⟩:=h
   exact⟨c1,c2,h1,iha.2.2 _ h2,ihb.2.2 _ h3⟩
 |tp l ih =>
  have ih:=ih hf;refine⟨fun u h=>?_,fun _ h=>h,fun _ h=>h⟩
  obtain⟨vs,h1,h2⟩:=h;exact⟨vs,ih.2.1 _ h1,h2⟩
 |ag l ih =>
  have ih:=ih hf;refine⟨fun u h=>?_,fun _ h=>h,fun cs h=>ih.2.2 _ h⟩
  obtain⟨cs,h1,h2⟩:=h;exact⟨cs,ih.2.2 _ h1,h2⟩
 |ex v=>exact⟨fun _ h=>h,fun _ h=>h,fun _ h=>h⟩
 |nb p e=>exact⟨fun _ h=>h,fun _ h=>h,fun _ h=>h⟩
 |em t xs=>exact ym fun u h=>⟨by rw[hX.P];exact GR.yu _ h.1 hX.k,h.2⟩
 |sx k lo esz=>exact ym fun u h=>⟨by rw[h.1,hX.U k h.2],zLm h.2 hX.n⟩
 |px k n=>exact ym fun u h=>⟨by rw[hX.U k h.2];exact h.1,zLm h.2 hX.n⟩
 |yl=>exact ym fun u h=>by rw[hX.L];exact h
 |top=>exact⟨fun _ h=>h,fun _ h=>h,fun _ h=>h⟩
theorem AV.ext{X:Cx}{w w' u}(φ:AV)(hE:Ext w w')(h:φ.holds X w u):φ.holds X w' u:=(φ.mono (X.le_ext hE) fun _=>hE).1 u h
theorem AV.le{X X':Cx}{w w' u}(φ:AV)(hf:φ.ze=false)(hX:X.le w X' w')(h:φ.holds X w u):φ.holds X' w' u:=(φ.mono hX fun h=>by grind).1 u h
inductive MV
 |sl (nw:Bool) (t:Ty) (T:TypeId) (xs:List t.D)
 |bx (nw:Bool) (c:AV) (T:TypeId)
 |fs (t:Ty) (xs:List t.D)
 |fb (t:Ty) (x:t.D)
 |fg (f:(t:Ty)->Option t.D)
 |mp (nw:Bool) (a b:Ty) (xs:List (a.D×b.D))
 |fm (a b:Ty) (xs:List (a.D×b.D))
 |dead
def MV.own:MV->Bool
 |.sl .. | .bx .. | .mp ..=>true
 |_=>false
def MV.holds(X:Cx)(w:World)(k:Nat):MV->Prop
 |.sl nw t T xs=>zo (X.ι k) (t.gr X.P) T (X.B nw) X.O w (X.U k) xs
 |.bx nw c T=>∃b cs,X.U k=.pointer (some ⟨b,0,none⟩)/\OwnB (X.ι k) (X.B nw) X.O w b cs T/\(c.sem X w).c cs.toList/\c.ze=false
 |.fs t xs=>(rSl (t.gr X.P)).v X.O w (X.U k) xs
 |.fb t x=>(KV (t.gr X.P)).v X.O w (X.U k) x
 |.fg f=>∀t x,f t=some x->(KV (t.gr X.P)).v X.O w (X.U k) x
 |.mp nw a b xs=>YA (X.ι k) (gj a) (b.gr X.P) (X.B nw) X.O w (X.U k) xs
 |.fm a b xs=>((Ty.mp a b).gr X.P).v X.O w (X.U k) xs
 |.dead=>True
theorem MV.le{X X':Cx}{w w':World}{k:Nat}(hX:X.le w X' w')(hk:k<X.n)(hι:X'.ι k=X.ι k)(hA:X'.A=X.A)(hF:X'.F=X.F)(m:MV)(h1:m.own=true->zb (X.ι k) X.O w X'.O w')(h:m.holds X w k):m.holds X' w' k:=by
 have hBB:X'.B=X.B:=by funext nw;cases nw<;>simp[Cx.B,hA,hF]
 cases m with
 |sl nw t T xs =>
  show zo _ _ _ _ _ _ _ _
  rw[hX.U k hk,hι,hX.P,hBB];exact zo.keep h hX.k (h1 rfl)
 |bx nw c T =>
  obtain⟨b,cs,h2,h3,h4,h5⟩:=h;refine⟨b,cs,by rw[hX.U k hk];exact h2,?_,(c.mono hX fun h=>by grind).2.2 _ h4,h5⟩
  rw[hι,hBB];exact h3.keep (h1 rfl)
 |fs t xs =>
  show (rSl _).v _ _ _ _
  rw[hX.U k hk,hX.P];exact GR.yu _ h hX.k
 |fb t x =>
  show (KV _).v _ _ _ _
  rw[hX.U k hk,hX.P];exact GR.yu _ h hX.k
 |fg f =>
  intro t x hx;rw[hX.U k hk,hX.P];exact GR.yu _ (h t x hx) hX.k
 |mp nw a b xs =>
  show YA _ _ _ _ _ _ _ _
  rw[hX.U k hk,hι,hX.P,hBB];exact YA.keep h hX.k (h1 rfl)
 |fm a b xs =>
  show ((Ty.mp a b).gr X'.P).v _ _ _ _
  rw[hX.U k hk,hX.P];exact GR.yu _ h hX.k
 |dead=>trivial
abbrev LS:=List (Nat×Nat×AV)
abbrev MS:=List (Nat×Nat×MV)
def look{α:Type}:List (Nat×α)->Nat->Option α
 | [],_=>none
 |e::l,t=>bif Nat.beq e.1 t then some e.2 else look l t
def fresh(ep:Nat)(e:Nat×AV):Bool:=!e.2.ze || Nat.ble ep e.1
def Xt(L:LS)(X:Cx)(w:World)(a:Act):Prop:=∀t e,look L t=some e->fresh X.ep e=true->e.2.holds X w (a.get t)
def yE(M:MS)(X:Cx)(w:World):Prop:=∀k e,look M k=some e->e.2.holds X w k
abbrev Gd:=List (Nat×Bool)
structure RE where
 i:Nat
 d:Nat
 g:Gd
 φ:AV
abbrev RS':=List RE
def YK:RS'->Nat->Option RE
 | [],_=>none
 |e::l,t=>bif Nat.beq e.d t then some e else YK l t
def atR:RS'->Nat->Option RE
 | [],_=>none
 |e::l,i=>bif Nat.beq e.i i then some e else atR l i
def AV.bool?:AV->Option Bool
 |.rd .bool b=>some b
 |_=>none
def AV.bool(φ:AV):Bool:=φ.bool?.getD false
def AV.isBool(φ:AV):Bool:=φ.bool?.isSome
def Zw(R:RS')(g:Nat):Bool:=match atR R g with|some e=>e.φ.bool|none=>false
def vf(R:RS'):Gd->Prop
 | []=>True
 |c::G=>Zw R c.1=c.2/\vf R G
def UP(c:Nat×Bool):Gd->Bool
 | []=>false
 |e::G=>bif Nat.beq e.1 c.1 && (e.2 == c.2) then true else UP c G
def Mb:Gd->Gd->Bool
 | [],_=>true
 |c::G,H=>bif UP c H then Mb G H else false
theorem vf.mem{R:RS'}{c:Nat×Bool}:∀ {G:Gd},UP c G=true->vf R G->Zw R c.1=c.2
 | [],h,_=>by cases h
 |e::G,h,k=>by
  unfold UP at h
  cases hb:(Nat.beq e.1 c.1 && (e.2 == c.2)) with
  |true =>
   rw[zLZ]at hb;have h1:=zLY hb.1
   have h2:e.2=c.2:=by grind
   rw[<-h1,<-h2];exact k.1
  |false=>rw[hb]at h;exact vf.mem h k.2
theorem vf.sub{R:RS'}:∀ {G H:Gd},Mb G H=true->vf R H->vf R G
 | [],_,_,_=>trivial
 |c::G,H,h,k=>by
  unfold Mb at h
  cases hb:UP c H with
  |true=>rw[hb]at h;exact⟨vf.mem hb k,vf.sub h k⟩
  |false=>rw[hb]at h;cases h
def AV.ofC:Value->AV
 |.int k n=>.rd (.int k) n
 |.bool b=>.rd .bool b
 |.string s=>.rd .str (bs s)
 |v=>.ex v
theorem AV.wP(X:Cx)(w:World)(v:Value):(AV.ofC v).holds X w v:=by
 cases v<;>first|exact rfl|exact Eg.2 rfl|exact kO.2 rfl|exact Ef.2 (by rw[EW])
def rdO(ep:Nat)(L:LS)(R:RS')(G:Gd):Operand->Option AV
 |.tmp t=>match YK R t with
  |some e=>bif Mb e.g G then some e.φ else none
  |none=>match look L t with
   |some e=>bif fresh ep e then some e.2 else none
   |none=>none
 |.const c=>some (AV.ofC c)
 |.func f=>some (.cl f .un .un)
 |.global _=>none
def C7(L:LS)(R:RS')(X:Cx)(w:World)(o:Oper)(a:Act):Prop :=
 ∀t,XL o t=true->match YK R t with
  |some e=>vf R e.g->e.φ.holds X w (a.get t)
  |none=>∀e,look L t=some e->fresh X.ep e=true->e.2.holds X w (a.get t)
def Wf:RS'->Prop
 | []=>True
 |e::R=>e.i=R.length/\Wf R
def OpS(X:Cx)(M:MS)(L:LS)(R:RS')(G:Gd)(o:Oper)(φ:AV):Prop :=
 ∀ {w:World} {a:Act},Wf R->OkO X.O w->yE M X w->C7 L R X w o a->vf R G->Ok X.P o a w (fun w v=>φ.holds X w v)
theorem Io{o:Oper}{t:Nat}(h:(.tmp t)∈o.op.operands):XL o t=true:=by
 unfold XL;rw[List.any_eq_true];exact⟨.tmp t,by grind,by simp⟩
theorem mV{L:LS}{R:RS'}{G:Gd}{X:Cx}{w:World}{a:Act}{o:Oper}{x:Operand}{φ:AV}(h:rdO X.ep L R G x=some φ)(hx:x∈o.op.operands)(hk:C7 L R X w o a)(hc:vf R G):φ.holds X w (a.eval x):=by
 cases x with
 |tmp t =>
  have k:=hk t (Io hx);simp only[rdO]at h
  cases hl:YK R t with
  |none =>
   rw[hl]at h k;simp only at h
   cases he:look L t with
   |none=>grind
   |some e =>
    rw[he]at h;simp only at h
    cases hf:fresh X.ep e with
    |false=>grind
    |true=>rw[hf]at h;cases h;exact k e he hf
  |some e =>
   rw[hl]at h k;simp only[]at h k
   cases hs:Mb e.g G with
   |true=>rw[hs]at h;cases h;exact k (hc.sub hs)
   |false=>grind
 |const c=>cases h;exact AV.wP _ _ _
 |global g=>cases h
 |func f=>cases h;exact⟨[],[],rfl,rfl,rfl⟩
def AV.sps(X:Cx)(φ:AV):SP:=match φ.bool? with
 |some b=>.isv (.bool b)
 |none=>.pr (fun w v=>φ.holds X w v) (fun _ _ _ hE h=>φ.ext hE h)
theorem AV.Zg{φ:AV}{b:Bool}(h:φ.bool?=some b):φ=.rd .bool b:=by
 unfold AV.bool? at h;grind
theorem AV.wG(X:Cx)(φ:AV)(w:World)(v:Value):(φ.sps X).holds w v↔φ.holds X w v:=by
 unfold AV.sps
 cases hb:φ.bool? with
 |some b=>rw[AV.Zg hb];exact kO.symm
 |none=>exact Iff.rfl
theorem AV.NJ(X:Cx)(φ:AV):(φ.sps X).vD=φ.bool:=by
 unfold AV.sps AV.bool;cases hb:φ.bool?<;>rfl
theorem AV.DQ(X:Cx)(φ:AV):(φ.sps X).isBool=φ.isBool:=by
 unfold AV.sps AV.isBool;cases hb:φ.bool?<;>rfl
inductive RegS(X:Cx)(M:MS)(L:LS)(n:Nat):Nat->RS'->LS->List Oper->RS'->LS->List Oper->Prop
 |n {i R F tl}:RegS X M L n i R F tl R F tl
 |c {i R F o os R' F' tl φ d} (h:OpS X M L R [] o φ) (hs:RegS X M L n (i+1) (⟨i,d,[],φ⟩::R) ((d,n,φ)::F) os R' F' tl) (hd:o.dst=some d) (hg:o.guard=none):RegS X M L n i R F (o::os) R' F' tl
 |g {i R F o os R' F' tl φ d g want e} (h:vf R ((g,want)::e.g)->OpS X M L R ((g,want)::e.g) o φ) (hs:RegS X M L n (i+1) (⟨i,d,(g,want)::e.g,φ⟩::R) ((d,n,.top)::F) os R' F' tl)
   (hd:o.dst=some d) (hg:o.guard=some (g,want)) (he:atR R g=some e) (hb:e.φ.isBool=true):RegS X M L n i R F (o::os) R' F' tl
def phi(X:Cx)(R:RS'):List SP:=R.reverse.map fun e=>e.φ.sps X
theorem uu(X:Cx)(R:RS'):(phi X R).length=R.length:=by simp[phi]
theorem Wf.at{X:Cx}:∀ {R:RS'},Wf R->∀ {g e},atR R g=some e->g<R.length/\e.i=g/\(phi X R)[g]?=some (e.φ.sps X)
 | [],_,g,e,h=>by cases h
 |f::R,hw,g,e,h=>by
  unfold atR at h
  cases hb:Nat.beq f.i g with
  |true =>
   rw[hb]at h;cases h;have:=zLY hb
   have h1:=hw.1;grind [phi]
  |false =>
   rw[hb]at h;obtain⟨h1,h2,h3⟩:=Wf.at hw.2 h;refine⟨by grind,h2,?_⟩
   simp only[phi,List.reverse_cons,List.map_append];rw[zLn (by grind)]
   exact h3
theorem Wf.Zw{X:Cx}{R:RS'}(hw:Wf R){g e}(h:atR R g=some e):Go.Den.Zw R g=((phi X R).map SP.vD).getD g false:=by
 obtain⟨h1,h2,h3⟩:=hw.at (X:=X) h;grind [Go.Den.Zw,AV.NJ]
theorem Wf.lt:∀ {R:RS'},Wf R->∀ {t e},YK R t=some e->e.i<R.length/\atR R e.i=some e
 | [],_,t,e,h=>by cases h
 |f::R,hw,t,e,h=>by
  unfold YK at h
  cases hb:Nat.beq f.d t with
  |true =>
   rw[hb]at h;cases h;refine⟨by have:=hw.1;grind,?_⟩
   unfold atR;simp_all
  |false =>
   rw[hb]at h;obtain⟨h1,h2⟩:=Wf.lt hw.2 h;refine⟨by grind,?_⟩
   unfold atR;rw[zU,zMB (by have:=hw.1;omega)]
   exact h2
theorem Ar{f:RE}{R:RS'}{g:Nat}(h:f.i≠g):Zw (f::R) g=Zw R g:=by
 grind [atR,zU,Zw]
theorem vf.cons{f:RE}{R:RS'}:∀ {G:Gd},(∀c∈G,c.1≠f.i)->(vf (f::R) G↔vf R G)
 | [],_=>Iff.rfl
 |c::G,h=>by
  unfold vf;rw[Ar (fun e=>h c (by simp) e.symm),vf.cons (fun c hc=>h c (by simp[hc]))]
theorem Vz{os:List Oper}{i d:Nat}{o:Oper}(ho:os[i]?=some o)(hd:o.dst=some d)(t:Nat) :
  lw os (fun j=>Nat.blt j (i+1)) t=bif Nat.beq d t then some i else lw os (fun j=>Nat.blt j i) t:=by
 cases hb:Nat.beq d t with
 |true =>
  have:=zLY hb;subst this;have h1:(fun j=>Nat.blt j (i+1))=(fun j=>Nat.blt j i || Nat.beq j i):=by
   grind [za,zU]
  rw[h1];exact Kf os 0 none (Nat.zero_le _) ⟨o,by omega,by grind [writes]⟩ (fun j o' hj _ _=>by grind [za])
 |false =>
  grind [JI,writes,za]
theorem RegS.pre{X M L n i R F os R' F' tl}(h:RegS X M L n i R F os R' F' tl):∃Y,R'=Y++R:=by
 induction h with
 |n=>simp_all
 |c _ _ _ _ ih=>obtain⟨X,e⟩:=ih;exact⟨X++[_],by rw[e,zLt];rfl⟩
 |g _ _ _ _ _ _ ih=>obtain⟨X,e⟩:=ih;exact⟨X++[_],by rw[e,zLt];rfl⟩
theorem BX(X:Cx)(e:RE)(R:RS')(φs:List SP):phi X (e::R)++φs=phi X R++e.φ.sps X::φs:=by simp[phi]
theorem Gt(X:Cx)(Y:RS')(e:RE)(R:RS'):phi X (Y++e::R)=phi X R++(e.φ.sps X::phi X Y):=by simp[phi]
theorem SD:∀ {R:RS'},Wf R->∀ {g e},atR R g=some e->g<R.length
 | [],_,g,e,h=>by cases h
 |f::R,hw,g,e,h=>by
  unfold atR at h
  cases hb:Nat.beq f.i g with
  |true=>have:=zLY hb;have h1:=hw.1;grind
  |false=>rw[hb]at h;have:=SD hw.2 h;grind
theorem CU{f:RE}{R:RS'}(hw:Wf R){g e}(h:atR R g=some e)(hf:f.i=R.length):atR (f::R) g=some e:=by
 have:=SD hw h;grind [atR,zU]
theorem HZ:∀ {Y R:RS'},Wf (Y++R)->∀ {g e},atR R g=some e->atR (Y++R) g=some e
 | [],_,_,_,_,h=>h
 |f::Y,R,hw,g,e,h=>CU hw.2 (HZ hw.2 h) hw.1
structure RG(all:List Oper)(L:LS)(n:Nat)(cs:List Bool)(R:RS')(F:LS):Prop where
 wf:Wf R
 lw:∀t,lw all (fun j=>Nat.blt j R.length) t=(YK R t).map RE.i
 act:∀g e,atR R g=some e->(act all cs g=true↔vf R e.g)
 gb:∀g e,atR R g=some e->∀c∈e.g,c.1<R.length
 f:∀t χ,look F t=some χ->(χ.1=n/\(χ.2=.top\/(∃e,YK R t=some e/\e.g=[]/\e.φ=χ.2)))\/(YK R t=none/\look L t=some χ)
theorem RG.step{all:List Oper}{L:LS}{n:Nat}{cs:List Bool}{R:RS'}{F:LS}(h:RG all L n cs R F){o:Oper}{d:Nat}{G:Gd}{φ ψ:AV}(ho:all[R.length]?=some o)(hd:o.dst=some d)
  (ha:Eng.act all cs R.length=true↔vf R G) (hG:∀c∈G,c.1<R.length) (hψ:ψ=.top\/(G=[]/\ψ=φ)):RG all L n cs (⟨R.length,d,G,φ⟩::R) ((d,n,ψ)::F):=by
 have hc:∀ {H:Gd},(∀c∈H,c.1<R.length)->(vf (⟨R.length,d,G,φ⟩::R) H↔vf R H):=fun hH=>vf.cons fun c hc=>by grind
 refine⟨⟨rfl,h.wf⟩,fun t=>?_,fun g e hg=>?_,fun g e hg c hc'=>?_,fun t χ hχ=>?_⟩
 ·rw[zLh,Vz ho hd,h.lw]
  show _=Option.map RE.i (bif Nat.beq d t then some _ else YK R t)
  grind
 ·unfold atR at hg
  cases hb:Nat.beq R.length g with
  |true =>
   grind [zLY]
  |false =>
   rw[hb]at hg;rw[hc (h.gb g e hg)];exact h.act g e hg
 ·unfold atR at hg
  cases hb:Nat.beq R.length g with
  |true=>grind
  |false=>rw[hb]at hg;have:=h.gb g e hg c hc';grind
 ·show (χ.1=n/\(χ.2=.top\/(∃e,(bif Nat.beq d t then some _ else YK R t)=some e/\e.g=[]/\e.φ=χ.2)))\/((bif Nat.beq d t then some _ else YK R t)=none/\look L t=some χ)
  unfold look at hχ
  cases hb:Nat.beq d t with
  |true =>
   grind
  |false =>
   simp only[hb]at hχ;exact h.f t χ hχ
theorem yE.ext{M X w w'}(hn:∀k e,look M k=some e->k<X.n)(h:yE M X w)(hE:Ext w w'):yE M X w':=fun k e hf=>MV.le (X.le_ext hE) (hn k e hf) rfl rfl rfl _ (fun _=>zb.ext hE) (h k e hf)
theorem Xt.ext{L X w w' a}(h:Xt L X w a)(hE:Ext w w'):Xt L X w' a:=fun t e hf hs=>e.2.ext hE (h t e hf hs)
section
variable {M:MS} {L:LS} {n:Nat} {all:List Oper} {X:Cx} {a:Act} {w:World} {N:Nat}
theorem RG.obl{Φ:List SP}{R:RS'}{F:LS}(h:RG all L n (Φ.map SP.vD) R F)(hp:∃Y,Φ=phi X R++Y)(hO:OkO X.O w)(bL:∀k e,look M k=some e->k<X.n)(hM:yE M X w)(hL:Xt L X w a){o:Oper}{G:Gd}{φ:AV}
  (ha:Eng.act all (Φ.map SP.vD) R.length=true↔vf R G) (hS:vf R G->OpS X M L R G o φ):zIE X.P all Φ a w R.length o (φ.sps X):=by
 intro a' w' hE hK fP;have e:(φ.sps X).holds=fun w v=>φ.holds X w v:=by grind [AV.wG]
 rw[e];have hG:=ha.1 fP
 refine hS hG h.wf (hO.ext hE) (hM.ext bL hE) (fun t ht=>?_) hG
 have k:=hK t ht;unfold XQ at k;rw[h.lw t]at k
 cases hl:YK R t with
 |none =>
  rw[hl]at k;simp only[Option.map_none]at k |-;rw[k];exact fun e hφ hs=>e.2.ext hE (hL t e hφ hs)
 |some e =>
  rw[hl]at k;simp only[Option.map_some]at k |-;intro hc;obtain⟨h1,h2⟩:=h.wf.lt hl;obtain⟨_,_,h3⟩:=h.wf.at (X:=X) h2;obtain⟨Y,hX⟩:=hp;have h4:=k.1 ((h.act _ _ h2).2 hc)
  grind [AV.wG]
theorem RG.zLP{cs:List Bool}{R:RS'}{o:Oper}(ho:all[R.length]?=some o)(hg:o.guard=none):Eng.act all cs R.length=true↔vf R [] :=
 ⟨fun _=>trivial,fun _=>Ks ho hg⟩
theorem RG.zLO{Φ:List SP}{R:RS'}{F:LS}(h:RG all L n (Φ.map SP.vD) R F)(hp:∃Y,Φ=phi X R++Y)(kA:zz N all=true){o:Oper}{g:Nat}{want:Bool}{e:RE}(ho:all[R.length]?=some o)(hg:o.guard=some (g,want))(he:atR R g=some e) :
  Eng.act all (Φ.map SP.vD) R.length=true↔vf R ((g,want)::e.g):=by
 obtain⟨Y,hX⟩:=hp;have hb:=h.wf.Zw (X:=X) he
 have gF:=(h.wf.at (X:=X) he).1;have e1:(Φ.map SP.vD).getD g false=Zw R g:=by
  grind [uu]
 rw[Kr (Zt kA) ho hg,e1,zLZ,h.act g e he,beq_iff_eq];exact⟨fun ⟨h1,h2⟩=>⟨h2,h1⟩,fun ⟨h1,h2⟩=>⟨h2,h1⟩⟩
theorem RegS.zKv{Φ:List SP}(kA:zz N all=true)(hO:OkO X.O w)(bL:∀k e,look M k=some e->k<X.n)(hM:yE M X w)(hL:Xt L X w a):∀ {i R F os R' F' tl},RegS X M L n i R F os R' F' tl->Φ=phi X R'->R.length=i->(∀j,os[j]?=all[i+j]?)->RG all L n (Φ.map SP.vD) R F ->
  RG all L n (Φ.map SP.vD) R' F'/\(∃φs,Φ=phi X R++φs/\OblsS X.P all Φ a w i os φs tl)/\(∀j o g want,i<=j->j<R'.length->all[j]?=some o->o.guard=some (g,want)->∃e,atR R' g=some e/\e.φ.isBool=true):=by
 intro i R F os R' F' tl h
 induction h with
 |n=>exact fun hΦ hi xC hR=>⟨hR,⟨[],by grind,.nil⟩,fun j o g want h1 h2=>by omega⟩
 | @c i R F o os R' F' tl φ d h hs hd hg ih =>
  intro hΦ hi xC hR;subst hi;have ho:=(xC 0).symm
  simp only[List.getElem?_cons_zero,Nat.add_zero]at ho;obtain⟨Y,hX⟩:=hs.pre;have hp:∃Y,Φ=phi X R++Y:=⟨_,by rw[hΦ,hX];exact Gt X Y _ R⟩
  have ha:=RG.zLP (cs:=Φ.map SP.vD) ho hg;have fZ:=hR.step ho hd (φ:=φ) (ψ:=φ) ha (by simp) (.inr ⟨rfl,rfl⟩)
  obtain⟨h1,⟨φs,e2,h2⟩,h3⟩:=ih hΦ rfl (fun j=>by have:=xC (j+1);grind) fZ
  refine⟨h1,⟨_::φs,by rw[e2,BX],.cons (hR.obl hp hO bL hM hL ha (fun _=>h)) h2⟩,fun j o' g' want' hj gF ho' hg'=>?_⟩
  grind
 | @g i R F o os R' F' tl φ d g want e h hs hd hg he hb ih =>
  intro hΦ hi xC hR;subst hi;have ho:=(xC 0).symm
  simp only[List.getElem?_cons_zero,Nat.add_zero]at ho;obtain⟨Y,hX⟩:=hs.pre;have hp:∃Y,Φ=phi X R++Y:=⟨_,by rw[hΦ,hX];exact Gt X Y _ R⟩
  have ha:=hR.zLO hp kA ho hg he;have fZ:=hR.step ho hd (φ:=φ) (ψ:=.top) ha (fun c hc=>by rcases zLd.1 hc with rfl|hc;exact(hR.wf.at (X:=X) he).1;exact hR.gb _ _ he c hc) (.inl rfl)
  obtain⟨h1,⟨φs,e2,h2⟩,h3⟩:=ih hΦ rfl (fun j=>by have:=xC (j+1);grind) fZ
  refine⟨h1,⟨_::φs,by rw[e2,BX],.cons (hR.obl hp hO bL hM hL ha h) h2⟩,fun j o' g' want' hj gF ho' hg'=>?_⟩
  by_cases hjj:j=R.length
  ·subst hjj
   rw[ho]at ho';cases ho';rw[hg]at hg';cases hg';exact⟨_,by rw[hX];exact HZ (hX ▸ h1.wf) (CU hR.wf he rfl),hb⟩
  grind
theorem RG.start(cs:List Bool):RG all L n cs [] L:=by
 refine⟨trivial,fun t=>?_,fun _ _ h=>(nomatch h),fun _ _ h=>(nomatch h),fun t φ h=>.inr ⟨rfl,h⟩⟩
 cases h:Eng.lw all (fun j=>Nat.blt j ([]:RS').length) t with
 |none=>rfl
 |some i =>
  grind [ux,za]
theorem RG.Xz{Φ:List SP}{R:RS'}{F:LS}(h:RG all L n (Φ.map SP.vD) R F)(hΦ:Φ=phi X R){a':Act}{w':World}(hE:Ext w w')(hL:Xt L X w a)(hK:∀t,XQ all Φ a R.length t w' (a'.get t)):Xt F X w' a':=by
 intro t χ hf hs;have k:=hK t
 unfold XQ at k;rw[h.lw t]at k;rcases h.f t χ hf with ⟨_,h1|⟨e,h1,h2,h3⟩⟩|⟨h1,h2⟩
 ·rw[h1];trivial
 ·rw[h1]at k
  simp only[Option.map_some]at k;obtain⟨h4,h5⟩:=h.wf.lt h1;obtain⟨_,_,h6⟩:=h.wf.at (X:=X) h5;have h7:=k.1 ((h.act _ _ h5).2 (by rw[h2];trivial))
  grind [AV.wG]
 ·rw[h1]at k
  simp only[Option.map_none]at k;rw[k];exact χ.2.ext hE (hL t χ h2 hs)
end
structure TI where
 dd:TypeDesc
 z:Value
 sz:Nat
 by_:Nat
 fl:List (Nat×Nat×Nat)
 τ:Ty
 eq:Nat
 kq:Bool
abbrev TE:=List (Nat×TI)
structure TI.ok(P:Program)(X:TypeId)(i:TI):Prop where
 ty:Eng.Ty P X i.dd i.z i.sz i.by_
 fl:∀f e,i.fl[f]?=some e->Fld P X f e.1 e.2.1 e.2.2
 pl:i.fl=[]\/Plc P X (i.fl.map (fun e=>(e.2.1,e.2.2+1))).toArray
 eq:i.eq≠0->EqT P X i.τ i.eq/\i.eq<=10000/\(i.τ.agg=true->P.eqGuardType P.depth X=false)
 key:i.kq=true->KeyB P X i.τ
def TOk(P:Program)(T:TE):Prop:=∀X i,look T X=some i->i.ok P X
structure FS where
 ps:Ty
 rs:Ty
 rk:List (Option TypeId)
 sem:ps.D->Comp rs.D
def Ec(P:Program)(O:zR)(B:Nat)(w:World)(k:Option TypeId):(a:Ty)->Value->a.D->Prop:=fun a v y=>match k with
 |none=>(a.gr P).v O w v y
 |some T=>match a,y with
  |.sl e,y=>Zo (e.gr P) T B O w v y
  |_,_=>False
def Cu(k:Option TypeId)(v:Value):Option Nat:=match k with
 |some _=>v.ownBlock
 |none=>none
def K9:List (Option TypeId)->List Value->List Nat
 |k::ks,v::vs=>(Cu k v).toList++K9 ks vs
 |_,_=>[]
def XA(P:Program)(O:zR)(B:Nat)(w:World):List (Option TypeId)->(rs:Ty)->List Value->rs.D->Prop
 |k::ks,.cons a b,vs,y=>∃v vs',vs=v::vs'/\Ec P O B w k a v y.1/\XA P O B w ks b vs' y.2/\∀g,Cu k v=some g->g ∉ K9 ks vs'
 | [],.nil,vs,_=>vs=[]
 |_,_,_,_=>False
def FS.ok(P:Program)(f:FuncId)(s:FS):Prop :=
 FnOk P f/\∀O w,OkO O w->∀vs x,s.ps.args P O w vs x->∀n y,(s.sem x).run n=some y->Pure P f vs.toArray w (fun w' v=>∃rs,kh rs v/\XA P O w.heap.size w' s.rk s.rs rs y)
def ioT:List (Option TypeId)->Ty->Ty
 |some _::io,.cons (.box e) q=>.cons e (ioT io q)
 |none::io,.cons _ q=>ioT io q
 |_,_=>.nil
structure FM where
 ps:Ty
 io:List (Option TypeId)
 rs:Ty
 sem:ps.D->Comp ((ioT io ps).D×rs.D)
def MIn(P:Program)(O:zR)(w:World):List (Option TypeId)->(ps:Ty)->List Nat->List Value->ps.D->Prop
 |some T::io,.cons (.box e) q,bl,vs,x=>∃b bl' vs' cs,bl=b::bl'/\vs=.pointer (some ⟨b,0,none⟩)::vs'/\Own w b cs T/\O b≠0/\(∀c∈bl',O c≠O b)/\(e.gr P).rel O w cs.toList x.1/\MIn P O w io q bl' vs' x.2
 |none::io,.cons a q,bl,vs,x=>∃v vs',vs=v::vs'/\(a.gr P).v O w v x.1/\MIn P O w io q bl vs' x.2
 | [],.nil,bl,vs,_=>bl=[]/\vs=[]
 |_,_,_,_,_=>False
def EH(P:Program)(O:zR)(w:World):(io:List (Option TypeId))->(ps:Ty)->List Nat->(ioT io ps).D->Prop
 |some T::io,.cons (.box e) q,bl,y=>∃b bl' cs,bl=b::bl'/\Own w b cs T/\(e.gr P).rel O w cs.toList y.1/\EH P O w io q bl' y.2
 |none::io,.cons _ q,bl,y=>EH P O w io q bl y
 | [],.nil,bl,_=>bl=[]
 |_,_,_,_=>False
structure ButL(bl:List Nat)(w w':World):Prop where
 os:w'.os=w.os
 tape:w'.tape=w.tape
 output:w'.output=w.output
 size:w.heap.size<=w'.heap.size
 block:∀k,k<w.heap.size->k ∉ bl->w'.heap[k]?=w.heap[k]?
def FM.ok(P:Program)(f:FuncId)(s:FM):Prop :=
 FnOk P f/\∀O w,OkO O w->∀bl vs x,MIn P O w s.io s.ps bl vs x->∀n y,(s.sem x).run n=some y ->
  Calls P f vs.toArray w (fun e w'=>∃v rs,e=.returned v/\kh rs v/\s.rs.args P O w' rs y.2/\ButL bl w w'/\EH P O w' s.io s.ps bl y.1)
abbrev ME:=FuncId->Option FM
def zLU(P:Program)(G:ME):Prop:=∀f s,G f=some s->s.ok P f
structure FO where
 e:Ty
 T:TypeId
 ps:Ty
 ret:Bool
 sem:List e.D->ps.D->Comp (List e.D)
def zEi(r:Bool)(u v u':Value):Prop:=match r with
 |true=>v=u'
 |false=>u'=u/\v=.tuple #[]
def FO.ok(P:Program)(f:FuncId)(s:FO):Prop :=
 FnOk P f/\∀O w,OkO O w->∀u xs,zAO (s.e.gr P) s.T O w u xs->∀vs z,s.ps.args P O w vs z->∀n ys,(s.sem xs z).run n=some ys ->
  Calls P f (u::vs).toArray w (AP (s.e.gr P) s.T O w u ys (zEi s.ret u))
abbrev OE:=FuncId->Option FO
def zLS(P:Program)(G:OE):Prop:=∀f s,G f=some s->s.ok P f
abbrev FE:=FuncId->Option FS
structure GS where
 ps:Ty
 t:Ty
 sem:ps.D->Comp (List t.D)
def GS.ok(P:Program)(f:FuncId)(s:GS):Prop :=
 FnOk P f/\∀O w,OkO O w->∀us x,s.ps.args P O w us x->∀n xs,(s.sem x).run n=some xs->∀L J Jx,Rng P L (s.t.args P) xs O w J Jx ->
  Calls P f (Value.func (.yield L) #[] #[]::us).toArray w fun e w''=>e=.returned (.tuple #[])/\((∃O'',J xs O'' w'')\/∃O'',Jx O'' w'')
abbrev QE:=FuncId->Option GS
def zLR(P:Program)(G:QE):Prop:=∀f s,G f=some s->s.ok P f
def FS.okN(P:Program)(f:FuncId)(s:FS):Prop :=
 FnOk P f/\∀O w,OkO O w->∀vs x,s.ps.args P O w vs x->∀n y,(s.sem x).run n=some y->Pure P f (.slice none 0 0::vs).toArray w (fun w' v=>∃rs,kh rs v/\XA P O w.heap.size w' s.rk s.rs rs y)
def zLT(P:Program)(G:FE):Prop:=∀f s,G f=some s->s.okN P f
def FOk(P:Program)(G:FE):Prop:=∀f s,G f=some s->s.ok P f
theorem DY{P:Program}{O:zR}{B:Nat}{w:World}{k:Option TypeId}{a:Ty}{v:Value}{y:a.D}(h:Ec P O B w k a v y)(hO:∀b,B<=b->O b=0):(a.gr P).v O w v y:=by
 unfold Ec at h
 cases k with
 |none=>exact h
 |some T =>
  cases a<;>first|exact h.elim|skip
  exact Zo.val h fun g hg=>hO g (h.ge g hg).1
theorem XT{P:Program}{O:zR}{B:Nat}{w:World}(hO:∀b,B<=b->O b=0):∀ {ks:List (Option TypeId)} {rs:Ty} {vs:List Value} {y:rs.D},XA P O B w ks rs vs y->rs.args P O w vs y
 |k::ks,.cons a b,vs,y,h=>by
  obtain⟨v,vs',h1,h2,h3,_⟩:=h;exact⟨v,vs',h1,DY h2 hO,XT hO h3⟩
 | [],.nil,vs,_,h=>h
 | [],.int _,_,_,h | [],.bool,_,_,h | [],.str,_,_,h | [],.sl _,_,_,h | [],.cons ..,_,_,h | [],.arr ..,_,_,h | [],.box ..,_,_,h | [],.fn ..,_,_,h | [],.seq ..,_,_,h | [],.slo ..,_,_,h | [],.mp ..,_,_,h=>h.elim
 |_::_,.int _,_,_,h|_::_,.bool,_,_,h|_::_,.str,_,_,h|_::_,.sl _,_,_,h|_::_,.nil,_,_,h|_::_,.arr ..,_,_,h|_::_,.box ..,_,_,h|_::_,.fn ..,_,_,h|_::_,.seq ..,_,_,h|_::_,.slo ..,_,_,h|_::_,.mp ..,_,_,h=>h.elim
structure AS where
 v:(t:Ty)->Option t.D
 l:(t:Ty)->Option t.D
def AS.no:(t:Ty)->Option t.D:=fun _=>none
def Ty.prod:Ty->Bool
 |.nil=>true
 |.cons _ b=>b.prod
 |_=>false
def mid(post:(t:Ty)->Option t.D):(ta ps:Ty)->Option (ta.D->ps.D)
 |.nil,ps=>match ps.prod with
  |true=>match post ps with
   |some y=>some fun _=>y
   |none=>none
  |false=>none
 |.cons a b,.cons p q=>if h:a.beq p=true then match mid post b q with
   |some g=>some fun z=>(Ty.cast (Ty.wB h) z.1,g z.2)
   |none=>none
  else none
 |_,_=>none
def pre(m:(ps:Ty)->Option (α->ps.D)):List ((t:Ty)->Option t.D)->(ps:Ty)->Option (α->ps.D)
 | [],ps=>m ps
 |f::fs,.cons p q=>match f p,pre m fs q with
  |some x,some g=>some fun z=>(x,g z)
  |_,_=>none
 |_,_=>none
def zAE(G:FE)(f:FuncId)(a:List ((t:Ty)->Option t.D))(b:(t:Ty)->Option t.D):(t:Ty)->Option t.D
 |.fn ta tr=>match ta.two && !a.isEmpty with
  |true=>none
  |false=>match G f with
   |none=>none
   |some s=>if h:s.rs.beq tr=true then match pre (mid b ta) a s.ps with
     |some g=>some fun z=>(Ty.wB h) ▸ s.sem (g z)
     |none=>none
    else none
 |_=>none
def Ty.toN(a b:Ty)(x:a.D):Option b.D:=match a.to b x with
 |some y=>some y
 |none=>match b with
  |.slo e=>match a.to (.sl e) x with
   |some xs=>some (some (xs:List e.D))
   |none=>none
  |.cons e .nil=>match e.agg,a.to e x with
   |true,some y=>some (y,())
   |_,_=>none
  |_=>none
def asO(M:MS)(k:Nat)(t:Ty):Option t.D:=match look M k with
 |some (_,.fs t' xs)=>(Ty.sl t').toN t xs
 |some (_,.fm a b xs)=>(Ty.mp a b).toN t xs
 |_=>none
def asB(M:MS)(k:Nat)(t:Ty):Option t.D:=match look M k with
 |some (_,.fb t' x)=>(Ty.box t').to t x
 |some (_,.fg f)=>match t with
  |.box e=>f e
  |_=>none
 |_=>none
def asN:(t:Ty)->Option t.D
 |.nil=>some ()
 |.arr 0 e=>some ([]:List e.D)
 |_=>none
def asC(f g:(t:Ty)->Option t.D):(t:Ty)->Option t.D
 |.cons a b=>match f a,g b with
  |some x,some y=>some (x,y)
  |_,_=>none
 |.arr (n+1) e=>match f e,g (.arr n e) with
  |some x,some y=>some ((x:e.D)::(y:List e.D))
  |_,_=>none
 |_=>none
def AV.asv(G:FE)(M:MS):AV->((t:Ty)->Option t.D)×((t:Ty)->Option t.D)×List ((t:Ty)->Option t.D)
 |.rd t' x=>(fun t=>t'.toN t x,AS.no,[])
 |.ob k=>(asO M k,AS.no,[])
 |.bx k off=>(match off with|0=>asB M k|_=>AS.no,AS.no,[])
 |.ex v=>(fun t=>ofV t v,AS.no,[])
 |.ag l=>(fun t=>match t.agg with|true=>(l.asv G M).2.1 t|false=>none,AS.no,[])
 |.un=>(AS.no,asN,[])
 |.pr a b=>(AS.no,asC (a.asv G M).1 (b.asv G M).2.1,(a.asv G M).1::(b.asv G M).2.2)
 |.cl f a b=>(zAE G f (a.asv G M).2.2 (b.asv G M).2.1,AS.no,[])
 |.em t' xs=>(fun t=>(Ty.sl t').toN t xs,AS.no,[])
 |.pt .. | .el .. | .ba .. | .pq .. | .tp _|.nb .. | .sx .. | .px .. | .yl|.top=>(AS.no,AS.no,[])
abbrev AV.asT(G:FE)(M:MS)(φ:AV)(t:Ty):Option t.D:=(φ.asv G M).1 t
theorem Ws{P:Program}{a b:Ty}{x:a.D}{y:b.D}(h:a.to b x=some y){O w u}(hu:(a.gr P).v O w u x):(b.gr P).v O w u y:=by
 obtain⟨e,h1⟩:=Ty.jN h;subst e;cases h1;exact hu
theorem lv{P:Program}{a b:Ty}{x:a.D}{y:b.D}(h:a.to b x=some y){O w cs}(hu:(a.gr P).rel O w cs x):(b.gr P).rel O w cs y:=by
 obtain⟨e,h1⟩:=Ty.jN h;subst e;cases h1;exact hu
theorem Uz{P:Program}{a b:Ty}{x:a.D}{y:b.D}(h:a.toN b x=some y){O w cs}(hu:(a.gr P).rel O w cs x):(b.gr P).rel O w cs y:=by
 unfold Ty.toN at h;split at h
 ·grind [lv]
 ·split at h
  ·rename_i e _ _
   split at h
   ·rename_i xs hx;cases h;exact lv (b:=.sl e) hx hu
   ·cases h
  ·split at h
   ·rename_i y _ hy;cases h;exact⟨cs,[],(zMF _).symm,lv hy hu,rfl⟩
   ·cases h
  ·cases h
theorem Hq{P:Program}{a b:Ty}{x:a.D}{y:b.D}(h:a.toN b x=some y){O w u}(hu:(a.gr P).v O w u x):(b.gr P).v O w u y:=by
 unfold Ty.toN at h;split at h
 ·grind [Ws]
 ·split at h
  ·rename_i e _ _
   split at h
   ·rename_i xs hx
    cases h
    obtain⟨cs,h1,h2⟩:=Ws (b:=.sl e) hx hu;exact⟨cs,h1,h2⟩
   ·cases h
  ·split at h
   ·rename_i y ha hy
    cases h
    obtain⟨cs,h1,h2⟩:=Ws hy hu;exact⟨cs,⟨cs,[],(zMF _).symm,h1,rfl⟩,by rw[h2,Ty.jI,ha];rfl⟩
   ·cases h
  ·cases h
theorem uY{P:Program}{t:Ty}{O w u}{x:t.D}(h:(t.gr P).v O w u x):(t.gr P).rel O w u.cells.toList x:=by
 obtain⟨cs,h1,_,h3⟩:=(t.gr P).cells (Ty.fits P t) h;grind
theorem wO{u:Value}(h:u.oneCell'=true):u.cells.toList=[u]:=by
 cases u<;>first|rfl|grind [Value.oneCell']
theorem zDk{P:Program}{post:(t:Ty)->Option t.D}{O w}{us:List Value}(hp:∀t x,t.prod=true->post t=some x->t.args P O w us x):∀ {ta ps:Ty} {g:ta.D->ps.D},mid post ta ps=some g->∀ {vs:List Value} {z:ta.D},ta.args P O w vs z->ps.args P O w (vs++us) (g z):=by
 intro ta
 induction ta with
 |nil =>
  intro ps g h vs z hz;simp only[mid]at h
  cases dV:ps.prod with
  |false=>grind
  |true =>
   rw[dV]at h;simp only at h
   cases hq:post ps with
   |none=>grind
   |some y =>
    rw[hq]at h;cases h;rw[show vs=[] from hz]
    grind
 |cons a b iha ihb =>
  intro ps g h vs z hz
  cases ps with
  |cons p q =>
   simp only[mid]at h;split at h
   ·rename_i hb
    cases hm:mid post b q with
    |none=>grind
    |some g' =>
     rw[hm]at h;cases h;obtain⟨v,vs',h1,h2,h3⟩:=hz;have e:=Ty.wB hb
     subst e;exact⟨v,vs'++us,by grind,h2,ihb hm h3⟩
   ·cases h
  |_=>grind [mid]
 |_=>intro ps g h vs z hz;exact hz.elim
theorem zBb{P:Program}{β:Type}{O w}{m:(ps:Ty)->Option (β->ps.D)}{z:β}{us:List Value}(hm:∀ps g,m ps=some g->ps.args P O w us (g z)):∀ {fs:List ((t:Ty)->Option t.D)} {ps:Ty} {g:β->ps.D},pre m fs ps=some g ->
  ∀ {vs:List Value},vs.length=fs.length->(∀(i:Nat) (f:(t:Ty)->Option t.D) (v:Value),fs[i]?=some f->vs[i]?=some v->∀t x,f t=some x->(t.gr P).v O w v x)->ps.args P O w (vs++us) (g z):=by
 intro fs
 induction fs with
 |nil =>
  intro ps g h vs hl _;have:vs=[]:=List.length_eq_zero_iff.1 hl
  subst this;exact hm _ _ h
 |cons f fs ih =>
  intro ps g h vs hl hv
  cases ps with
  |cons p q =>
   simp only[pre]at h;split at h
   ·rename_i x g' h1 h2
    cases h
    match vs,hl with
    |v::vs,hl =>
     refine⟨v,vs++us,rfl,hv 0 f v rfl rfl _ _ h1,ih h2 (by grind) fun i f' v' hf hv'=>hv (i+1) f' v' (by grind) (by grind)⟩
   ·cases h
  |_=>grind [pre]
theorem Yx(a b c:List Value):a.toArray++b.toArray++c.toArray=(a++(b++c)).toArray:=by simp
theorem WQ{P:Program}{G:FE}(hG:FOk P G){f:FuncId}{a:List ((t:Ty)->Option t.D)}{b:(t:Ty)->Option t.D}{O w}{vs us:List Value}(hl:vs.length=a.length)
  (ha:∀O' w',zb 0 O w O' w'->∀(i:Nat) (f:(t:Ty)->Option t.D) (v:Value),a[i]?=some f->vs[i]?=some v->∀t x,f t=some x->(t.gr P).v O' w' v x) (hb:∀O' w',zb 0 O w O' w'->∀t x,t.prod=true->b t=some x->t.args P O' w' us x)
  {t:Ty} {F:t.D} (h:zAE G f a b t=some F):(t.gr P).v O w (.func (.func f) vs.toArray us.toArray) F:=by
 cases t with
 |fn ta tr =>
  simp only[zAE]at h
  cases h2:ta.two && !a.isEmpty with
  |true=>grind
  |false =>
  rw[h2]at h;simp only at h;have h0:ta.two=true->∃g cb,Value.func (.func f) vs.toArray us.toArray=.func (.func g) #[] cb/\(FnOk P f->FnOk P g):=by
   intro ht;simp_all
  clear h2
  cases hg:G f with
  |none=>grind
  |some s =>
   rw[hg]at h;simp only at h;split at h
   ·rename_i hr
    cases hp:pre (mid b ta) a s.ps with
    |none=>grind
    |some g =>
     rw[hp]at h;cases h;obtain⟨h1,h2⟩:=hG f s hg;refine⟨[_],⟨_,rfl,⟨rfl,fun ht=>by simp_all⟩,fun O' w' hO hk xs z hz n y hy=>?_⟩,rfl⟩
     refine Xm h1 ?_;rw[Yx];have fU:s.ps.args P O' w' (vs++(xs++us)) (g z):=zBb (P:=P) (m:=mid b ta) (z:=z) (us:=xs++us) (fun ps g' hm=>zDk (fun t x=>hb O' w' hk t x) hm hz) hp hl (ha O' w' hk)
     have e:=Ty.wB hr;subst e;refine Pure.mono (h2 O' w' hO _ _ fU n y hy) fun w'' v _ hv=>?_
     obtain⟨rs,h3,h4⟩:=hv;exact⟨rs,h3,XT (fun b hb=>hO b hb) h4⟩
   ·cases h
 |_=>grind [zAE]
structure AsOk(X:Cx)(w:World)(p:((t:Ty)->Option t.D)×((t:Ty)->Option t.D)×List ((t:Ty)->Option t.D))(s:AVS):Prop where
 v:∀ {t x u},p.1 t=some x->s.v u->(t.gr X.P).v X.O w u x
 vc:∀ {t x cs},p.1 t=some x->s.c cs->(t.gr X.P).rel X.O w cs x
 l:∀ {t x vs},p.2.1 t=some x->t.prod=true->s.l vs->t.args X.P X.O w vs x
 lc:∀ {t x cs},p.2.1 t=some x->s.c cs->(t.gr X.P).rel X.O w cs x
 n:∀ {vs},s.l vs->vs.length=p.2.2.length
 e:∀ {vs},s.l vs->∀(i:Nat) (f:(t:Ty)->Option t.D) (v:Value),p.2.2[i]?=some f->vs[i]?=some v->∀t x,f t=some x->(t.gr X.P).v X.O w v x
theorem VS{P:Program}{t:Ty}{O w u}{x:t.D}(h:(t.gr P).v O w u x)(h1:u.oneCell'=true):(t.gr P).rel O w [u] x:=by
 have:=uY h;grind [wO]
theorem AsOk.one{X:Cx}{w:World}{f:(t:Ty)->Option t.D}{q:Value->Prop}(h:∀t x u,f t=some x->q u->(t.gr X.P).v X.O w u x):AsOk X w (f,AS.no,[]) (one q) where
 v:=fun h1 h2=>h _ _ _ h1 h2
 vc:=fun h1 ⟨u,h2,h3,h4⟩=>by grind [VS]
 l:=fun h1=>nomatch h1
 lc:=fun h1=>nomatch h1
 n:=fun h=>h.elim
 e:=fun h=>h.elim
theorem AsOk.none{X:Cx}{w:World}{s:AVS}(h:∀vs,¬s.l vs):AsOk X w (AS.no,AS.no,[]) s where
 v:=fun h=>nomatch h
 vc:=fun h=>nomatch h
 l:=fun h=>nomatch h
 lc:=fun h=>nomatch h
 n:=fun h'=>zLp h' (h _)
 e:=fun h'=>zLp h' (h _)
theorem AV.jR{X:Cx}{G:FE}(hG:FOk X.P G){M:MS}(φ:AV):∀ {w:World},yE M X w->AsOk X w (φ.asv G M) (φ.sem X w):=by
 induction φ with
 |rd t' x =>
  intro w hM;exact⟨fun h1 h2=>Hq h1 h2,fun h1 h2=>Uz h1 h2,fun h=>(nomatch h),fun h=>(nomatch h),fun h=>h.elim,fun h=>h.elim⟩
 |ob k =>
  intro w hM;refine AsOk.one fun t x u h hu=>?_
  unfold asO at h;split at h
  ·rename_i st t' xs hk
   have:=hM k _ hk;rw[hu.1];exact Hq (a:=.sl t') h this
  ·rename_i st a b xs hk
   have:=hM k _ hk;rw[hu.1];exact Hq (a:=.mp a b) h this
  ·cases h
 |bx k off =>
  intro w hM
  cases off with
  |zero =>
   refine AsOk.one fun t x u h hu=>?_
   show _
   change asB M k t=some x at h
   unfold asB at h;split at h
   ·rename_i st t' y hk
    have:=hM k _ hk;obtain⟨_,b,h1,h2⟩:=hu;rw[h2,<-h1];exact Ws (a:=.box t') h this
   ·rename_i st f hk
    have:=hM k _ hk;obtain⟨_,b,h1,h2⟩:=hu;cases t<;>try cases h
    rw[h2,<-h1];exact this _ _ h
   ·cases h
  |succ n=>exact AsOk.none fun vs h=>h
 |ex v =>
  intro w hM;refine⟨fun h1 h2=>by rw[show _=v from h2];exact KL _ h1 _ _,fun h1 h2=>by rw[show _=v.cells.toList from h2];exact uY (KL _ h1 _ _),fun h=>(nomatch h),fun h=>(nomatch h),fun h=>h.elim,fun h=>h.elim⟩
 |ag l ih =>
  intro w hM;have ih:=ih hM
  refine⟨fun {t x u} h1 h2=>?_,fun {t x cs} h1 h2=>?_,fun h=>(nomatch h),fun h=>(nomatch h),fun h=>h.elim,fun h=>h.elim⟩
  ·change (match t.agg with|true=>(l.asv G M).2.1 t|false=>none)=some x at h1
   obtain⟨cs,h3,h4⟩:=h2
   cases ha:t.agg with
   |false=>grind
   |true =>
    rw[ha]at h1;exact⟨cs,ih.lc h1 h3,by rw[h4,Ty.jI,ha];rfl⟩
  ·change (match t.agg with|true=>(l.asv G M).2.1 t|false=>none)=some x at h1
   cases ha:t.agg with
   |false=>grind
   |true =>
    rw[ha]at h1;exact ih.lc h1 h2
 |un =>
  intro w hM;refine⟨fun h=>(nomatch h),fun h=>(nomatch h),fun {t x vs} h1 hp h2=>?_,fun {t x cs} h1 h2=>?_,fun h=>by rw[show _=[] from h];rfl,fun h i f v hf=>by cases hf⟩
  ·change asN t=some x at h1
   unfold asN at h1;split at h1
   ·exact h2
   ·cases hp
   ·cases h1
  ·change asN t=some x at h1
   unfold asN at h1;split at h1
   ·exact h2
   ·rename_i e;cases h1
    exact⟨rfl,h2⟩
   ·cases h1
 |pr a b iha ihb =>
  intro w hM;have iha:=iha hM
  have ihb:=ihb hM;refine⟨fun h=>(nomatch h),fun h=>(nomatch h),fun {t x vs} h1 hp h2=>?_,fun {t x cs} h1 h2=>?_,fun {vs} h=>?_,fun {vs} h i f v hf hv=>?_⟩
  ·change asC _ _ t=some x at h1
   unfold asC at h1;split at h1
   ·split at h1
    ·rename_i x1 y1 h3 h4
     cases h1
     obtain⟨v,vs',h5,h6,h7⟩:=h2;exact⟨v,vs',h5,iha.v h3 h6,ihb.l h4 hp h7⟩
    ·cases h1
   ·cases hp
   ·cases h1
  ·change asC _ _ t=some x at h1
   unfold asC at h1;split at h1
   ·split at h1
    ·rename_i x1 y1 h3 h4
     cases h1
     obtain⟨c1,c2,h5,h6,h7⟩:=h2;exact⟨c1,c2,h5,iha.vc h3 h6,ihb.lc h4 h7⟩
    ·cases h1
   ·split at h1
    ·rename_i x1 y1 h3 h4
     cases h1
     obtain⟨c1,c2,h5,h6,h7⟩:=h2;have h8:=ihb.lc h4 h7
     exact⟨zLq (· + 1) h8.1,c1,c2,h5,iha.vc h3 h6,h8.2⟩
    ·cases h1
   ·cases h1
  ·obtain⟨v,vs',h5,h6,h7⟩:=h
   rw[h5];simp[AV.asv,ihb.n h7]
  ·obtain⟨v',vs',h5,h6,h7⟩:=h
   subst h5
   cases i with
   |zero=>cases hf;cases hv;exact fun t x h=>iha.v h h6
   |succ i=>exact ihb.e h7 i f v (by grind [AV.asv]) (by grind)
 |cl f a b iha ihb =>
  intro w hM;refine AsOk.one fun t x u h hu=>?_
  obtain⟨vs,us,h1,h2,h3⟩:=hu;rw[h3];refine WQ hG ((iha hM).n h1) (fun O' w' hk i f v hf hv t x hx=>?_) (fun O' w' hk t x hp hx=>?_) h
  ·exact GR.yu _ ((iha hM).e h1 i f v hf hv t x hx) hk
  ·exact Ty.wZ _ _ hk ((ihb hM).l hx hp h2)
 |pt t x=>intro w hM;exact AsOk.none fun vs h=>h
 |el k i esz off2=>intro w hM;exact AsOk.none fun vs h=>h
 |ba k off sz i esz off2=>intro w hM;exact AsOk.none fun vs h=>h
 |pq t x=>intro w hM;exact AsOk.none fun vs h=>h
 |tp l ih=>intro w hM;exact AsOk.none fun vs h=>h
 |nb p e=>intro w hM;exact AsOk.none fun vs h=>h
 |sx k lo esz=>intro w hM;exact AsOk.none fun vs h=>h
 |px k n=>intro w hM;exact AsOk.none fun vs h=>h
 |yl=>intro w hM;exact AsOk.none fun vs h=>h
 |em t' xs =>
  intro w hM;refine AsOk.one fun t x u h hu=>?_
  exact Hq (a:=.sl t') h hu.1
 |top=>intro w hM;exact AsOk.none fun vs h=>h
def AE:MV->MV
 |.sl _ t T xs=>.fs t xs
 |.fs t xs=>.fs t xs
 |.fb t x=>.fb t x
 |.fg f=>.fg f
 |.fm a b xs=>.fm a b xs
 |.mp _ a b xs=>.fm a b xs
 |_=>.dead
def Cz:MS->MS
 | []=>[]
 |e::M=>(e.1,e.2.1,AE e.2.2)::Cz M
def Ri(f:AV->(t:Ty)->Option t.D):MV->MV
 |.bx _ c _=>.fg (f c)
 |m=>AE m
def H6(f:AV->(t:Ty)->Option t.D):MS->MS
 | []=>[]
 |e::M=>(e.1,e.2.1,Ri f e.2.2)::H6 f M
def Sz(G:FE)(M:MS):MS:=H6 (fun c=>(c.asv G (Cz M)).1) M
theorem tj:∀ {M:MS} {k:Nat} {e:Nat×MV},look (Cz M) k=some e->∃m,look M k=some (e.1,m)/\e.2=AE m
 | [],k,e,h=>by cases h
 |f::M,k,e,h=>by
  obtain⟨k0,st,m⟩:=f;simp only[Cz,look]at h |-
  cases hb:Nat.beq k0 k with
  |true=>grind
  |false=>rw[hb]at h;exact tj h
theorem tf{f:AV->(t:Ty)->Option t.D}:∀ {M:MS} {k:Nat} {e:Nat×MV},look (H6 f M) k=some e->∃m,look M k=some (e.1,m)/\e.2=Ri f m
 | [],k,e,h=>by cases h
 |g::M,k,e,h=>by
  obtain⟨k0,st,m⟩:=g;simp only[H6,look]at h |-
  cases hb:Nat.beq k0 k with
  |true=>grind
  |false=>rw[hb]at h;exact tf h
def Cx.lent(X:Cx):Cx:={ X with O:=fun _=>0 }
theorem Cx.le_lent(X:Cx)(w:World):X.le w X.lent w:=⟨rfl,⟨zLb _,fun _ _ _=>⟨rfl,rfl⟩⟩,fun _ _=>rfl,zLb _,rfl⟩
theorem Zk{X:Cx}{w:World}{k:Nat}{m:MV}(h:m.holds X w k):(AE m).holds X.lent w k:=by
 have sN:zb 0 X.O w (fun _=>0) w:=⟨zLb _,fun _ _ _=>⟨rfl,rfl⟩⟩
 cases m with
 |sl nw t T xs=>exact zo.W5 h
 |bx nw c T=>trivial
 |fs t xs=>exact GR.yu _ h sN
 |fb t x=>exact GR.yu _ h sN
 |fg f=>exact fun t x hx=>GR.yu _ (h t x hx) sN
 |mp nw a b xs =>
  obtain⟨c,es,clock,h1,h2,h3,_⟩:=h;exact⟨_,.inr ⟨c,es,clock,rfl,h2,h3.mono sN,rfl⟩,h1⟩
 |fm a b xs=>exact GR.yu _ h sN
 |dead=>trivial
theorem N5{X:Cx}{w:World}{M:MS}(h:yE M X w):yE (Cz M) X.lent w:=by
 intro k e he;obtain⟨m,h1,h2⟩:=tj he;rw[h2];exact Zk (h k _ h1)
theorem Bm{X:Cx}{w:World}{G:FE}(hG:FOk X.P G){M:MS}(h:yE M X w):yE (Sz G M) X.lent w:=by
 intro k e he;obtain⟨m,h1,h2⟩:=tf he;have hh:=h k _ h1
 rw[h2]
 cases m with
 |bx nw c T =>
  intro t x hx;obtain⟨b,cs,g1,g2,g3,g4⟩:=hh;have g5:=(c.mono (X.le_lent w) fun hf=>by grind).2.2 _ g3
  have g6:=(AV.jR (X:=X.lent) hG c (N5 h)).vc hx g5;show (KV _).v _ _ (X.U k) _
  rw[g1];exact⟨_,⟨b,cs.toList,T,rfl,g2.own,rfl,g6⟩,rfl⟩
 |sl nw t T xs=>exact Zk (m:=.sl nw t T xs) hh
 |fs t xs=>exact Zk (m:=.fs t xs) hh
 |fb t x=>exact Zk (m:=.fb t x) hh
 |fg f=>exact Zk (m:=.fg f) hh
 |mp nw a b xs=>exact Zk (m:=.mp nw a b xs) hh
 |fm a b xs=>exact Zk (m:=.fm a b xs) hh
 |dead=>trivial
theorem AV.Z7{X:Cx}{G:FE}(hG:FOk X.P G){M:MS}{φ:AV}{w:World}(hM:yE M X w){t:Ty}{x:t.D}{u:Value}(h:φ.asT G M t=some x)(hu:φ.holds X w u):(t.gr X.P).v X.O w u x:=(AV.jR hG φ hM).v h hu
theorem jj(a b:Nat):Nat.ble a b=decide (a<=b):=by
 grind [Nat.le_of_ble_eq_true,Nat.ble_eq_true_of_le]
def lp(a b:Bool):Bool:=match a,b with
 |true,true=>true
 |false,false=>true
 |_,_=>false
theorem Xy{a b:Bool}(h:lp a b=true):a=b:=by cases a<;>cases b<;>simp_all [lp]
def atT(sz:Nat)(ag:Bool):(t:Ty)->t.D->Bool->Nat->Option AV
 |.cons a b,x,q,off=>match q && (Nat.beq off 0 && (Nat.beq (a.sz+b.sz) sz && ag)) with
  |true=>some (.rd (.cons a b) x)
  |false=>match Nat.blt off a.sz with
   |true=>atT sz ag a x.1 true off
   |false=>atT sz ag b x.2 false (off-a.sz)
 |t,x,q,off=>match Nat.beq off 0 && (Nat.beq t.sz sz && lp t.agg ag) with
  |true=>some (.rd t x)
  |false=>none
def Uc(P:Program)(t:Ty)(x:t.D)(off sz:Nat)(ag:Bool)(φ:AV):Prop :=
 ∃(t':Ty) (x':t'.D),φ=.rd t' x'/\t'.sz=sz/\t'.agg=ag/\∀ {O w cs},(t.gr P).rel O w cs x->∃c1 c2 c3,cs=c1++(c2++c3)/\c1.length=off/\(t'.gr P).rel O w c2 x'
theorem Uc.self{P:Program}{t:Ty}{x:t.D}{off sz:Nat}{ag:Bool}(h0:Nat.beq off 0=true)(h1:t.sz=sz)(h2:t.agg=ag):Uc P t x off sz ag (.rd t x) :=
 ⟨t,x,rfl,h1,h2,fun {O w cs} h=>⟨[],cs,[],by simp,by simp_all,h⟩⟩
theorem SC{P:Program}{sz:Nat}{ag:Bool}:∀ {t:Ty} {x:t.D} {q:Bool} {off:Nat} {φ:AV},atT sz ag t x q off=some φ->Uc P t x off sz ag φ:=by
 intro t
 induction t with
 |cons a b iha ihb =>
  intro x q off φ h;simp only[atT]at h;split at h
  ·rename_i hc
   simp only[zLZ]at hc;cases h;exact Uc.self hc.2.1 (zLY hc.2.2.1) (by rw[hc.2.2.2];rfl)
  ·split at h
   ·rename_i hb
    obtain⟨t',x',h1,h2,h3,h4⟩:=iha h;refine⟨t',x',h1,h2,h3,fun hr=>?_⟩
    obtain⟨c1,c2,e1,k1,k2⟩:=hr;grind
   ·rename_i hb
    obtain⟨t',x',h1,h2,h3,h4⟩:=ihb h;refine⟨t',x',h1,h2,h3,fun hr=>?_⟩
    obtain⟨c1,c2,e1,k1,k2⟩:=hr;obtain⟨d1,d2,d3,f1,f2,f3⟩:=h4 k2;refine⟨c1++d1,d2,d3,by grind,?_,f3⟩
    have hl:=(a.gr P).len k1;grind [Ty.yr,za]
 |_ =>
  intro x q off φ h;simp only[atT]at h;split at h
  ·rename_i hc
   simp only[zLZ]at hc;grind [Uc.self,zLY,Xy]
  ·cases h
def AV.sz:AV->Nat
 |.rd t _=>t.sz
 |.un=>0
 |.pr a b=>a.sz+b.sz
 |.ag l=>l.sz
 |.ex v=>v.cells.size
 |_=>1
theorem zFh{q:Value->Prop}{cs:List Value}(h:(one q).c cs):cs.length=1:=by obtain⟨u,h,_⟩:=h;grind
theorem AV.len{X:Cx}{w:World}(φ:AV):∀ {cs},(φ.sem X w).c cs->cs.length=φ.sz:=by
 induction φ with
 |rd t x=>intro cs h;have:=(t.gr X.P).len h;rwa[Ty.yr]at this
 |un=>intro cs h;rw[show cs=[] from h];rfl
 |pr a b iha ihb =>
  intro cs h;obtain⟨c1,c2,h1,h2,h3⟩:=h;rw[h1,zLa,iha h2,ihb h3];rfl
 |ag l ih=>intro cs h;exact ih h
 |ex v=>intro cs h;rw[show cs=v.cells.toList from h];simp[AV.sz]
 |tp l=>intro cs h;exact h.elim
 |top=>intro cs h;exact h.elim
 |nb p e=>intro cs h;exact h.elim
 |pq t x=>intro cs h;exact h.elim
 |_=>intro cs h;exact zFh h
def zDu:Value->Bool
 |.agg _=>true
 |_=>false
def atV(sz:Nat)(ag:Bool)(v:Value)(off:Nat):Option AV:=match Nat.ble (off+sz) v.cells.size with
 |false=>none
 |true=>match ag with
  |true=>some (.ex (.agg (v.cells.toList.drop off |>.take sz).toArray))
  |false=>match Nat.beq sz 1,v.cells[off]? with
   |true,some c=>match c.oneCell' with
    |true=>some (AV.ofC c)
    |false=>none
   |_,_=>none
def AV.lone:AV->Bool
 |.pt .. | .ob _|.bx .. | .ba .. | .el .. | .cl .. | .em ..=>true
 |_=>false
def AV.at_(sz:Nat)(ag:Bool):AV->Bool->Nat->Option AV
 |.rd t x,q,off=>atT sz ag t x true off
 |.ag l,q,off=>match Nat.beq off 0 && (Nat.beq l.sz sz && ag) with
  |true=>some (.ag l)
  |false=>l.at_ sz ag false off
 |.pr a b,q,off=>match Nat.blt off a.sz with
  |true=>a.at_ sz ag true off
  |false=>b.at_ sz ag false (off-a.sz)
 |.ex v,q,off=>atV sz ag v off
 |φ,q,off=>match φ.lone && (Nat.beq off 0 && (Nat.beq sz 1 && !ag)) with
  |true=>some φ
  |false=>none
structure PartOf(X:Cx)(w:World)(cs:List Value)(off sz:Nat)(ag:Bool)(φ:AV):Prop where
 h:∃c1 c2 c3,cs=c1++(c2++c3)/\c1.length=off/\c2.length=sz/\(φ.sem X w).c c2/\(ag=false->sz=1)/\(φ.holds X w (yD ag c2))
theorem zHN{X:Cx}{w:World}{t:Ty}{x:t.D}{cs:List Value}(h:(t.gr X.P).rel X.O w cs x):(AV.rd t x).holds X w (yD t.agg cs):=⟨cs,h,by rw[Ty.jI]⟩
theorem Rh{X:Cx}{w:World}{φ:AV}(hl:φ.lone=true){cs:List Value}(h:(φ.sem X w).c cs):cs.length=1/\φ.holds X w (yD false cs):=by
 cases φ<;>first|(cases hl;done)|(obtain⟨u,h1,h2,h3⟩:=h;subst h1;exact⟨rfl,h3⟩)
theorem zAn{X:Cx}{w:World}{c:Value}(h1:c.oneCell'=true):((AV.ofC c).sem X w).c [c]:=by
 cases c<;>first
  |exact rfl
  |(show [_]=[Value.string (str (bs _))];rw[EW])
  |(show [_]=(Value.cells _).toList;rw[wO h1])
theorem NK{l:List α}{off sz:Nat}(h:off+sz<=l.length):l=l.take off++((l.drop off).take sz++(l.drop off).drop sz)/\(l.take off).length=off/\((l.drop off).take sz).length=sz:=by
 refine⟨by grind [List.take_append_drop],by grind,by grind⟩
theorem SB{X:Cx}{w:World}{sz:Nat}{ag:Bool}{v:Value}{off:Nat}{φ:AV}(h:atV sz ag v off=some φ):PartOf X w v.cells.toList off sz ag φ:=by
 unfold atV at h;split at h
 ·cases h
 ·rename_i hb
  rw[jj]at hb;have hb':off+sz<=v.cells.toList.length:=by grind
  obtain⟨e1,e2,e3⟩:=NK hb';split at h
  ·cases h
   exact⟨_,_,_,e1,e2,e3,by simp[AV.sem,Value.cells],by simp,rfl⟩
  ·split at h
   ·rename_i c hs hc
    split at h
    ·rename_i h1
     cases h
     have pV:=zLY hs;subst pV;have e4:(v.cells.toList.drop off).take 1=[c]:=by
      grind [List.drop_eq_getElem_cons]
     refine⟨_,_,_,e1,e2,e3,by grind [zAn],fun _=>rfl,?_⟩
     rw[e4];exact AV.wP X w c
    ·cases h
   ·cases h
theorem AV.IF{X:Cx}{w:World}{sz:Nat}{ag:Bool}(φ:AV):∀ {q:Bool} {off:Nat} {ψ:AV},φ.at_ sz ag q off=some ψ->∀ {cs},(φ.sem X w).c cs->PartOf X w cs off sz ag ψ:=by
 have lone_case:∀(φ:AV) {off:Nat} {ψ:AV},(match φ.lone && (Nat.beq off 0 && (Nat.beq sz 1 && !ag)) with|true=>some φ|false=>none)=some ψ->∀ {cs},(φ.sem X w).c cs->PartOf X w cs off sz ag ψ:=by
  intro φ off ψ h cs hc;split at h
  ·rename_i hl
   simp only[zLZ]at hl;cases h;obtain⟨h1,h2⟩:=Rh hl.1 hc;have e1:=zLY hl.2.1
   have e2:=zLY hl.2.2.1;have e3:ag=false:=by grind
   subst e1 e2 e3;exact⟨[],cs,[],by simp,rfl,h1,hc,fun _=>rfl,h2⟩
  ·cases h
 induction φ with
 |rd t x =>
  intro q off ψ h cs hc;obtain⟨t',x',h1,h2,h3,h4⟩:=SC (P:=X.P) h;obtain⟨c1,c2,c3,e1,e2,e3⟩:=h4 hc;have hl:=(t'.gr X.P).len e3
  rw[Ty.yr,h2]at hl;refine⟨c1,c2,c3,e1,e2,hl,by rw[h1];exact e3,fun ha=>?_,by grind [zHN]⟩
  have:=Ty.fits X.P t' (by grind [Ty.jI])
  grind [Ty.yr]
 |ag l ih =>
  intro q off ψ h cs hc;simp only[AV.at_]at h;split at h
  ·rename_i hb
   simp only[zLZ]at hb;cases h;have e1:=zLY hb.1
   have e2:=zLY hb.2.1;obtain rfl:ag=true:=hb.2.2;subst e1;exact⟨[],cs,[],by simp,rfl,by rw[<-e2];exact AV.len l hc,hc,fun ha=>(nomatch ha),cs,hc,rfl⟩
  ·exact ih h hc
 |pr a b iha ihb =>
  intro q off ψ h cs hc;obtain⟨c1,c2,h1,h2,h3⟩:=hc;simp only[AV.at_]at h;split at h
  ·obtain⟨d1,d2,d3,e1,e2,e3⟩:=(iha h h2).h
   exact⟨d1,d2,d3++c2,by grind,e2,e3⟩
  ·rename_i hb
   obtain⟨d1,d2,d3,e1,e2,e3⟩:=(ihb h h3).h;have hl:=AV.len a h2
   rw[za]at hb;have hb':¬off<a.sz:=by grind
   exact⟨c1++d1,d2,d3,by grind,by grind,e3⟩
 |ex v =>
  intro q off ψ h cs hc;rw[show cs=v.cells.toList from hc]
  exact SB h
 |_=>grind [AV.at_]
def UX:(t:Ty)->t.D->AV
 |.cons a b,x=>.pr (.rd a x.1) (UX b x.2)
 |_,_=>.un
def okE:Ty->Bool
 |.cons _ b=>okE b
 |.nil=>true
 |_=>false
def rB(q:Bool)(l:AV):AV:=match q with
 |true=>.ag l
 |false=>l
def Mg(ψ:AV)(sz:Nat)(ag:Bool):(t:Ty)->t.D->Bool->Nat->Option AV
 |.cons a b,x,q,off=>match q && (Nat.beq off 0 && (Nat.beq (a.sz+b.sz) sz && ag)) with
  |true=>some ψ
  |false=>match Nat.blt off a.sz with
   |true=>match okE b,Mg ψ sz ag a x.1 true off with
    |true,some a'=>some (rB q (.pr a' (UX b x.2)))
    |_,_=>none
   |false=>match Mg ψ sz ag b x.2 false (off-a.sz) with
    |some b'=>some (rB q (.pr (.rd a x.1) b'))
    |none=>none
 |t,x,q,off=>match Nat.beq off 0 && (Nat.beq t.sz sz && lp t.agg ag) with
  |true=>some ψ
  |false=>none
def AV.rT(ψ:AV)(sz:Nat)(ag:Bool):AV->Bool->Nat->Option AV
 |.rd t x,q,off=>Mg ψ sz ag t x true off
 |.ag l,q,off=>match Nat.beq off 0 && (Nat.beq l.sz sz && ag) with
  |true=>some ψ
  |false=>match AV.rT ψ sz ag l false off with
   |some l'=>some (.ag l')
   |none=>none
 |.pr a b,q,off=>match Nat.blt off a.sz with
  |true=>match AV.rT ψ sz ag a true off with
   |some a'=>some (.pr a' b)
   |none=>none
  |false=>match AV.rT ψ sz ag b false (off-a.sz) with
   |some b'=>some (.pr a b')
   |none=>none
 |.ex v,q,off=>match Nat.beq off 0 && (Nat.beq v.cells.size sz) with
  |true=>some ψ
  |false=>none
 |φ,q,off=>match φ.lone && (Nat.beq off 0 && (Nat.beq sz 1)) with
  |true=>some ψ
  |false=>none
theorem E3{X:Cx}{w:World}:∀ {t:Ty} {x:t.D} {cs},okE t=true->(t.gr X.P).rel X.O w cs x->((UX t x).sem X w).c cs:=by
 intro t
 induction t with
 |cons a b iha ihb =>
  intro x cs ho h;obtain⟨c1,c2,e1,k1,k2⟩:=h;exact⟨c1,c2,e1,k1,ihb ho k2⟩
 |nil=>intro x cs ho h;exact h
 |_=>intro x cs ho h;cases ho
def Zc(X:Cx)(w:World)(ψ:AV)(off sz:Nat)(cs:List Value)(φ':AV):Prop :=
 off+sz<=cs.length/\∀ds,ds.length=sz->(ψ.sem X w).c ds->(φ'.sem X w).c (cs.take off++(ds++cs.drop (off+sz)))
theorem Zc.self{X:Cx}{w:World}{ψ:AV}{off sz:Nat}{cs:List Value}(h0:Nat.beq off 0=true)(hl:cs.length=sz):Zc X w ψ off sz cs ψ:=by
 have:=zLY h0;subst this;refine⟨by omega,fun ds h1 h2=>?_⟩
 grind
theorem Zc.left{X:Cx}{w:World}{ψ:AV}{off sz:Nat}{c1 c2:List Value}{a b:AV}(h:Zc X w ψ off sz c1 a)(hb:(b.sem X w).c c2):Zc X w ψ off sz (c1++c2) (.pr a b):=by
 obtain⟨h1,h2⟩:=h;refine⟨by grind,fun ds h3 h4=>⟨_,c2,?_,h2 ds h3 h4,hb⟩⟩
 grind
theorem Zc.right{X:Cx}{w:World}{ψ:AV}{off sz n:Nat}{c1 c2:List Value}{a b:AV}(h:Zc X w ψ (off-n) sz c2 b)(hn:c1.length=n)(ho:¬off<n)(ha:(a.sem X w).c c1):Zc X w ψ off sz (c1++c2) (.pr a b):=by
 obtain⟨h1,h2⟩:=h;refine⟨by grind,fun ds h3 h4=>⟨c1,_,?_,ha,h2 ds h3 h4⟩⟩
 rw[List.take_append,List.drop_append,List.take_of_length_le (by omega),List.drop_of_length_le (by omega:c1.length<=off+sz)]
 simp only[List.nil_append,zLt];rw[hn,show off+sz-n=off-n+sz by omega]
theorem nx{X:Cx}{w:World}{q:Bool}{l:AV}:((rB q l).sem X w).c=(l.sem X w).c:=by cases q<;>rfl
theorem Zc.wrap{X:Cx}{w:World}{ψ:AV}{off sz:Nat}{cs:List Value}{l:AV}{q:Bool}(h:Zc X w ψ off sz cs l):Zc X w ψ off sz cs (rB q l):=by
 refine⟨h.1,fun ds h1 h2=>?_⟩
 rw[nx];exact h.2 ds h1 h2
theorem VK{X:Cx}{w:World}{ψ:AV}{sz:Nat}{ag:Bool}:∀ {t:Ty} {x:t.D} {q:Bool} {off:Nat} {φ':AV},Mg ψ sz ag t x q off=some φ'->∀ {cs},(t.gr X.P).rel X.O w cs x->Zc X w ψ off sz cs φ':=by
 intro t
 induction t with
 |cons a b iha ihb =>
  intro x q off φ' h cs hc;have fA:=((Ty.cons a b).gr X.P).len hc
  rw[Ty.yr]at fA;obtain⟨c1,c2,e1,k1,k2⟩:=hc;have dT:=(a.gr X.P).len k1
  rw[Ty.yr]at dT;simp only[Mg]at h;split at h
  ·rename_i hb
   simp only[zLZ]at hb;cases h;exact Zc.self hb.2.1 (by rw[fA];exact zLY hb.2.2.1)
  ·split at h
   ·split at h
    ·rename_i a' ho ha
     cases h
     rw[e1];exact((iha ha k1).left (E3 ho k2)).wrap
    ·cases h
   ·rename_i hb
    rw[za]at hb;split at h
    ·rename_i b' hb'
     cases h
     rw[e1];exact((ihb hb' k2).right (a:=.rd a x.1) dT (by grind) k1).wrap
    ·cases h
 |_ =>
  intro x q off φ' h cs hc;have fA:=(Ty.gr X.P _).len hc
  rw[Ty.yr]at fA;simp only[Mg]at h;split at h
  ·simp_all [Zc.self]
  ·cases h
theorem AV.Eh{X:Cx}{w:World}{ψ:AV}{sz:Nat}{ag:Bool}(φ:AV):∀ {q:Bool} {off:Nat} {φ':AV},AV.rT ψ sz ag φ q off=some φ'->∀ {cs},(φ.sem X w).c cs->Zc X w ψ off sz cs φ':=by
 have lone_case:∀(φ:AV) {off:Nat} {φ':AV},(match φ.lone && (Nat.beq off 0 && (Nat.beq sz 1)) with|true=>some ψ|false=>none)=some φ'->∀ {cs},(φ.sem X w).c cs->Zc X w ψ off sz cs φ':=by
  intro φ off φ' h cs hc;split at h
  ·rename_i hl
   simp only[zLZ]at hl;grind [Zc.self,Rh,zLY]
  ·cases h
 induction φ with
 |rd t x=>intro q off φ' h cs hc;exact VK h hc
 |ag l ih =>
  intro q off φ' h cs hc;simp only[AV.rT]at h;split at h
  ·rename_i hb
   simp only[zLZ]at hb;cases h;exact Zc.self hb.1 (by rw[<-zLY hb.2.1];exact AV.len l hc)
  ·split at h
   ·rename_i l' hl'
    cases h
    exact ih hl' hc
   ·cases h
 |pr a b iha ihb =>
  intro q off φ' h cs hc;obtain⟨c1,c2,h1,h2,h3⟩:=hc;rw[h1];simp only[AV.rT]at h;split at h
  ·split at h
   ·rename_i a' ha'
    cases h
    exact(iha ha' h2).left h3
   ·cases h
  ·rename_i hb
   rw[za]at hb;split at h
   ·rename_i b' hb'
    cases h
    exact(ihb hb' h3).right (AV.len a h2) (by grind) h2
   ·cases h
 |ex v =>
  intro q off φ' h cs hc;simp only[AV.rT]at h;split at h
  ·rename_i hb
   simp only[zLZ]at hb;cases h;refine Zc.self hb.1 ?_;rw[show cs=v.cells.toList from hc,<-zLY hb.2];simp
  ·cases h
 |_=>grind [AV.rT]
inductive VR
 |no
 |tot (φ:AV)
 |par (t:Ty) (c:Comp t.D) (mk:t.D->AV)
def VOk(X:Cx)(w:World)(a:Act)(o:Oper):VR->Prop
 |.no=>True
 |.tot φ=>Ok X.P o a w (fun w v=>φ.holds X w v)
 |.par t c mk=>∀n y,c.run n=some y->Ok X.P o a w (fun w v=>(mk y).holds X w v)
def vI(k:IntKind)(m:Int):VR:=.tot (.rd (.int k) m)
def vB(b:Bool):VR:=.tot (.rd .bool b)
abbrev rdI(k:IntKind)(m:Int):AV:=.rd (.int k) m
abbrev rdB(b:Bool):AV:=.rd .bool b
abbrev rdS(s:vE):AV:=.rd .str s
section ops
variable {X:Cx} {w:World} {a:Act} {o:Oper} {d:Option Tmp} {T Y Z:TypeId} {pos:String} {aft:Array Edge} {g:Option (Nat×Bool)}
theorem Xf{k:IntKind}{m:Int}(h:Ok X.P o a w (SP.isv (.int k m)).holds):Ok X.P o a w (fun w v=>(rdI k m).holds X w v):=yR h fun _ _ _ h=>Eg.2 h
theorem uR{b:Bool}(h:Ok X.P o a w (SP.isv (.bool b)).holds):Ok X.P o a w (fun w v=>(rdB b).holds X w v):=yR h fun _ _ _ h=>kO.2 h
theorem Wz{b:vE}(h:Ok X.P o a w (SP.isv (.string (str b))).holds):Ok X.P o a w (fun w v=>(rdS b).holds X w v):=yR h fun _ _ _ h=>Ef.2 h
def AV.int?:AV->Option (IntKind×Int)
 |.rd (.int k) m=>some (k,m)
 |_=>none
def AV.D3:AV->Option vE
 |.rd .str s=>some s
 |_=>none
theorem AV.MG{φ:AV}{p:IntKind×Int}(h:φ.int?=some p):φ=rdI p.1 p.2:=by
 unfold AV.int? at h;grind
theorem AV.Ia{φ:AV}{p:vE}(h:φ.D3=some p):φ=rdS p:=by
 unfold AV.D3 at h;grind
theorem ZL{x:Operand}{φ:AV}(h:φ.holds X w (a.eval x)){p:IntKind×Int}(hp:φ.int?=some p):a.eval x=.int p.1 p.2:=by
 rw[AV.MG hp]at h;exact Eg.1 h
theorem Jd{x:Operand}{φ:AV}(h:φ.holds X w (a.eval x)){p:Bool}(hp:φ.bool?=some p):a.eval x=.bool p:=by
 rw[AV.Zg hp]at h;exact kO.1 h
theorem Kb{x:Operand}{φ:AV}(h:φ.holds X w (a.eval x)){p:vE}(hp:φ.D3=some p):a.eval x=.string (str p):=by
 rw[AV.Ia hp]at h;exact Ef.1 h
def zG(k:IntKind)(m n:Int):Int:=k.wrap (m+n)
def vu(k:IntKind)(m n:Int):Int:=k.wrap (m-n)
def ku(k:IntKind)(m n:Int):Int:=k.wrap (m * n)
def Yw(k:IntKind)(m:Int):Int:=k.wrap (0-m)
def IB(k:IntKind)(m:Int):Int:=k.wrap m
def neI(m n:Int):Bool:=decide (m≠n)
def ltI(m n:Int):Bool:=decide (m<n)
def leI(m n:Int):Bool:=decide (m<=n)
def gtI(m n:Int):Bool:=decide (m > n)
def geI(m n:Int):Bool:=decide (m ≥ n)
def rW(m n:Int):Int:=max m n
def D5(m n:Int):Int:=min m n
def neS(s t:vE):Bool:=decide (s≠t)
def neB(s t:Bool):Bool:=decide (s≠t)
def ntB(b:Bool):Bool:=!b
def zD(xs:List α):Int:=(xs.length:Int)
def sel(b:Bool)(x y:α):α:=bif b then x else y
def zHy(op:BinOp)(k:IntKind)(m n:Int):VR:=match op with
 |.add=>vI k (zG k m n)
 |.sub=>vI k (vu k m n)
 |.mul=>vI k (ku k m n)
 |.quo=>.par (.int k) (quo k m n) (.rd (.int k))
 |.rem=>.par (.int k) (rem m n) (.rd (.int k))
 |.and=>vI k (zIB k m n)
 |.or=>vI k (orB k m n)
 |.xor=>vI k (zHC k m n)
 |.andNot=>vI k (Hb k m n)
 |.eql=>vB (eqI m n)
 |.neq=>vB (neI m n)
 |.lss=>vB (ltI m n)
 |.leq=>vB (leI m n)
 |.gtr=>vB (gtI m n)
 |.geq=>vB (geI m n)
 |_=>.no
theorem Wb{op:BinOp}{k:IntKind}{m n:Int}{x y:Operand}(hx:a.eval x=.int k m)(hy:a.eval y=.int k n):VOk X w a ⟨d,.binOp op Y x y Z,T,pos,aft,g⟩ (zHy op k m n):=by
 cases op with
 |add=>exact Xf (zDX hx hy)
 |sub=>exact Xf (zDJ hx hy)
 |mul=>exact Xf (zDQ hx hy)
 |and=>exact Xf (VZ hx hy)
 |or=>exact Xf (zDI hx hy)
 |xor=>exact Xf (VY hx hy)
 |andNot=>exact Xf (Dm hx hy)
 |eql=>exact uR (Vl hx hy)
 |neq=>exact uR (Ve hx hy)
 |lss=>exact uR (zDS hx hy)
 |leq=>exact uR (zDT hx hy)
 |gtr=>exact uR (zDU hx hy)
 |geq=>exact uR (zDV hx hy)
 |quo=>intro nf y h;obtain⟨h1,h2⟩:=U9 h;subst h2;exact Xf (zDN hx hy h1)
 |rem=>intro nf y h;obtain⟨h1,h2⟩:=U8 h;subst h2;exact Xf (zDM hx hy h1)
 |_=>exact trivial
def zHK(k:IntKind)(m n:Int):Comp Int:=if 0<=n then Comp.pure (zHJ k m n) else Comp.fail
def zHI(k:IntKind)(m n:Int):Comp Int:=if 0<=n then Comp.pure (zHH k m n) else Comp.fail
def zLA:BinOp->Bool
 |.shl|.shr=>true
 |_=>false
def UA(op:BinOp)(k:IntKind)(m n:Int):VR:=match op with
 |.shl=>.par (.int k) (zHK k m n) (.rd (.int k))
 |.shr=>.par (.int k) (zHI k m n) (.rd (.int k))
 |_=>.no
theorem Qe{op:BinOp}{k l:IntKind}{m n:Int}{x y:Operand}(hx:a.eval x=.int k m)(hy:a.eval y=.int l n):VOk X w a ⟨d,.binOp op Y x y Z,T,pos,aft,g⟩ (UA op k m n):=by
 cases op<;>simp only[UA]<;>first
  |exact trivial
  |(intro nf y h;unfold zHK at h;split at h;exact Xf (by rw[<-run_pure h];grind [VV]);cases h)
  |(intro nf y h;unfold zHI at h;split at h;exact Xf (by rw[<-run_pure h];grind [VT]);cases h)
def zFG(op:BinOp)(s t:vE):VR:=match op with
 |.eql=>vB (eqS s t)
 |.neq=>vB (neS s t)
 |.add=>.par .str (cat s t) (.rd .str)
 |_=>.no
theorem WZ{op:BinOp}{s t:vE}{x y:Operand}(hx:a.eval x=.string (str s))(hy:a.eval y=.string (str t)):VOk X w a ⟨d,.binOp op Y x y Z,T,pos,aft,g⟩ (zFG op s t):=by
 cases op<;>simp only[zFG]<;>first
  |exact trivial
  |exact uR (Nt hx hy)
  |exact uR (Np hx hy)
  |(intro nf y h;exact Wz (Nu hx hy h))
def mm:TypeDesc->Bool
 |.bool=>true
 |_=>false
def zFH(T:TE)(Y:TypeId)(op:BinOp)(s t:Bool):VR:=match look T Y with
 |none=>.no
 |some i=>match mm i.dd with
  |false=>.no
  |true=>match op with
   |.eql=>vB (eqB s t)
   |.neq=>vB (neB s t)
   |_=>.no
theorem Du{d:TypeDesc}(h:mm d=true):d=.bool:=by cases d<;>first|rfl|cases h
theorem Wc{TT:TE}(hT:TOk X.P TT){op:BinOp}{s t:Bool}{x y:Operand}(hx:a.eval x=.bool s)(hy:a.eval y=.bool t):VOk X w a ⟨d,.binOp op Y x y Z,T,pos,aft,g⟩ (zFH TT Y op s t):=by
 unfold zFH
 cases hl:look TT Y with
 |none=>trivial
 |some i =>
  simp only
  cases hb:mm i.dd with
  |false=>trivial
  |true =>
   have:=(hT Y i hl).ty;rw[Du hb]at this;cases op<;>first|exact trivial|exact uR (Vm this hx hy)|exact uR (Vf this hx hy)
def zEf(T:TE)(op:BinOp)(Y:TypeId):Option AV->Option AV->VR
 |some φ,some ψ=>match φ.int?,ψ.int? with
  |some p,some q=>match zLA op with
   |true=>UA op p.1 p.2 q.2
   |false=>match Hj p.1 q.1 with
    |true=>zHy op p.1 p.2 q.2
    |false=>.no
  |_,_=>match φ.D3,ψ.D3 with
   |some s,some t=>zFG op s t
   |_,_=>match φ.bool?,ψ.bool? with
    |some s,some t=>zFH T Y op s t
    |_,_=>.no
 |_,_=>.no
def ZY(X:Cx)(w:World)(a:Act)(rd:Operand->Option AV)(l:Array Operand):Prop:=∀x φ,x∈l->rd x=some φ->φ.holds X w (a.eval x)
theorem Uu{TT:TE}(hT:TOk X.P TT){rd:Operand->Option AV}{op:BinOp}{x y:Operand}(H:ZY X w a rd (Op.operands (.binOp op Y x y Z))):VOk X w a ⟨d,.binOp op Y x y Z,T,pos,aft,g⟩ (zEf TT op Y (rd x) (rd y)):=by
 cases h1:rd x with
 |none=>trivial
 |some φ =>
  cases h2:rd y with
  |none=>trivial
  |some ψ =>
   have k1:=H x φ (by simp[Op.operands]) h1
   have k2:=H y ψ (by simp[Op.operands]) h2
   simp only[zEf];split
   ·rename_i p q e1 e2
    have f1:=ZL k1 e1;have f2:=ZL k2 e2
    split
    ·exact Qe f1 f2
    ·split
     ·grind [Xx,Wb]
     ·trivial
   ·split
    ·grind [WZ,Kb]
    ·split
     ·grind [Wc,Jd]
     ·trivial
def vUn(op:UnOp):Option AV->VR
 |some φ=>match op with
  |.not=>match φ.bool? with
   |some b=>vB (ntB b)
   |none=>.no
  |.neg=>match φ.int? with
   |some p=>vI p.1 (Yw p.1 p.2)
   |none=>.no
  |_=>.no
 |none=>.no
theorem zBI{rd:Operand->Option AV}{op:UnOp}{x:Operand}(H:ZY X w a rd (Op.operands (.unOp op Y x))):VOk X w a ⟨d,.unOp op Y x,T,pos,aft,g⟩ (vUn op (rd x)):=by
 cases h1:rd x with
 |none=>trivial
 |some φ =>
  have k1:=H x φ (by simp[Op.operands]) h1
  cases op<;>simp only[vUn]<;>try exact trivial
  ·split
   ·rename_i p e;exact Xf (zDP (ZL k1 e))
   ·trivial
  ·split
   ·rename_i p e;exact uR (zDO (Jd k1 e))
   ·trivial
def W8:TypeDesc->Option IntKind
 |.int k=>some k
 |_=>none
theorem mq{d:TypeDesc}{k:IntKind}(h:W8 d=some k):d=.int k:=by cases d<;>first|(cases h;rfl)|cases h
def SQ(T:TE)(Y Z:TypeId):Option AV->VR
 |some φ=>match φ.int?,look T Y,look T Z with
  |some p,some i,some j=>match W8 i.dd,W8 j.dd with
   |some k,some l=>match Hj k p.1 with
    |true=>vI l (IB l p.2)
    |false=>.no
   |_,_=>.no
  |_,_,_=>.no
 |none=>.no
theorem Mx{TT:TE}(hT:TOk X.P TT){rd:Operand->Option AV}{x:Operand}(H:ZY X w a rd (Op.operands (.convert Y Z x))):VOk X w a ⟨d,.convert Y Z x,T,pos,aft,g⟩ (SQ TT Y Z (rd x)):=by
 cases h1:rd x with
 |none=>trivial
 |some φ =>
  have k1:=H x φ (by simp[Op.operands]) h1
  simp only[SQ];split
  ·rename_i p i j e1 e2 e3
   split
   ·rename_i k l e4 e5
    split
    ·rename_i hk
     have hk:=Xx hk;have t1:=(hT Y i e2).ty
     have t2:=(hT Z j e3).ty;rw[mq e4]at t1;rw[mq e5]at t2;subst hk;exact Xf (Ny t1 t2 (ZL k1 e1))
    ·trivial
   ·trivial
  ·trivial
theorem Ms{rd:Operand->Option AV}{x:Operand}{φ:AV}(h:rd x=some φ)(H:ZY X w a rd (Op.operands (.move x))):VOk X w a ⟨d,.move x,T,pos,aft,g⟩ (.tot φ) :=
 vC (v:=a.eval x) (w':=w) (by simp[execOp]) (Ext.refl _) (H x φ (by simp[Op.operands]) h)
theorem DC{rd:Operand->Option AV}{x:Operand}{φ:AV}(h:rd x=some φ)(H:ZY X w a rd (Op.operands (.assign x))):VOk X w a ⟨d,.assign x,T,pos,aft,g⟩ (.tot φ) :=
 vC (v:=a.eval x) (w':=w) (by simp[execOp]) (Ext.refl _) (H x φ (by simp[Op.operands]) h)
def vMM(mx:Bool):Option AV->Option AV->VR
 |some φ,some ψ=>match φ.int?,ψ.int? with
  |some p,some q=>match Hj p.1 q.1 with
   |true=>match mx with
    |true=>vI p.1 (rW p.2 q.2)
    |false=>vI p.1 (D5 p.2 q.2)
   |false=>.no
  |_,_=>.no
 |_,_=>.no
theorem Ul{rd:Operand->Option AV}{x y:Operand}(H:ZY X w a rd (Op.operands (.call ⟨.builtin .max,#[x,y],#[Y,Z]⟩))):VOk X w a ⟨d,.call ⟨.builtin .max,#[x,y],#[Y,Z]⟩,T,pos,aft,g⟩ (vMM true (rd x) (rd y)):=by
 cases h1:rd x with
 |none=>trivial
 |some φ =>
  cases h2:rd y with
  |none=>trivial
  |some ψ =>
   have k1:=H x φ (by simp[Op.operands,Call.operands]) h1
   have k2:=H y ψ (by simp[Op.operands,Call.operands]) h2
   simp only[vMM];split
   ·rename_i p q e1 e2
    split
    ·rename_i hk;have hk:=Xx hk
     have f2:=ZL k2 e2;rw[<-hk]at f2;exact Xf (VW (ZL k1 e1) f2)
    ·trivial
   ·trivial
theorem Uk{rd:Operand->Option AV}{x y:Operand}(H:ZY X w a rd (Op.operands (.call ⟨.builtin .min,#[x,y],#[Y,Z]⟩))):VOk X w a ⟨d,.call ⟨.builtin .min,#[x,y],#[Y,Z]⟩,T,pos,aft,g⟩ (vMM false (rd x) (rd y)):=by
 cases h1:rd x with
 |none=>trivial
 |some φ =>
  cases h2:rd y with
  |none=>trivial
  |some ψ =>
   have k1:=H x φ (by simp[Op.operands,Call.operands]) h1
   have k2:=H y ψ (by simp[Op.operands,Call.operands]) h2
   simp only[vMM];split
   ·rename_i p q e1 e2
    split
    ·rename_i hk;have hk:=Xx hk
     have f2:=ZL k2 e2;rw[<-hk]at f2;exact Xf (zDR (ZL k1 e1) f2)
    ·trivial
   ·trivial
def slD:TypeDesc->Option TypeId
 |.slice e=>some e
 |_=>none
theorem ZU{d:TypeDesc}{k:TypeId}(h:slD d=some k):d=.slice k:=by cases d<;>first|(cases h;rfl)|cases h
def arD:TypeDesc->Option (Nat×TypeId)
 |.array n e=>some (n,e)
 |_=>none
theorem GB{d:TypeDesc}{k:Nat×TypeId}(h:arD d=some k):d=.array k.1 k.2:=by cases d<;>first|(cases h;rfl)|cases h
def Hf(M:MS):AV->Option ((t:Ty)×List t.D)
 |.rd (.sl t) xs=>some ⟨t,xs⟩
 |.em t xs=>some ⟨t,xs⟩
 |.ob k=>match look M k with
  |some (_,.fs t xs)=>some ⟨t,xs⟩
  |_=>none
 |.ex (.slice none 0 _)=>none
 |_=>none
theorem qm{M:MS}(hM:yE M X w){φ:AV}{u:Value}(hu:φ.holds X w u){p:(t:Ty)×List t.D}(h:Hf M φ=some p):(rSl (p.1.gr X.P)).v X.O w u p.2:=by
 unfold Hf at h;split at h
 ·cases h;exact hu
 ·cases h;exact hu.1
 ·split at h
  ·rename_i k _ st t xs hk
   cases h
   have:=hM k _ hk;rw[hu.1];exact this
  ·cases h
 ·cases h
 ·cases h
def uN(M:MS):AV->Option (Nat×TypeId×(t:Ty)×List t.D)
 |.ob k=>match look M k with
  |some (_,.sl _ t T xs)=>some (k,T,⟨t,xs⟩)
  |_=>none
 |_=>none
theorem Jl{M:MS}(hM:yE M X w){φ:AV}{u:Value}(hu:φ.holds X w u){p:Nat×TypeId×(t:Ty)×List t.D}(h:uN M φ=some p):(∃nw,zo (X.ι p.1) (p.2.2.1.gr X.P) p.2.1 (X.B nw) X.O w u p.2.2.2)/\u=X.U p.1/\p.1<X.n:=by
 unfold uN at h;split at h
 ·split at h
  ·rename_i k _ st nw t T xs hk
   cases h
   have:=hM k _ hk;refine⟨⟨nw,?_⟩,hu.1,hu.2.1⟩;rw[hu.1];exact this
  ·cases h
 ·cases h
def qj(M:MS):AV->Option (TypeId×(t:Ty)×List t.D)
 |.sx k lo esz=>match look M k with
  |some (_,.sl _ t T xs)=>match Nat.beq esz t.sz with
   |true=>some (T,⟨t,xs.drop lo⟩)
   |false=>none
  |_=>none
 |_=>none
theorem U4{w:World}{E:Nat}{u:Value}{vs:List Value}(h:SlV w E u vs)(m:Nat):SlV w E (rS u m E) (vs.drop m):=by
 have h':=h;obtain⟨p,c,h1,h2,h3,h4⟩:=h;subst h1;by_cases hm:m<=vs.length
 ·exact SlV.drop h' hm
 ·have e:vs.drop m=[]:=List.drop_eq_nil_of_le (by omega)
  refine⟨_,c-m,by rw[e];simp only[rS];congr 1;grind,by grind,by grind,.inl e⟩
theorem qL{M:MS}(hM:yE M X w){φ:AV}{u:Value}(hu:φ.holds X w u){p:TypeId×(t:Ty)×List t.D}(h:qj M φ=some p):Rd (p.2.1.gr X.P) X.O w u p.2.2:=by
 unfold qj at h;split at h
 ·split at h
  ·rename_i k lo esz _ st nw t T xs hk
   split at h
   ·rename_i hs
    cases h
    have hm:zo _ _ _ _ _ _ _ _:=hM k _ hk;obtain⟨vs,g1,g2⟩:=hm.rd;rw[hu.1,zLY hs,<-Ty.yr X.P t];exact⟨vs.drop lo,U4 g1 lo,g2.drop lo⟩
   ·cases h
  ·cases h
 ·cases h
def Mi(φ:AV):Bool:=match φ with
 |.ex (.slice none 0 0)=>true
 |_=>false
theorem mb{φ:AV}(h:Mi φ=true):φ=.ex (.slice none 0 0):=by
 grind [Mi]
def zEZ(T:TE)(M:MS)(Y:TypeId):Option AV->VR
 |some φ=>match look T Y with
  |none=>.no
  |some i=>match slD i.dd with
   |some e=>match Hf M φ with
    |some p=>vI .i64 (zD p.2)
    |none=>match uN M φ with
     |some p=>vI .i64 (zD p.2.2.2)
     |none=>match qj M φ with
      |some p=>vI .i64 (zD p.2.2)
      |none=>match Mi φ with
       |true=>vI .i64 (zD ([]:List Unit))
       |false=>.no
   |none=>match φ.D3,i.dd with
    |some s,.string=>vI .i64 (zD s)
    |_,_=>.no
 |none=>.no
theorem Um{TT:TE}(hT:TOk X.P TT){M:MS}(hM:yE M X w){rd:Operand->Option AV}{x:Operand}(H:ZY X w a rd (Op.operands (.call ⟨.builtin .len,#[x],#[Y]⟩))):VOk X w a ⟨d,.call ⟨.builtin .len,#[x],#[Y]⟩,T,pos,aft,g⟩ (zEZ TT M Y (rd x)):=by
 cases h1:rd x with
 |none=>trivial
 |some φ =>
  have k1:=H x φ (by simp[Op.operands,Call.operands]) h1
  simp only[zEZ];split
  ·trivial
  ·rename_i i hi
   have ht:=(hT Y i hi).ty;split
   ·rename_i e he
    rw[ZU he]at ht;split
    ·rename_i p hp
     exact Xf (uw ht rfl (Cr (qm hM k1 hp)))
    ·split
     ·rename_i p hp
      exact Xf (uw ht rfl (Jl hM k1 hp).1.choose_spec.rd)
     ·split
      ·rename_i p hp
       exact Xf (uw ht rfl (qL hM k1 hp))
      ·split
       ·rename_i hn
        rw[mb hn]at k1;have k1:a.eval x=.slice none 0 0:=k1
        have hx:(rSl (zHO:GR Unit)).v X.O w (a.eval x) []:=by grind [uo]
        exact Xf (uw ht rfl (Cr hx))
       ·trivial
   ·split
    ·rename_i s hs hd
     rw[hd]at ht;exact Xf (Nq ht (Kb k1 hs))
    ·trivial
def zHD(M:MS)(φ:AV)(j:TI)(n:Option (IntKind×Int)):VR:=match uN M φ,n with
 |some p,some n=>match Nat.beq p.2.2.1.sz j.sz with
  |true=>.par .nil ((sub p.2.2.2 n.2 (zD p.2.2.2)).bind fun _=>Comp.pure ()) fun _=>.sx p.1 n.2.toNat j.sz
  |false=>.no
 |_,_=>.no
def zHE(M:MS)(φ:AV)(j:TI)(n:Option (IntKind×Int)):VR:=match uN M φ,n with
 |some p,some n=>match Nat.beq p.2.2.1.sz j.sz with
  |true=>.par .nil ((sub p.2.2.2 0 n.2).bind fun _=>Comp.pure ()) fun _=>.px p.1 n.2.toNat
  |false=>.no
 |_,_=>.no
def EO(T:TE)(M:MS)(Y:TypeId)(rd:Operand->Option AV):Option AV->Option Operand->Option Operand->VR
 |some φ,l,h=>match look T Y with
  |none=>.no
  |some i=>match slD i.dd with
   |some e=>match look T e,Hf M φ with
    |some j,some p=>match Nat.beq p.1.sz j.sz with
     |true=>match l,h with
      |none,some h=>match (rd h).bind AV.int? with
       |some n=>.par (.sl p.1) (sub p.2 0 n.2) (.rd (.sl p.1))
       |none=>.no
      |some l,none=>match (rd l).bind AV.int? with
       |some n=>.par (.sl p.1) (sub p.2 n.2 (zD p.2)) (.rd (.sl p.1))
       |none=>.no
      |some l,some h=>match (rd l).bind AV.int?,(rd h).bind AV.int? with
       |some m,some n=>.par (.sl p.1) (sub p.2 m.2 n.2) (.rd (.sl p.1))
       |_,_=>.no
      |none,none=>.no
     |false=>.no
    |some j,none=>match l,h with
     |some l,none=>zHD M φ j ((rd l).bind AV.int?)
     |none,some h=>zHE M φ j ((rd h).bind AV.int?)
     |_,_=>.no
    |_,_=>.no
   |none=>match φ.D3,i.dd with
    |some s,.string=>match l,h with
     |none,some h=>match (rd h).bind AV.int? with
      |some n=>.par .str (sub s 0 n.2) (.rd .str)
      |none=>.no
     |some l,none=>match (rd l).bind AV.int? with
      |some n=>.par .str (sub s n.2 (zD s)) (.rd .str)
      |none=>.no
     |some l,some h=>match (rd l).bind AV.int?,(rd h).bind AV.int? with
      |some m,some n=>.par .str (sub s m.2 n.2) (.rd .str)
      |_,_=>.no
     |none,none=>.no
    |_,_=>.no
 |none,_,_=>.no
theorem vM{rd:Operand->Option AV}{l:Array Operand}(H:ZY X w a rd l){x:Operand}(hx:x∈l){p:IntKind×Int}(h:(rd x).bind AV.int?=some p):a.eval x=.int p.1 p.2:=by
 cases h1:rd x with
 |none=>grind
 |some φ=>rw[h1]at h;exact ZL (H x φ hx h1) h
theorem IQ{TT:TE}(hT:TOk X.P TT){M:MS}(hM:yE M X w){rd:Operand->Option AV}{x:Operand}{l h:Option Operand}(H:ZY X w a rd (Op.operands (.slice Y x l h none))):VOk X w a ⟨d,.slice Y x l h none,T,pos,aft,g⟩ (EO TT M Y rd (rd x) l h):=by
 cases h1:rd x with
 |none=>trivial
 |some φ =>
  have k1:=H x φ (by simp[Op.operands]) h1
  simp only[EO];split
  ·trivial
  ·rename_i i hi
   have ht:=(hT Y i hi).ty;split
   ·rename_i e he
    rw[ZU he]at ht;split
    ·rename_i j p hj hp
     have hj':=(hT e j hj).ty;have hv:=qm hM k1 hp
     split
     ·rename_i hs
      have hs':(p.1.gr X.P).sz=j.sz:=by grind [Ty.yr,zLY]
      cases l<;>cases h<;>simp only<;>try trivial
      ·split
       ·rename_i n hn
        intro nf y hy;exact Ae ht hj' hs' rfl hv (vM H (by simp[Op.operands]) hn) hy
       ·trivial
      ·split
       ·rename_i n hn
        intro nf y hy;exact Ad ht hj' hs' rfl hv (vM H (by simp[Op.operands]) hn) hy
       ·trivial
      ·split
       ·rename_i m n hm hn
        intro nf y hy;exact p6 ht hj' hs' rfl hv (vM H (by simp[Op.operands]) hm) (vM H (by simp[Op.operands]) hn) hy
       ·trivial
     ·trivial
    ·rename_i j hj c6
     have hj':=(hT e j hj).ty;split
     ·rename_i l0
      unfold zHD;split
      ·rename_i p n hp hn
       split
       ·rename_i hs
        have hs':(p.2.2.1.gr X.P).sz=j.sz:=by grind [Ty.yr,zLY]
        obtain⟨⟨nw,f1⟩,f2,f3⟩:=Jl hM k1 hp;intro nf y hy;obtain⟨ys,bM,_⟩:=run_bind hy;refine yR (Ac ht hj' hs' rfl f1.W5 (vM H (by simp[Op.operands]) hn) bM) fun w' v hE hv=>⟨?_,f3⟩
        rw[show v=_ from hv,<-f2]
       ·trivial
      ·trivial
     ·rename_i h0
      unfold zHE;split
      ·rename_i p n hp hn
       split
       ·rename_i hs
        have hs':(p.2.2.1.gr X.P).sz=j.sz:=by grind [Ty.yr,zLY]
        obtain⟨⟨nw,f1⟩,f2,f3⟩:=Jl hM k1 hp;intro nf y hy;obtain⟨ys,bM,_⟩:=run_bind hy;have hr:=jh bM
        obtain⟨vs,g1,g2,_⟩:=f1;obtain⟨ad,cap,g3,_⟩:=g1.slv;have fA:=g2.len
        have dW:ys.length=n.2.toNat:=by
         grind
        refine yR (Y4 ht hj' hs' rfl (zo.W5 ⟨vs,g1,g2,‹_›⟩) (vM H (by simp[Op.operands]) hn) bM) fun w' v hE hv=>⟨⟨?_,ad,_,cap,by rw[<-f2];exact g3,by omega⟩,f3⟩
        rw[show v=_ from hv,<-f2,dW]
       ·trivial
      ·trivial
     ·trivial
    ·trivial
   ·split
    ·rename_i s hs hd
     rw[hd]at ht;have hv:=Kb k1 hs
     cases l<;>cases h<;>simp only<;>try trivial
     ·split
      ·rename_i n hn
       intro nf y hy;exact Wz (p8 ht hv (vM H (by simp[Op.operands]) hn) hy)
      ·trivial
     ·split
      ·rename_i n hn
       intro nf y hy;exact Wz (p7 ht hv (vM H (by simp[Op.operands]) hn) hy)
      ·trivial
     ·split
      ·rename_i m n hm hn
       intro nf y hy;exact Wz (rP ht hv (vM H (by simp[Op.operands]) hm) (vM H (by simp[Op.operands]) hn) hy)
      ·trivial
    ·trivial
end ops
def zAC(r:GR α)(x:α):GR Unit:=⟨r.agg,r.sz,fun O w cs _=>r.rel O w cs x,fun h=>r.len h,fun h=>r.one h,fun hk h=>r.mono hk h⟩
section ops
variable {X:Cx} {w:World} {a:Act} {o:Oper} {d:Option Tmp} {T Y Z:TypeId} {pos:String} {aft:Array Edge} {g:Option (Nat×Bool)}
theorem qU{b:Nat}{cs:Array Value}{T':TypeId}{off:Nat}{c1 c2 c3:List Value}{ag:Bool}(hO:Own w b cs T')(e1:cs.toList=c1++(c2++c3))(e2:c1.length=off)(h1:ag=false->c2.length=1)(ho:∀c∈c2,c.oneCell'=true) :
  Y9 w (.pointer (some ⟨b,off,none⟩)) (yD ag c2):=by
 refine⟨b,off,rfl,fun j hj=>?_⟩
 rw[j6 h1 ho]at hj |-;rw[hO.cell,<-Array.getElem?_toList,e1];grind
def Ua(M:MS)(k:Nat):Option AV:=match look M k with
 |some (_,.bx _ c _)=>some c
 |_=>none
theorem E9{M:MS}(hM:yE M X w){k:Nat}{c:AV}(h:Ua M k=some c):∃T' nw b cs,X.U k=.pointer (some ⟨b,0,none⟩)/\OwnB (X.ι k) (X.B nw) X.O w b cs T'/\(c.sem X w).c cs.toList:=by
 unfold Ua at h;split at h
 ·rename_i st nw c' T' hk
  cases h
  obtain⟨b,cs,h1,h2,h3,_⟩:=hM k _ hk;grind
 ·cases h
def W0(t:Ty)(i:TI):Bool:=lp t.agg (vN i.dd) && Nat.beq t.sz i.sz
theorem Gx{t:Ty}{i:TI}(h:W0 t i=true)(P:Program):vN i.dd=(t.gr P).agg/\(t.gr P).sz=i.sz:=by
 unfold W0 at h;rw[zLZ]at h;grind [Ty.jI,Xy,Ty.yr,zLY]
def D4(M:MS):AV->Option ((t:Ty)×t.D)
 |.pt t x=>some ⟨t,x⟩
 |.pq t x=>some ⟨t,x⟩
 |.rd (.box t) x=>some ⟨t,x⟩
 |.bx k off=>match off with
  |0=>match look M k with
   |some (_,.fb t x)=>some ⟨t,x⟩
   |_=>none
  |_=>none
 |_=>none
theorem Q2{M:MS}(hM:yE M X w){φ:AV}{u:Value}(hu:φ.holds X w u){p:(t:Ty)×t.D}(h:D4 M φ=some p):∃v,Y9 w u v/\(p.1.gr X.P).v X.O w v p.2:=by
 unfold D4 at h;split at h
 ·cases h;exact hu.1.ptr
 ·cases h;exact hu
 ·cases h;exact tX (Ty.fits _ _) hu
 ·split at h
  ·split at h
   ·rename_i k _ _ st t x hk
    cases h
    have:=hM k _ hk;obtain⟨_,b,h1,h2⟩:=hu;rw[h2,<-h1];exact tX (Ty.fits _ _) this
   ·cases h
  ·cases h
 ·cases h
def ptZ(M:MS):AV->Option ((t:Ty)×t.D)
 |.pq t x=>none
 |φ=>D4 M φ
theorem zFd{M:MS}(hM:yE M X w){φ:AV}{u:Value}(hu:φ.holds X w u){p:(t:Ty)×t.D}(h:ptZ M φ=some p):lq (p.1.gr X.P) X.O w u p.2:=by
 have h':D4 M φ=some p:=by
  unfold ptZ at h;grind
 have hq:∀t x,φ≠.pq t x:=fun t x e=>by subst e;cases h
 unfold D4 at h';split at h'
 ·cases h';exact hu.1
 ·grind
 ·cases h';exact wk (Ty.fits _ _) hu
 ·split at h'
  ·split at h'
   ·rename_i k _ _ st t x hk
    cases h'
    have:=hM k _ hk;obtain⟨_,b,h1,h2⟩:=hu;rw[h2,<-h1];exact wk (Ty.fits _ _) this
   ·cases h'
  ·cases h'
 ·cases h'
def SN(T:TE)(M:MS)(Y:TypeId):Option AV->VR
 |some φ=>match look T Y with
  |none=>.no
  |some i=>match D4 M φ with
   |some p=>match W0 p.1 i with
    |true=>.tot (.rd p.1 p.2)
    |false=>.no
   |none=>match φ with
    |.bx k off=>match Ua M k with
     |some c=>match c.at_ i.sz (vN i.dd) true off with
      |some ψ=>.tot ψ
      |none=>.no
     |none=>.no
    |_=>.no
 |none=>.no
theorem Mv{TT:TE}(hT:TOk X.P TT){M:MS}(hM:yE M X w){rd:Operand->Option AV}{x:Operand}(H:ZY X w a rd (Op.operands (.load Y x))):VOk X w a ⟨d,.load Y x,T,pos,aft,g⟩ (SN TT M Y (rd x)):=by
 cases h1:rd x with
 |none=>trivial
 |some φ =>
  have k1:=H x φ (by simp[Op.operands]) h1
  simp only[SN];split
  ·trivial
  ·rename_i i hi
   have ht:=(hT Y i hi).ty;split
   ·rename_i p hp
    split
    ·rename_i ho
     obtain⟨e1,e2⟩:=Gx ho X.P;exact zBd (Ty.fits _ _) ht e1 e2 rfl (Q2 hM k1 hp)
    ·trivial
   ·split
    ·rename_i k off hp0
     split
     ·rename_i c hc
      split
      ·rename_i ψ hψ
       obtain⟨T',nw,b,cs,e1,e2,e3⟩:=E9 hM hc;obtain⟨c1,c2,c3,f1,f2,f3,f4,f5,f6⟩:=(AV.IF c hψ e3).h;obtain⟨_,b',e4,e5⟩:=k1;rw[e1]at e4;cases e4
       cases sX:vN i.dd with
       |true =>
        rw[sX]at f6;exact yR (Af ht sX e5 e2.own f1 f2 f3) fun w' v hE hv=>by rw[show v=_ from hv];exact ψ.ext hE f6
       |false =>
        have hl:c2.length=1:=by grind
        match c2,hl with
        | [v0],_ =>
         rw[sX]at f6;have:cs[off]?=some v0:=by
          rw[<-Array.getElem?_toList,f1,zLo (by omega)]
          grind
         exact yR (Dq ht sX e5 e2.own this) fun w' v hE hv=>by rw[show v=_ from hv];exact ψ.ext hE f6
      ·trivial
     ·trivial
    ·trivial
 /-! fields -/
def zAK:AV->Option ((t:Ty)×t.D)
 |.rd t x=>some ⟨t,x⟩
 |_=>none
theorem Wd{φ:AV}{p:(t:Ty)×t.D}(h:zAK φ=some p):φ=.rd p.1 p.2:=by
 unfold zAK at h;grind
def zEc(T:TE)(M:MS)(Y:TypeId)(f:Nat):Option AV->VR
 |some φ=>match look T Y with
  |none=>.no
  |some i=>match i.fl[f]? with
   |none=>.no
   |some e=>match look T e.1 with
    |none=>.no
    |some j=>match D4 M φ with
     |some p=>match (atT (e.2.2+1) (vN j.dd) p.1 p.2 true e.2.1).bind zAK,p.1.agg with
      |some q,true=>match ptZ M φ with
       |some _=>.tot (.pt q.1 q.2)
       |none=>.tot (.pq q.1 q.2)
      |_,_=>.no
     |none=>match φ with
      |.bx k off=>.tot (.bx k (off+e.2.1))
      |.ba k off sz m esz off2=>.tot (.ba k off sz m esz (off2+e.2.1))
      |.el k m esz off2=>.tot (.el k m esz (off2+e.2.1))
      |_=>.no
 |none=>.no
theorem zBO{t:Ty}{x:t.D}{off sz:Nat}{ag:Bool}{q:(t:Ty)×t.D}(h:(atT sz ag t x true off).bind zAK=some q) :
  q.1.sz=sz/\q.1.agg=ag/\∀ {O w cs},(t.gr X.P).rel O w cs x->∃c1 c2 c3,cs=c1++(c2++c3)/\c1.length=off/\(q.1.gr X.P).rel O w c2 q.2:=by
 cases h1:atT sz ag t x true off with
 |none=>grind
 |some φ =>
  rw[h1]at h;have e:=Wd h
  obtain⟨t',x',e1,e2,e3,e4⟩:=SC (P:=X.P) h1;grind
theorem zBa{M:MS}{φ:AV}{p q:(t:Ty)×t.D}(h:D4 M φ=some p)(h2:ptZ M φ=some q):q=p:=by
 unfold ptZ at h2;grind
theorem Uq{TT:TE}(hT:TOk X.P TT){M:MS}(hM:yE M X w){rd:Operand->Option AV}{x:Operand}{f:Nat}(H:ZY X w a rd (Op.operands (.fieldAddr Y x f))):VOk X w a ⟨d,.fieldAddr Y x f,T,pos,aft,g⟩ (zEc TT M Y f (rd x)):=by
 cases h1:rd x with
 |none=>trivial
 |some φ =>
  have k1:=H x φ (by simp[Op.operands]) h1
  simp only[zEc];split
  ·trivial
  ·rename_i i hi
   split
   ·trivial
   ·rename_i e he
    have hF:=(hT Y i hi).fl f e he;split
    ·trivial
    ·rename_i j hj
     split
     ·rename_i p hp
      split
      ·rename_i q hq sX
       obtain⟨e1,e2,e3⟩:=zBO (X:=X) hq;have hs:0<(q.1.gr X.P).sz:=by grind [Ty.yr]
       have oO:(p.1.gr X.P).agg=true:=by grind [Ty.jI]
       split
       ·rename_i p' hp'
        have:=zBa hp hp';subst this;have hz:=zFd hM k1 hp'
        refine yR (Ns (S:=zAC (p'.1.gr X.P) p'.2) (r:=zAC (q.1.gr X.P) q.2) (p:=fun u=>u) (y:=()) oO hs (Ty.fits X.P q.1) (fun {O w cs u} h=>e3 h) hF rfl hz) fun w' v hE hv=>?_
        exact⟨hv,by omega⟩
       ·have hz:=Q2 hM k1 hp
        exact VX (S:=zAC (p.1.gr X.P) p.2) (r:=zAC (q.1.gr X.P) q.2) (p:=fun u=>u) (y:=()) oO (Ty.fits X.P q.1) (fun {O w cs u} h=>e3 h) hF rfl hz
      ·trivial
     ·split
      ·rename_i k off
       obtain⟨h2,b,h3,h4⟩:=k1;exact yR (ZI hF h4) fun w' v hE hv=>⟨h2,b,h3,hv⟩
      ·rename_i k off sz m esz off2
       obtain⟨h2,h3,h4,b,h5,h6⟩:=k1;exact yR (ZI hF h6) fun w' v hE hv=>⟨h2,h3,h4,b,h5,by rw[show v=_ from hv,Nat.add_assoc]⟩
      ·rename_i k m esz off2
       obtain⟨h2,h3,h4,b,h5,h6⟩:=k1;exact yR (ZI hF h6) fun w' v hE hv=>⟨h2,h3,h4,b,h5,by rw[show v=_ from hv,Nat.add_assoc]⟩
      ·trivial
end ops
def Ty.closed:Ty->Bool
 |.int _|.bool|.str|.nil=>true
 |.cons a b=>a.closed && b.closed
 |.arr _ e=>e.closed
 |_=>false
theorem Xk{P:Program}:∀ {t:Ty},t.closed=true->∀ {O O' w w' cs} {x:t.D},(t.gr P).rel O w cs x->(t.gr P).rel O' w' cs x
 |.int _,_,_,_,_,_,_,_,h=>h
 |.bool,_,_,_,_,_,_,_,h=>h
 |.str,_,_,_,_,_,_,_,h=>h
 |.nil,_,_,_,_,_,_,_,h=>h
 |.cons a b,hc,O,O',w,w',cs,x,⟨c1,c2,h,h1,h2⟩=>by
  simp only[Ty.closed,zLZ]at hc;exact⟨c1,c2,h,Xk hc.1 h1,Xk hc.2 h2⟩
 |.arr n e,hc,O,O',w,w',cs,x,⟨h1,h2⟩=>by
  refine⟨h1,?_⟩;have:∀ {xs:List e.D} {cs},jf (e.gr P) O w cs xs->jf (e.gr P) O' w' cs xs:=by
   intro xs
   induction xs with
   |nil=>intro cs h;exact h
   |cons y ys ih=>intro cs ⟨c1,c2,h,h1,h2⟩;exact⟨c1,c2,h,Xk (t:=e) hc h1,ih h2⟩
  grind
theorem Xa{P:Program}{t:Ty}(hc:t.closed=true){O O' w w' u}{x:t.D}(h:(t.gr P).v O w u x):(t.gr P).v O' w' u x:=by
 obtain⟨cs,h1,h2⟩:=h;exact⟨cs,Xk hc h1,h2⟩
def inb(n:Nat)(m:Int):Comp Unit:=if 0<=m/\m<n then Comp.pure () else Comp.fail
theorem Gb{n:Nat}{m:Int}{k:Nat}{u:Unit}(h:(inb n m).run k=some u):0<=m/\m<n:=by
 unfold inb at h;split at h
 ·assumption
 ·cases h
theorem jf.split{r:GR α}{O w}:∀ {xs:List α} {cs},jf r O w cs xs->∀(i:Nat) (y:α),xs[i]?=some y->∃c1 c2 c3,cs=c1++(c2++c3)/\c1.length=i * r.sz/\c2.length=r.sz/\r.rel O w c2 y/\∀z d2,r.rel O w d2 z->jf r O w (c1++(d2++c3)) (xs.set i z)
 | [],cs,_,i,y,h=>by simp at h
 |x::xs,cs,⟨c1,c2,h1,h2,h3⟩,0,y,h=>by
  simp at h;subst h;exact⟨[],c1,c2,by grind,by simp,r.len h2,h2,fun z d2 hz=>⟨d2,c2,by simp,hz,h3⟩⟩
 |x::xs,cs,⟨c1,c2,h1,h2,h3⟩,i+1,y,h=>by
  simp at h;obtain⟨d1,d2,d3,e1,e2,e3,e4,e5⟩:=jf.split h3 i y h;refine⟨c1++d1,d2,d3,by grind,by rw[zLa,r.len h2,e2,Nat.add_mul];omega,e3,e4,fun z f2 hz=>?_⟩
  exact⟨c1,_,by grind,h2,e5 z f2 hz⟩
section ops
variable {X:Cx} {w:World} {a:Act} {o:Oper} {d:Option Tmp} {T Y Z:TypeId} {pos:String} {aft:Array Edge} {g:Option (Nat×Bool)}
def zFI:AV->Option (Nat×(t:Ty)×List t.D)
 |.rd (.arr n t) xs=>some (n,⟨t,xs⟩)
 |_=>none
theorem Ha{φ:AV}{p:Nat×(t:Ty)×List t.D}(h:zFI φ=some p):φ=.rd (.arr p.1 p.2.1) p.2.2:=by
 unfold zFI at h;grind
def Hn(G:FE)(M:MS)(n:Nat)(t:Ty)(φ:AV):Option (Nat×(t:Ty)×List t.D):=match zFI φ with
 |some q=>some q
 |none=>match (φ.asv G M).1 (.arr n t) with
  |some xs=>some (n,⟨t,(xs:List t.D)⟩)
  |none=>none
theorem SG{G:FE}(hG:FOk X.P G){M:MS}(hM:yE M X w){n:Nat}{t:Ty}{φ:AV}{p:Nat×(t:Ty)×List t.D}(h:Hn G M n t φ=some p){cs:List Value}(hc:(φ.sem X w).c cs):p.2.2.length=p.1/\jf (p.2.1.gr X.P) X.O w cs p.2.2:=by
 unfold Hn at h;split at h
 ·rename_i q hq;cases h
  rw[Ha hq]at hc;exact hc
 ·split at h
  ·rename_i xs hx;cases h
   exact(AV.jR hG φ hM).vc hx hc
  ·cases h
theorem zET{G:FE}(hG:FOk X.P G){M:MS}(hM:yE M X w){n:Nat}{t:Ty}{φ:AV}{p:Nat×(t:Ty)×List t.D}(h:Hn G M n t φ=some p){u:Value}(hu:φ.holds X w u):∃cs,(p.2.2.length=p.1/\jf (p.2.1.gr X.P) X.O w cs p.2.2)/\u=.agg cs.toArray:=by
 unfold Hn at h;split at h
 ·rename_i q hq;cases h
  rw[Ha hq]at hu;obtain⟨cs,h1,h2⟩:=hu;exact⟨cs,h1,h2⟩
 ·split at h
  ·rename_i xs hx;cases h
   obtain⟨cs,h1,h2⟩:=(AV.jR hG φ hM).v hx hu;exact⟨cs,h1,h2⟩
  ·cases h
def zEa(T:TE)(G:FE)(M:MS)(wr:Bool)(Y:TypeId):Option AV->Option (IntKind×Int)->VR
 |some φ,some m=>match look T Y with
  |none=>.no
  |some i=>match slD i.dd with
   |some e=>match look T e with
    |none=>.no
    |some j=>match Hf M φ with
     |some p=>match Nat.beq p.1.sz j.sz && Nat.blt 0 p.1.sz with
      |true=>.par p.1 (idx p.2 m.2) (.pt p.1)
      |false=>.no
     |none=>match uN M φ with
      |some p=>match Nat.beq p.2.2.1.sz j.sz && Nat.beq p.2.1 e with
       |true=>match wr with
        |false=>.par p.2.2.1 (idx p.2.2.2 m.2) (.pq p.2.2.1)
        |true=>.par .nil (inb p.2.2.2.length m.2) fun _=>.el p.1 m.2 j.sz 0
       |false=>.no
      |none=>match qj M φ,wr with
       |some p,false=>match Nat.beq p.2.1.sz j.sz with
        |true=>.par p.2.1 (idx p.2.2 m.2) (.pq p.2.1)
        |false=>.no
       |_,_=>.no
   |none=>match arD i.dd with
    |none=>.no
    |some ne=>match look T ne.2 with
     |none=>.no
     |some j=>match Nat.beq i.sz (ne.1 * j.sz) with
      |false=>.no
      |true=>match φ with
       |.bx k off=>match Ua M k with
        |none=>.no
        |some c=>match (c.at_ i.sz true true off).bind (Hn G M ne.1 j.τ) with
         |none=>.no
         |some q=>match Nat.beq q.2.1.sz j.sz && Nat.beq q.1 ne.1 with
          |false=>.no
          |true=>match wr with
           |false=>.par q.2.1 (idx q.2.2 m.2) (.pq q.2.1)
           |true=>.par .nil (inb ne.1 m.2) fun _=>.ba k off i.sz m.2 j.sz 0
       |.rd (.box (.arr n t)) xs=>match Nat.beq t.sz j.sz && Nat.beq n ne.1,wr with
        |true,false=>.par t (idx (xs:List t.D) m.2) (.pq t)
        |_,_=>.no
       |_=>.no
 |_,_=>.no
theorem Un{TT:TE}(hT:TOk X.P TT){G:FE}(hG:FOk X.P G){M:MS}(hM:yE M X w){rd:Operand->Option AV}{x y:Operand}{wr:Bool}(H:ZY X w a rd (Op.operands (.indexAddr Y x y))):VOk X w a ⟨d,.indexAddr Y x y,T,pos,aft,g⟩ (zEa TT G M wr Y (rd x) ((rd y).bind AV.int?)):=by
 cases h1:rd x with
 |none=>trivial
 |some φ =>
  cases h2:(rd y).bind AV.int? with
  |none=>trivial
  |some m =>
   have k1:=H x φ (by simp[Op.operands]) h1
   have k2:=vM H (by simp[Op.operands]) h2
   simp only[zEa];split
   ·trivial
   ·rename_i i hi
    have ht:=(hT Y i hi).ty;split
    ·rename_i e he
     rw[ZU he]at ht;split
     ·trivial
     ·rename_i j hj
      have hj':=(hT e j hj).ty;split
      ·rename_i p hp
       split
       ·rename_i hs
        rw[zLZ]at hs;have aW:(p.1.gr X.P).sz=j.sz:=by grind [Ty.yr,zLY]
        have aN:0<p.1.sz:=by grind [za]
        intro nf y' hy;exact yR (Nr (by simp_all) (Ty.fits _ _) ht hj' aW rfl (qm hM k1 hp) k2 hy) fun w' v hE hv=>⟨hv,aN⟩
       ·trivial
      ·split
       ·rename_i p hp
        split
        ·rename_i hs
         rw[zLZ]at hs;have aW:(p.2.2.1.gr X.P).sz=j.sz:=by grind [Ty.yr,zLY]
         have iA:p.2.1=e:=zLY hs.2;obtain⟨⟨nw,f1⟩,f2,f3⟩:=Jl hM k1 hp
         cases wr with
         |false =>
          intro nf y' hy;exact Gw (r:=p.2.2.1.gr X.P) ht hj' aW rfl f1.rd k2 hy
         |true =>
          intro nf y' hy;have hm:=Gb hy
          rw[iA]at f1;refine yR (Dl aW ht hj' rfl f1 k2 hm) fun w' v hE hv=>?_
          refine⟨f3,hm.1,?_,by rw[<-f2];exact hv⟩
          obtain⟨vs,g1,g2,_⟩:=f1;obtain⟨ad,cap,g3,_⟩:=g1.slv;refine⟨ad,vs.length,cap,by grind,?_⟩
          rw[g2.len];omega
        ·trivial
       ·split
        ·rename_i p hp
         split
         ·rename_i hs
          have aW:(p.2.1.gr X.P).sz=j.sz:=by grind [Ty.yr,zLY]
          intro nf y' hy;exact Gw (r:=p.2.1.gr X.P) ht hj' aW rfl (qL hM k1 hp) k2 hy
         ·trivial
        ·trivial
    ·split
     ·trivial
     ·rename_i ne fD
      rw[GB fD]at ht;split
      ·trivial
      ·rename_i j hj
       have hj':=(hT ne.2 j hj).ty;split
       ·trivial
       ·rename_i pV
        have pV:=zLY pV;split
        ·rename_i k off
         split
         ·trivial
         ·rename_i c hc
          split
          ·trivial
          ·rename_i q hq
           split
           ·trivial
           ·rename_i hb
            rw[zLZ]at hb;have tC:=zLY hb.1
            have aF:=zLY hb.2;obtain⟨T',nw,b,cs,e1,e2,e3⟩:=E9 hM hc;obtain⟨h3,b',e4,e5⟩:=k1;rw[e1]at e4;cases e4
            cases b7:c.at_ i.sz true true off with
            |none=>grind
            |some ψ =>
             rw[b7]at hq;obtain⟨c1,c2,c3,f1,f2,f3,f4,f5,f6⟩:=(AV.IF c b7 e3).h;obtain⟨l1,l2⟩:=SG hG hM hq f4
             cases wr with
             |false =>
              intro nf y' hy;obtain⟨m0,m1⟩:=Jm hy;obtain⟨d1,d2,d3,g1,g2,g3,g4,_⟩:=jf.split l2 _ _ m1;have gF:=(zLf.1 m1).1
              have hz:(q.2.1.gr X.P).sz=j.sz:=by rw[Ty.yr,tC]
              refine yR (JG ht hj' e5 k2 m0 (by omega)) fun w' v hE hv=>?_
              rw[show v=_ from hv]
              have xG:cs.toList=(c1++d1)++(d2++(d3++c3)):=by grind
              refine⟨yD (q.2.1.gr X.P).agg d2,?_,GR.KD _ ⟨d2,g4,rfl⟩ hE⟩;refine Y9.ext (qU e2.own xG ?_ (fun sX=>?_) ((q.2.1.gr X.P).one g4)) hE
              ·grind
              ·rw[g3];exact Ty.fits X.P q.2.1 sX
             |true =>
              intro nf y' hy;have hm:=Gb hy
              refine yR (JG ht hj' e5 k2 hm.1 hm.2) fun w' v hE hv=>⟨h3,hm.1,?_,b,e1,hv⟩
              rw[pV];have:m.2.toNat+1<=ne.1:=by omega
              calc m.2.toNat * j.sz+j.sz=(m.2.toNat+1) * j.sz:=by grind
               _<=ne.1 * j.sz:=Nat.mul_le_mul_right _ this
        ·rename_i n t xs
         split
         ·rename_i hb
          rw[zLZ]at hb;have tC:=zLY hb.1
          have aF:=zLY hb.2;obtain⟨cs0,⟨b,cs,T',e1,e2,_,l1,l2⟩,e3⟩:=k1;rw[e1]at e3;have e5:a.eval x=.pointer (some ⟨b,0,none⟩):=e3
          intro nf y' hy;obtain⟨m0,m1⟩:=Jm hy;obtain⟨d1,d2,d3,g1,g2,g3,g4,_⟩:=jf.split l2 _ _ m1;have gF:=(zLf.1 m1).1
          have hz:(t.gr X.P).sz=j.sz:=by rw[Ty.yr,tC]
          refine yR (JG ht hj' e5 k2 m0 (by omega)) fun w' v hE hv=>?_
          rw[show v=_ from hv]
          refine⟨yD (t.gr X.P).agg d2,?_,GR.KD _ ⟨d2,g4,rfl⟩ hE⟩;refine Y9.ext (qU e2 (c1:=d1) (c3:=d3) (by rw[<-g1]) ?_ (fun sX=>?_) ((t.gr X.P).one g4)) hE
          ·grind
          ·rw[g3];exact Ty.fits X.P t sX
         ·trivial
        ·trivial
def EP(T:TE)(G:FE)(M:MS)(Y:TypeId):Option AV->Option (IntKind×Int)->VR
 |some φ,some m=>match look T Y with
  |none=>.no
  |some i=>match arD i.dd with
   |some ne=>match look T ne.2 with
    |none=>.no
    |some j=>match Hn G M ne.1 j.τ φ with
    |none=>.no
    |some q=>match Nat.beq q.1 ne.1 && W0 q.2.1 j with
     |true=>.par q.2.1 (idx q.2.2 m.2) (.rd q.2.1)
     |false=>.no
   |none=>match φ.D3,i.dd with
    |some s,.string=>.par (.int .u8) (Qs s m.2) (.rd (.int .u8))
    |_,_=>.no
 |_,_=>.no
theorem IU{TT:TE}(hT:TOk X.P TT){G:FE}(hG:FOk X.P G){M:MS}(hM:yE M X w){rd:Operand->Option AV}{x y:Operand}(H:ZY X w a rd (Op.operands (.index Y x y))):VOk X w a ⟨d,.index Y x y,T,pos,aft,g⟩ (EP TT G M Y (rd x) ((rd y).bind AV.int?)):=by
 cases h1:rd x with
 |none=>trivial
 |some φ =>
  cases h2:(rd y).bind AV.int? with
  |none=>trivial
  |some m =>
   have k1:=H x φ (by simp[Op.operands]) h1
   have k2:=vM H (by simp[Op.operands]) h2
   simp only[EP];split
   ·trivial
   ·rename_i i hi
    have ht:=(hT Y i hi).ty;split
    ·rename_i ne fD
     rw[GB fD]at ht;split
     ·trivial
     rename_i j hj;split
     ·trivial
     ·rename_i q hq
      have hj':=(hT ne.2 j hj).ty;split
      ·rename_i hb
       rw[zLZ]at hb;have tC:=zLY hb.1
       obtain⟨sX,pV⟩:=Gx hb.2 X.P;obtain⟨cs,⟨l1,l2⟩,l3⟩:=zET hG hM hq k1;intro nf y' hy;obtain⟨m0,m1⟩:=Jm hy;obtain⟨d1,d2,d3,g1,g2,g3,g4,_⟩:=jf.split l2 _ _ m1;have gF:=(zLf.1 m1).1
       have hm:m.2<ne.1:=by omega
       have e3:a.eval x=.agg cs.toArray:=l3;have oP:(part ne.2 cs.toArray (m.2.toNat * j.sz)).run X.P w=.ok (yD (q.2.1.gr X.P).agg d2) w:=by
        rw[pV]at g2 g3;simp only[part,Sem.run_bind,hj'.YU,Result.andThen,hj'.zy];rw[sX]
        cases hg:(q.2.1.gr X.P).agg with
        |true =>
         simp only[if_true,yD,Sem.run_bind,hj'.zy,Result.andThen,Sem.run_pure];grind
        |false =>
         have h1:=Ty.fits X.P q.2.1 hg;rw[pV]at h1;have hl:d2.length=1:=by omega
         match d2,hl with
         | [v0],_ =>
          simp_all [yD]
       refine vC (v:=yD (q.2.1.gr X.P).agg d2) (w':=w) ?_ (Ext.refl w) ⟨d2,g4,rfl⟩;simp[execOp,Instr.index,asIntOf,k2,e3,ht.gf,hj'.zy,m0,hm,oP]
      ·trivial
    ·split
     ·rename_i s hs hd
      rw[hd]at ht;intro nf y' hy;exact Xf (Dk ht (Kb k1 hs) k2 hy)
     ·trivial
def zEj:(r:Ty)->r.D->AV
 |.cons a b,y=>.pr (.rd a y.1) (zEj b y.2)
 |_,_=>.un
def Cn:(r:Ty)->r.D->AV
 |.nil,_=>.top
 |.cons a .nil,y=>.rd a y.1
 |r,y=>.tp (zEj r y)
theorem zBW{r:Ty}{vs:List Value}{y:r.D}(h:r.args X.P X.O w vs y):((zEj r y).sem X w).l vs:=by
 induction r generalizing vs with
 |cons a b iha ihb =>
  obtain⟨v,vs',h1,h2,h3⟩:=h;exact⟨v,vs',h1,h2,ihb h3⟩
 |nil=>exact h
 |_=>exact h.elim
theorem uh{r:Ty}{vs:List Value}{v:Value}{y:r.D}(h:r.args X.P X.O w vs y)(ht:kh vs v):(Cn r y).holds X w v:=by
 cases r with
 |nil=>trivial
 |cons a b =>
  obtain⟨v1,aZ,h1,h2,h3⟩:=h;subst h1;have ht:v=tup (v1::aZ):=by
   rcases ht with e|e
   ·cases e
   ·exact e
  cases b with
  |nil =>
   rw[show aZ=[] from h3]at ht
   rw[ht];exact h2
  |cons c e =>
   obtain⟨v2,oQ,h4,h5,h6⟩:=h3;subst h4;refine⟨v1::v2::oQ,⟨v1,_,rfl,h2,v2,oQ,rfl,h5,zBW h6⟩,ht⟩
  |_=>exact h3.elim
 |_=>exact h.elim
def Xs:List ((t:Ty)->Option t.D)->(ps:Ty)->Option ps.D
 | [],.nil=>some ()
 |f::fs,.cons p q=>match f p,Xs fs q with
  |some x,some y=>some (x,y)
  |_,_=>none
 |_,_=>none
theorem kg{P:Program}{O:zR}:∀ {fs:List ((t:Ty)->Option t.D)} {ps:Ty} {x:ps.D},Xs fs ps=some x->∀ {vs:List Value},vs.length=fs.length ->
  (∀(i:Nat) (f:(t:Ty)->Option t.D) (v:Value),fs[i]?=some f->vs[i]?=some v->∀t x,f t=some x->(t.gr P).v O w v x)->ps.args P O w vs x
 | [],.nil,x,h,vs,hl,_=>List.length_eq_zero_iff.1 hl
 |f::fs,.cons p q,x,h,vs,hl,hv=>by
  simp only[Xs]at h;split at h
  ·rename_i x1 y1 h1 h2
   cases h
   match vs,hl with
   |v::vs,hl =>
    exact⟨v,vs,rfl,hv 0 f v rfl rfl _ _ h1,kg h2 (by grind) fun i f' v' hf hv'=>hv (i+1) f' v' (by grind) (by grind)⟩
  ·cases h
 | [],.int _,_,h,_,_,_ | [],.bool,_,h,_,_,_ | [],.str,_,h,_,_,_ | [],.sl _,_,h,_,_,_ | [],.cons ..,_,h,_,_,_ | [],.arr ..,_,h,_,_,_ | [],.box ..,_,h,_,_,_ | [],.fn ..,_,h,_,_,_ | [],.seq ..,_,h,_,_,_ | [],.slo ..,_,h,_,_,_ | [],.mp ..,_,h,_,_,_=>by cases h
 |_::_,.int _,_,h,_,_,_|_::_,.bool,_,h,_,_,_|_::_,.str,_,h,_,_,_|_::_,.sl _,_,h,_,_,_|_::_,.nil,_,h,_,_,_|_::_,.arr ..,_,h,_,_,_|_::_,.box ..,_,h,_,_,_|_::_,.fn ..,_,h,_,_,_|_::_,.seq ..,_,h,_,_,_|_::_,.slo ..,_,h,_,_,_|_::_,.mp ..,_,h,_,_,_=>by cases h
def jE(rd:Operand->Option AV):List Operand->Option (List AV)
 | []=>some []
 |x::xs=>match rd x,jE rd xs with
  |some φ,some l=>some (φ::l)
  |_,_=>none
theorem jV{rd:Operand->Option AV}:∀ {xs:List Operand} {l:List AV},jE rd xs=some l->l.length=xs.length
 | [],l,h=>by cases h;rfl
 |x::xs,l,h=>by
  simp only[jE]at h;split at h
  ·rename_i φ l' h1 h2;cases h;simp[jV h2]
  ·cases h
theorem Zh{rd:Operand->Option AV}:∀ {xs:List Operand} {l:List AV},jE rd xs=some l->∀(i:Nat) (φ:AV),l[i]?=some φ->∃x,xs[i]?=some x/\rd x=some φ
 | [],l,h,i,φ,hi=>by cases h;grind
 |x::xs,l,h,i,φ,hi=>by
  simp only[jE]at h;split at h
  ·rename_i ψ l' h1 h2
   cases h
   cases i with
   |zero=>grind
   |succ i=>simp at hi;simpa using Zh h2 i φ hi
  ·cases h
def rH(G:FE)(M:MS)(rs:Ty):MS:=match rs.closed with
 |true=>Sz G M
 |false=>M
def SR(G:FE)(M:MS)(rd:Operand->Option AV)(x:Operand)(xs:List Operand):VR:=match rd x,jE rd xs with
 |some φ,some l=>match φ with
  |.cl f a b=>match G f with
   |none=>.no
   |some s=>match Xs ((a.asv G (rH G M s.rs)).2.2++(l.map (fun φ=>φ.asT G (rH G M s.rs))++(b.asv G (rH G M s.rs)).2.2)) s.ps with
    |some z=>.par s.rs (s.sem z) (Cn s.rs)
    |none=>.no
  |.rd (.fn ta tr) F=>match Xs (l.map (fun φ=>φ.asT G (rH G M tr))) ta with
   |some z=>.par tr (F z) (Cn tr)
   |none=>.no
  |_=>.no
 |_,_=>.no
theorem Kd{x:Operand}{xs:Array Operand}{ts:Array TypeId}{args:Array Value}{u:Value}{φ:World->Value->Prop}(hu:a.eval x=u)(ha:xs.map a.eval=args)(h:IL X.P u args w φ) :
  Ok X.P ⟨d,.call ⟨.value x,xs,ts⟩,T,pos,aft,g⟩ a w φ:=by
 intro K Q hK;obtain⟨f,ys,h1,h2⟩:=h;have hr:(execOp a.eval ⟨d,.call ⟨.value x,xs,ts⟩,T,pos,aft,g⟩).run X.P w=.ok (.enter f ys) w:=by
  grind [execOp,resolve]
 unfold Oper.wp;rw[hr];refine Calls.mono h2 fun e w' he=>?_
 grind
theorem Kp{G:FE}(hG:FOk X.P G){M:MS}(hM:yE M X w){rd:Operand->Option AV}{xs:List Operand}{l:List AV}(hl:jE rd xs=some l)(H:∀x φ,x∈xs->rd x=some φ->φ.holds X w (a.eval x)) :
  ∀(i:Nat) (f:(t:Ty)->Option t.D) (v:Value),(l.map (fun φ=>φ.asT G M))[i]?=some f->(xs.map a.eval)[i]?=some v->∀t x,f t=some x->(t.gr X.P).v X.O w v x:=by
 grind [Zh,AV.Z7]
theorem XH{α' β':Type}{R:α'->β'->Prop}{l1 l2:List α'}{m1 m2:List β'}(hl:m1.length=l1.length)(h1:∀(i:Nat) f v,l1[i]?=some f->m1[i]?=some v->R f v)(h2:∀(i:Nat) f v,l2[i]?=some f->m2[i]?=some v->R f v) :
  ∀(i:Nat) f v,(l1++l2)[i]?=some f->(m1++m2)[i]?=some v->R f v:=by
 grind
theorem w9{P:Program}:∀ {t:Ty},t.closed=true->∀ {O O' w w' vs} {x:t.D},t.args P O w vs x->t.args P O' w' vs x
 |.cons a b,hc,O,O',w,w',vs,x,⟨v,vs',h,h1,h2⟩=>by
  simp only[Ty.closed,zLZ]at hc;exact⟨v,vs',h,Xa hc.1 h1,w9 hc.2 h2⟩
 |.nil,_,_,_,_,_,_,_,h=>h
 |.int _,_,_,_,_,_,_,_,h|.bool,_,_,_,_,_,_,_,h|.str,_,_,_,_,_,_,_,h|.sl _,_,_,_,_,_,_,_,h|.arr ..,_,_,_,_,_,_,_,h|.box ..,_,_,_,_,_,_,_,h|.fn ..,_,_,_,_,_,_,_,h|.seq ..,_,_,_,_,_,_,_,h|.slo ..,_,_,_,_,_,_,_,h|.mp ..,_,_,_,_,_,_,_,h=>h.elim
theorem Bn{G:FE}(hG:FOk X.P G){M:MS}(hM:yE M X w)(hO:OkO X.O w)(rs:Ty):∃Xl:Cx,Xl.P=X.P/\yE (rH G M rs) Xl w/\OkO Xl.O w/\X.le w Xl w/\∀ {w' vs} {y:rs.D},rs.args X.P Xl.O w' vs y->rs.args X.P X.O w' vs y:=by
 unfold rH
 cases hc:rs.closed with
 |true=>exact⟨X.lent,rfl,Bm hG hM,fun _ _=>rfl,X.le_lent w,fun h=>w9 hc h⟩
 |false=>exact⟨X,rfl,hM,hO,X.le_refl w,fun h=>h⟩
theorem AV.self{X X':Cx}{w:World}(hX:X.le w X' w)(φ:AV):(∀u,(φ.sem X w).v u->(φ.sem X' w).v u)/\(∀vs,(φ.sem X w).l vs->(φ.sem X' w).l vs)/\(∀cs,(φ.sem X w).c cs->(φ.sem X' w).c cs):=φ.mono hX fun _=>Ext.refl _
theorem My{G:FE}(hG:FOk X.P G){M:MS}(hM:yE M X w)(hO:OkO X.O w){rd:Operand->Option AV}{x:Operand}{xs:Array Operand}{ts:Array TypeId}(H:ZY X w a rd (Op.operands (.call ⟨.value x,xs,ts⟩))):VOk X w a ⟨d,.call ⟨.value x,xs,ts⟩,T,pos,aft,g⟩ (SR G M rd x xs.toList):=by
 unfold SR;split
 ·rename_i φ l h1 h2
  have k1:=H x φ (by simp[Op.operands,Call.operands]) h1
  have fA:=jV h2;have tR:(xs.map a.eval)=(xs.toList.map a.eval).toArray:=by grind
  have fB:=fun (rs:Ty) (Xl:Cx) (e1:Xl.P=X.P) (e2:yE (rH G M rs) Xl w) (e3:X.le w Xl w)=>Kp (X:=Xl) (a:=a) (by rw[e1];exact hG) e2 h2 fun y ψ hy hψ=>((AV.self e3 ψ).1 _ (H y ψ (by grind [Op.operands,Call.operands]) hψ))
  split
  ·rename_i f ca cb
   split
   ·trivial
   ·rename_i s hs
    split
    ·rename_i z hz
     intro nf y hy;obtain⟨Xl,l1,l2,l3,l4,l5⟩:=Bn hG hM hO s.rs;obtain⟨vs,us,e1,e2,e3⟩:=k1;have hGl:FOk Xl.P G:=by grind
     have A:=AV.jR hGl ca l2;have B:=AV.jR hGl cb l2
     have e1':=(AV.self l4 ca).2.1 _ e1;have e2':=(AV.self l4 cb).2.1 _ e2
     obtain⟨f1,f2⟩:=hG f s hs;refine Kd e3 tR (Xm f1 ?_);rw[Yx];have n1:=A.n e1'
     have n2:=B.n e2';have fU:s.ps.args Xl.P Xl.O w (vs++(xs.toList.map a.eval++us)) z:=kg hz (by grind) (XH (R:=fun f v=>∀t x,f t=some x->(t.gr Xl.P).v Xl.O w v x) n1 (A.e e1') (XH (by grind) (fB s.rs Xl l1 l2 l4) (B.e e2')))
     rw[l1]at fU;refine Pure.mono (f2 Xl.O w l3 _ _ fU nf y hy) fun w'' v hE hv=>?_
     obtain⟨rs,h3,h4⟩:=hv;exact uh (l5 (XT (fun b hb=>l3 b hb) h4)) h3
    ·trivial
  ·rename_i ta tr F
   split
   ·rename_i z hz
    intro nf y hy;obtain⟨Xl,l1,l2,l3,l4,l5⟩:=Bn hG hM hO tr;obtain⟨cs,⟨u,e1,e2,e3⟩,e4⟩:=k1;have hu:a.eval x=u:=by rw[e4,e1];rfl
    have fU:ta.args Xl.P Xl.O w (xs.toList.map a.eval) z:=kg hz (by grind) (fB tr Xl l1 l2 l4)
    rw[l1]at fU;refine Kd hu tR ?_;obtain⟨ff,ys,g1,g2⟩:=e3 Xl.O w l3 l4.k _ _ fU nf y hy;refine⟨ff,ys,g1,Pure.mono g2 fun w'' v hE hv=>?_⟩
    grind [uh]
   ·trivial
  ·trivial
 ·trivial
end ops
def AV.ID:AV->Bool
 |.rd .. | .pt .. | .ob _|.bx .. | .ba .. | .el .. | .cl .. | .ag _|.ex _|.em ..=>true
 |_=>false
theorem AV.v_c{X:Cx}{w:World}{φ:AV}(hc:φ.ID=true){u:Value}(h:φ.holds X w u):(φ.sem X w).c u.cells.toList:=by
 have one_case:∀ {q:Value->Prop},q u->u.oneCell'=true->(one q).c u.cells.toList:=fun hq h1=>⟨u,wO h1,h1,hq⟩
 cases φ with
 |rd t x=>exact uY h
 |pt t x =>
  refine one_case h ?_;obtain⟨⟨b,off,v,h1,_⟩,_⟩:=h;rw[h1];rfl
 |ob k=>exact one_case h h.2.2
 |bx k off=>exact one_case h (by obtain⟨_,b,_,h2⟩:=h;rw[h2];rfl)
 |ba k off sz i esz off2=>exact one_case h (by obtain⟨_,_,_,b,_,h2⟩:=h;rw[h2];rfl)
 |el k i esz off2=>exact one_case h (by obtain⟨_,_,_,b,_,h2⟩:=h;rw[h2];rfl)
 |cl f a b=>exact one_case h (by obtain⟨_,_,_,_,h2⟩:=h;rw[h2];rfl)
 |ag l =>
  obtain⟨cs,h1,h2⟩:=h;rw[h2];show (l.sem X w).c cs.toArray.toList;exact h1
 |ex v=>rw[show u=v from h];rfl
 |em t xs=>exact one_case h (by obtain⟨_,p,n,h2,_⟩:=h;rw[h2];rfl)
 |_=>cases hc
section ops
variable {X:Cx} {w:World} {a:Act} {o:Oper} {d:Option Tmp} {T Y Z:TypeId} {pos:String} {aft:Array Edge} {g:Option (Nat×Bool)}
def nL(T:TE)(z:Value):Nat->List (Nat×Nat×Nat)->Option AV
 |at_,[]=>match Nat.beq at_ z.cells.size with
  |true=>some .un
  |false=>none
 |at_,(ft,off,s)::l=>match look T ft with
  |none=>none
  |some i=>match Nat.beq off at_ with
   |false=>none
   |true=>match atV (s+1) (vN i.dd) z off,nL T z (at_+(s+1)) l with
    |some φ,some r=>some (.pr φ r)
    |_,_=>none
theorem qH{TT:TE}{z:Value}:∀ {l:List (Nat×Nat×Nat)} {n:Nat} {φ:AV},nL TT z n l=some φ->(φ.sem X w).c (z.cells.toList.drop n)
 | [],n,φ,h=>by
  simp only[nL]at h;split at h
  ·rename_i hb
   cases h
   have:=zLY hb;show _=[]
   simp_all
  ·cases h
 |(ft,off,s)::l,n,φ,h=>by
  simp only[nL]at h;split at h
  ·cases h
  ·split at h
   ·cases h
   ·rename_i hb
    have hb:=zLY hb;subst hb;split at h
    ·rename_i ψ r h1 h2
     cases h
     obtain⟨c1,c2,c3,e1,e2,e3,e4,_⟩:=(SB (X:=X) (w:=w) h1).h;refine⟨c2,z.cells.toList.drop (off+(s+1)),?_,e4,qH h2⟩;rw[e1,<-e2,List.drop_left,<-e3,<-zLt,<-zLa,List.drop_left]
    ·cases h
def Me(rd:Operand->Option AV)(pl:Nat->Option (Nat×Nat×Bool)):List (Nat×Operand)->AV->Option AV
 | [],φ=>some φ
 |(f,x)::l,φ=>match rd x,pl f with
  |some ψ,some (off,n,ag)=>match ψ.ID && Nat.beq ψ.sz n with
   |true=>match AV.rT ψ n ag φ true off with
    |some φ'=>Me rd pl l φ'
    |none=>none
   |false=>none
  |_,_=>none
theorem mW{rd:Operand->Option AV}{pl:Nat->Option (Nat×Nat×Bool)}:∀ {l:List (Nat×Operand)} {φ φ':AV},Me rd pl l φ=some φ'->(∀p φ,p∈l->rd p.2=some φ->φ.holds X w (a.eval p.2))->∀ {cs:List Value},(φ.sem X w).c cs ->
  ∃out,Fill (fun i=>(pl i).map fun e=>(e.1,e.2.1)) cs (l.map (fun p=>(p.1,a.eval p.2))) out/\(φ'.sem X w).c out
 | [],φ,φ',h,H,cs,hc=>by
  simp only[Me]at h;cases h;exact⟨cs,.nil,hc⟩
 |(f,x)::l,φ,φ',h,H,cs,hc=>by
  simp only[Me]at h;split at h
  ·rename_i ψ off n ag h1 h2
   split at h
   ·rename_i hb
    rw[zLZ]at hb;split at h
    ·rename_i φ1 h3
     have hv:=AV.v_c hb.1 (H (f,x) ψ (by simp) h1)
     have hn:=AV.len ψ hv;rw[zLY hb.2]at hn;obtain⟨g1,g2⟩:=AV.Eh φ h3 hc;have g3:=g2 _ hn hv
     obtain⟨out,g4,g5⟩:=mW h (fun p φ hp=>H p φ (by grind)) g3
     refine⟨out,.cons (vs:=(a.eval x).cells.toList) (off:=off) (n:=n) (by grind) (by simp) hn g1 ?_,g5⟩
     grind [ZT]
    ·cases h
   ·cases h
  ·cases h
def agD(T:TE)(X:TypeId):Bool:=match look T X with
 |some i=>vN i.dd
 |none=>false
def flA(e k:Nat):Nat->Nat->List (Nat×Nat×Nat)
 |0,_=>[]
 |n+1,off=>(e,off,k)::flA e k n (off+(k+1))
def AV.whole:AV->Bool
 |.ag _=>true
 |.rd t _=>t.agg
 |.ex v=>zDu v
 |_=>false
theorem GL{φ:AV}(hw:φ.whole=true){cs:List Value}(h:(φ.sem X w).c cs):φ.holds X w (.agg cs.toArray):=by
 cases φ<;>first|(cases hw;done)|skip
 ·exact⟨cs,h,by rw[Ty.jI];simp only[AV.whole]at hw;rw[hw];rfl⟩
 ·exact⟨cs,h,rfl⟩
 ·rename_i v
  cases v<;>first|(cases hw;done)|skip
  show Value.agg _=Value.agg _
  rw[show cs=_ from h];simp[Value.cells]
def ifW(φ:AV):VR:=match φ.whole with
 |true=>.tot φ
 |false=>.no
def zHV(i:TI)(ps:List (Nat×Operand)):Bool:=match i.dd with
 |.struct fs=>match fs.toList,ps,i.z.cells.toList with
  | [],[],[]=>true
  |_,_,_=>false
 |_=>false
def ES(T:TE)(rd:Operand->Option AV)(Y:TypeId)(ps:List (Nat×Operand)):VR:=match look T Y with
 |none=>.no
 |some i=>match i.fl with
  |e::l=>match nL T i.z 0 (e::l) with
   |some φ=>match Me rd (fun f=>((e::l)[f]?).map fun e=>(e.2.1,e.2.2+1,agD T e.1)) ps (.ag φ) with
    |some ψ=>ifW ψ
    |none=>.no
   |none=>.no
  | []=>match arD i.dd with
   |none=>match zHV i ps with
    |true=>.tot (.rd .nil ())
    |false=>.no
   |some ne=>match look T ne.2 with
    |none=>.no
    |some j=>match j.sz with
     |0=>.no
     |k+1=>match nL T i.z 0 (flA ne.2 k ne.1 0) with
      |some φ=>match Me rd (fun f=>some (f * (k+1),k+1,vN j.dd)) ps (.ag φ) with
       |some ψ=>ifW ψ
       |none=>.no
      |none=>.no
theorem tZ{ps:Array (Nat×Operand)}{p:Nat×Operand}(hp:p∈ps.toList):p.2∈(ps.toList.map (·.2)).toArray:=by
 grind
theorem IW{TT:TE}(hT:TOk X.P TT){rd:Operand->Option AV}{ps:Array (Nat×Operand)}(H:ZY X w a rd (Op.operands (.build Y ps))):VOk X w a ⟨d,.build Y ps,T,pos,aft,g⟩ (ES TT rd Y ps.toList):=by
 have H':∀p φ,p∈ps.toList->rd p.2=some φ->φ.holds X w (a.eval p.2):=fun p φ hp h=>H p.2 φ (tZ hp) h
 unfold ES;split
 ·trivial
 ·rename_i i hi
  have kA:=hT Y i hi;split
  ·rename_i e l he
   split
   ·rename_i φ hφ
    split
    ·rename_i ψ hψ
     unfold ifW
     ·split
      ·rename_i hw
       have hz:=qH (X:=X) (w:=w) hφ;rw[List.drop_zero]at hz;obtain⟨out,h1,h2⟩:=mW hψ H' (φ:=.ag φ) hz;have hP:Plc X.P Y (i.fl.map (fun e=>(e.2.1,e.2.2+1))).toArray:=by
        rcases kA.pl with h|h
        ·grind
        ·exact h
       refine yR (Ix hP kA.ty rfl (zc:=i.z.cells.toList) (by simp) (out:=out) ?_ rfl) fun w' v hE hv=>?_
       ·grind
       ·rw[show v=_ from hv]
        exact ψ.ext hE (GL hw h2)
      ·trivial
    ·trivial
   ·trivial
  ·split
   ·split
    ·rename_i hn
     unfold zHV at hn;split at hn
     ·rename_i fs hfs
      split at hn
      ·rename_i h1 h2 h3
       have hfs0:fs=#[]:=Array.ext' (by omega)
       have dV:ps=#[]:=Array.ext' (by omega)
       have aX:i.z.cells=#[]:=Array.ext' (by omega)
       have ht:=kA.ty;rw[hfs,hfs0]at ht;subst dV;intro K Q hK;have fI:(execOp a.eval ⟨d,.build Y #[],T,pos,aft,g⟩).run X.P w=.ok (.value (.agg #[])) w:=by
        simp[execOp,Instr.build,ht.gf,ht.kc,aX,Instr.fill]
       unfold Oper.wp;rw[fI];exact hK _ _ (Ext.refl w) ⟨[],rfl,rfl⟩
      ·cases hn
     ·cases hn
    ·trivial
   ·rename_i ne fD
    split
    ·trivial
    ·rename_i j hj
     split
     ·trivial
     ·rename_i k hk
      split
      ·rename_i φ hφ
       split
       ·rename_i ψ hψ
        unfold ifW
        ·split
         ·rename_i hw
          have ht:=kA.ty;rw[GB fD]at ht;have ht':=(hT ne.2 j hj).ty
          rw[hk]at ht';have hz:=qH (X:=X) (w:=w) hφ
          rw[List.drop_zero]at hz;obtain⟨out,h1,h2⟩:=mW hψ H' (φ:=.ag φ) hz;refine yR (p9 ht ht' rfl (zc:=i.z.cells.toList) (by simp) (out:=out) h1 rfl) fun w' v hE hv=>?_
          rw[show v=_ from hv]
          exact ψ.ext hE (GL hw h2)
         ·trivial
       ·trivial
      ·trivial
def elts(G:FE)(M:MS)(t:Ty)(rd:Operand->Option AV):Nat->List (Nat×Operand)->Option (List t.D)
 |_,[]=>some []
 |k,(i,x)::l=>match Nat.beq i k,rd x with
  |true,some φ=>match φ.asT G M t,elts G M t rd (k+1) l with
   |some y,some ys=>some (y::ys)
   |_,_=>none
  |_,_=>none
theorem HN{G:FE}(hG:FOk X.P G){M:MS}(hM:yE M X w){t:Ty}{rd:Operand->Option AV}:∀ {ps:List (Nat×Operand)} {k:Nat} {ys:List t.D},elts G M t rd k ps=some ys->(∀p φ,p∈ps->rd p.2=some φ->φ.holds X w (a.eval p.2)) ->
  ∃vs,Parts a k ps vs/\y5 (t.gr X.P) X.O w vs ys
 | [],k,ys,h,H=>by cases h;exact⟨[],.nil,trivial⟩
 |(i,x)::l,k,ys,h,H=>by
  simp only[elts]at h;split at h
  ·rename_i φ hb h1
   split at h
   ·rename_i y ys' h2 h3
    cases h
    have:=zLY hb;subst this;obtain⟨vs,e1,e2⟩:=HN hG hM h3 fun p φ hp=>H p φ (by grind)
    exact⟨_::vs,.cons rfl e1,AV.Z7 hG hM h2 (H (i,x) φ (by simp) h1),e2⟩
   ·cases h
  ·cases h
def UH(T:TE)(G:FE)(M:MS)(rd:Operand->Option AV)(Y:TypeId)(n:Nat)(ps:List (Nat×Operand)):Option (TypeId×(t:Ty)×List t.D):=match look T Y with
 |none=>none
 |some i=>match slD i.dd with
  |none=>none
  |some e=>match look T e with
   |none=>none
   |some j=>match elts G M j.τ rd 0 ps with
    |none=>none
    |some ys=>match Nat.blt 0 j.sz && (Nat.beq j.τ.sz j.sz && (Nat.beq ys.length n && Nat.ble (n * j.sz) 16777216)) with
     |true=>some (e,⟨j.τ,ys⟩)
     |false=>none
theorem n4{TT:TE}(hT:TOk X.P TT){G:FE}(hG:FOk X.P G){M:MS}(hM:yE M X w)(hO:OkO X.O w){rd:Operand->Option AV}{n:Nat}{ps:Array (Nat×Operand)}(H:ZY X w a rd (Op.operands (.buildSlice Y n ps))){q:TypeId×(t:Ty)×List t.D}(h:UH TT G M rd Y n ps.toList=some q) :
  Ok X.P ⟨d,.buildSlice Y n ps,T,pos,aft,g⟩ a w (fun w' v=>(SP.UO (q.2.1.gr X.P) q.1 w.heap.size X.O q.2.2).holds w' v/\∃b,v=.slice (some ⟨b,0,none⟩) n n):=by
 have H':∀p φ,p∈ps.toList->rd p.2=some φ->φ.holds X w (a.eval p.2):=fun p φ hp h=>H p.2 φ (tZ hp) h
 unfold UH at h;split at h
 ·cases h
 ·rename_i i hi
  have ht:=(hT Y i hi).ty;split at h
  ·cases h
  ·rename_i e he
   rw[ZU he]at ht;split at h
   ·cases h
   ·rename_i j hj
    have ht':=(hT e j hj).ty;split at h
    ·cases h
    ·rename_i ys sQ
     split at h
     ·rename_i hb
      cases h
      simp only[zLZ]at hb;obtain⟨b1,b2,b3,b4⟩:=hb;rw[za]at b1;have b1:0<j.sz:=by grind
      have b2:=zLY b2;have b3:=zLY b3
      have b4:=Nat.le_of_ble_eq_true b4;obtain⟨vs,e1,e2⟩:=HN hG hM sQ H';obtain⟨E,hE⟩:∃E,j.sz=E+1:=⟨j.sz-1,by omega⟩
      rw[hE]at ht' b4;exact tI (Ty.fits X.P _) (by grind [Ty.yr]) hO ht ht' (zLb _) e1 e2 (by rw[e2.len,b3]) b4
     ·cases h
def zKz(n:Nat)(t:Ty):Bool:=match n with
 |0=>true
 |1=>t.closed
 |_=>false
def SO(T:TE)(G:FE)(M:MS)(rd:Operand->Option AV)(Y:TypeId)(n:Nat)(ps:List (Nat×Operand)):VR:=match UH T G M rd Y n ps with
 |some q=>match zKz n q.2.1 with
  |true=>.tot (.em q.2.1 q.2.2)
  |false=>.tot (.rd (.sl q.2.1) q.2.2)
 |none=>.no
theorem Mw{TT:TE}(hT:TOk X.P TT){G:FE}(hG:FOk X.P G){M:MS}(hM:yE M X w)(hO:OkO X.O w){rd:Operand->Option AV}{n:Nat}{ps:Array (Nat×Operand)}(H:ZY X w a rd (Op.operands (.buildSlice Y n ps))) :
  VOk X w a ⟨d,.buildSlice Y n ps,T,pos,aft,g⟩ (SO TT G M rd Y n ps.toList):=by
 unfold SO;split
 ·rename_i q hq
  have hv:∀ {w' v},(SP.UO (q.2.1.gr X.P) q.1 w.heap.size X.O q.2.2).holds w' v->(rSl (q.2.1.gr X.P)).v X.O w' v q.2.2:=fun hv=>Zo.val hv fun g hg=>hO g (hv.ge g hg).1
  split
  ·refine yR (n4 hT hG hM hO H hq) fun w' v hE h=>?_
   obtain⟨b,rfl⟩:=h.2;exact⟨hv h.1,_,_,rfl,.inr ⟨_,_,rfl⟩⟩
  ·exact yR (n4 hT hG hM hO H hq) fun w' v hE h=>hv h.1
 ·trivial
def W1:AV->Nat->Option AV
 |.pr a _,0=>some a
 |.pr _ b,n+1=>W1 b n
 |_,_=>none
theorem Vo:∀ {l:AV} {n:Nat} {φ:AV},W1 l n=some φ->∀ {vs},(l.sem X w).l vs->∃v,vs[n]?=some v/\φ.holds X w v:=by
 intro l
 induction l with
 |pr a b iha ihb =>
  intro n φ h vs hv;obtain⟨v,vs',h1,h2,h3⟩:=hv
  cases n with
  |zero=>cases h;grind
  |succ n=>obtain⟨v',e1,e2⟩:=ihb h h3;grind
 |_=>intro n φ h;cases n<;>cases h
def zHF(n:Nat):Option AV->VR
 |some (.tp l)=>match W1 l n with
  |some φ=>.tot φ
  |none=>.no
 |_=>.no
theorem Ur{rd:Operand->Option AV}{x:Operand}{n:Nat}(H:ZY X w a rd (Op.operands (.extract x n))):VOk X w a ⟨d,.extract x n,T,pos,aft,g⟩ (zHF n (rd x)):=by
 cases h1:rd x with
 |none=>trivial
 |some φ =>
  have k1:=H x φ (by simp[Op.operands]) h1
  cases φ<;>try exact trivial
  rename_i l;show VOk _ _ _ _ (match W1 l n with|some φ=>VR.tot φ|none=>.no)
  split
  ·rename_i φ hφ
   obtain⟨vs,e1,e2⟩:=k1;obtain⟨v,e3,e4⟩:=Vo hφ e1;exact vC (v:=v) (w':=w) (by simp[execOp,Instr.extract,e2,e3]) (Ext.refl _) e4
  ·trivial
def prL:List AV->AV
 | []=>.un
 |φ::l=>.pr φ (prL l)
theorem Ei{rd:Operand->Option AV}:∀ {xs:List Operand} {l:List AV},jE rd xs=some l->(∀x φ,x∈xs->rd x=some φ->φ.holds X w (a.eval x))->((prL l).sem X w).l (xs.map a.eval)
 | [],l,h,H=>by cases h;rfl
 |x::xs,l,h,H=>by
  simp only[jE]at h;split at h
  ·rename_i φ l' h1 h2
   cases h
   exact⟨_,_,rfl,H x φ (by simp) h1,Ei h2 fun y ψ hy=>H y ψ (by grind)⟩
  ·cases h
def zEb(rd:Operand->Option AV)(f:FuncId)(xs ys:List Operand):VR:=match jE rd xs,jE rd ys with
 |some l,some m=>.tot (.cl f (prL l) (prL m))
 |_,_=>.no
theorem Uo{rd:Operand->Option AV}{f:FuncId}{xs ys:Array Operand}(H:ZY X w a rd (Op.operands (.makeFunc (.func f) xs ys))):VOk X w a ⟨d,.makeFunc (.func f) xs ys,T,pos,aft,g⟩ (zEb rd f xs.toList ys.toList):=by
 unfold zEb;split
 ·rename_i l m h1 h2
  refine yR (wu rfl rfl) fun w' v hE hv=>?_
  have k1:=Ei (X:=X) (w:=w) (a:=a) h1 fun x φ hx h=>H x φ (by grind [Op.operands]) h
  have k2:=Ei (X:=X) (w:=w) (a:=a) h2 fun x φ hx h=>H x φ (by grind [Op.operands]) h
  refine AV.ext _ hE ?_;exact⟨_,_,k1,k2,by rw[show v=_ from hv,<-Array.toList_map,<-Array.toList_map]⟩
 ·trivial
def SI(G:FE)(M:MS)(b:Bool):Option AV->Option AV->VR
 |some φ,some ψ=>match φ with
  |.rd t x=>match ψ.asT G M t with
   |some y=>.tot (.rd t (sel b x y))
   |none=>.no
  |_=>.no
 |_,_=>.no
theorem Mq{G:FE}(hG:FOk X.P G){M:MS}(hM:yE M X w){b:Bool}{c x y:Operand}{rx ry:Option AV}(hc:a.eval c=.bool b)(hx:∀φ,rx=some φ->b=true->φ.holds X w (a.eval x))(hy:∀φ,ry=some φ->b=false->φ.holds X w (a.eval y)):VOk X w a ⟨d,.pick c x y,T,pos,aft,g⟩ (SI G M b rx ry):=by
 unfold SI;split
 ·rename_i φ ψ
  split
  ·rename_i t u
   split
   ·rename_i v hv
    cases b with
    |true=>exact vC (v:=a.eval x) (w':=w) (by simp[execOp,hc,asBool]) (Ext.refl _) (hx _ rfl rfl)
    |false=>exact vC (v:=a.eval y) (w':=w) (by simp[execOp,hc,asBool]) (Ext.refl _) (AV.Z7 hG hM hv (hy _ rfl rfl))
   ·trivial
  ·trivial
 ·trivial
end ops
inductive CQ
 |r (t:Ty) (T:TypeId)
 |p (t:Ty) (T:TypeId)
 |o (t:Ty) (T' T:TypeId)
 |s (T:TypeId)
def CR:List CQ->Type
 | []=>Unit
 |.r t _::l=>t.D×CR l
 |_::l=>CR l
def CB:List CQ->Type
 | []=>Unit
 |.r _ _::l=>CB l
 |.p t _::l=>t.D×CB l
 |.o t _ _::l=>List t.D×CB l
 |.s _::l=>CB l
abbrev K3(bl:List Nat):List Value:=bl.map fun b=>.pointer (some ⟨b,0,none⟩)
def Cnt(P:Program)(f:FuncId)(us:List Value)(O:zR)(w:World)(G:Nat->Prop):(l:List CQ)->CR l->CB l->List Nat->List Nat->List Nat->List Value->Prop
 | [],_,_,bl,ts,σs,vs=>bl=[]/\ts=[]/\σs=[]/\vs=[]
 |.r t T::l,x,y,bl,ts,σs,vs=>∃b bl' τ ts' cs,bl=b::bl'/\ts=τ::ts'/\Own w b cs T/\O b=τ/\(t.gr P).rel O w cs.toList x.1/\Cnt P f us O w G l x.2 y bl' ts' σs vs
 |.p t T::l,x,y,bl,ts,σs,vs=>∃b bl' τ ts' cs,bl=b::bl'/\ts=τ::ts'/\Own w b cs T/\O b=τ/\(t.gr P).rel O w cs.toList y.1/\Cnt P f us O w G l x y.2 bl' ts' σs vs
 |.o t T' T::l,x,y,bl,ts,σs,vs=>∃b bl' τ ts' σ σs' u vs',bl=b::bl'/\ts=τ::ts'/\σs=σ::σs'/\vs=u::vs'/\u.oneCell'=true/\Own w b #[u] T/\O b=τ/\zo σ (t.gr P) T' G O w u y.1/\Cnt P f us O w G l x y.2 bl' ts' σs' vs'
 |.s T::l,x,y,bl,ts,σs,vs=>∃b bl' τ ts',bl=b::bl'/\ts=τ::ts'/\Own w b #[.func (.func f) #[] us.toArray] T/\O b=τ/\Cnt P f us O w G l x y bl' ts' σs vs
structure KeepK(W:Nat->Prop)(O:zR)(w:World)(O':zR)(w':World):Prop where
 os:w'.os=w.os
 tape:w'.tape=w.tape
 output:w'.output=w.output
 size:w.heap.size<=w'.heap.size
 block:∀b,b<w.heap.size->¬W b->w'.heap[b]?=w.heap[b]?
 tag:∀b,b<w.heap.size->¬W b->O' b=O b
 nz:∀b,b<w.heap.size->W b->O' b≠0
 ok:OkO O' w'
structure FK where
 ps:Ty
 cs:List CQ
 zt:Ty
 zT:TypeId
 sem:ps.D->CR cs->CB cs->Comp (Sum zt.D (CB cs))
def FK.post(P:Program)(f:FuncId)(s:FK)(c:CR s.cs)(O:zR)(w:World)(bl ts σs:List Nat)(G:Nat->Prop):Sum s.zt.D (CB s.cs)->Ending->World->Prop:=fun r e w' =>
 ∃O',KeepK (fun b=>b∈bl\/G b) O w O' w'/\match r with
  |.inl z=>∃v,e=.panicked [{ v:=.iface s.zT v,recovered:=false }]/\(s.zt.gr P).v O' w' v z
  |.inr y'=>(∃v,e=.returned v)/\∃ss',Cnt P f (K3 bl) O' w' (fun g=>w.heap.size<=g\/G g) s.cs c y' bl ts σs ss'
def FK.ok(P:Program)(f:FuncId)(s:FK):Prop :=
 FnOk P f/\∀O w,OkO O w->∀vs x c y bl ts σs ss G,s.ps.args P O w vs x->Cnt P f (K3 bl) O w G s.cs c y bl ts σs ss->(ts++σs).Nodup->0 ∉ ts++σs->(∀b,G b->b<w.heap.size/\O b∈σs)->σs.length<=1->∀n r,(s.sem x c y).run n=some r ->
  Calls P f (vs++K3 bl).toArray w (s.post P f c O w bl ts σs G r)
abbrev KFE:=FuncId->Option FK
def zLV(P:Program)(G:KFE):Prop:=∀f s,G f=some s->s.ok P f
inductive Knd
 |v (t:Ty)
 |o (nw:Bool) (t:Ty) (T:TypeId)
 |m (nw:Bool) (a b:Ty)
 |bv (nw:Bool) (t:Ty) (T:TypeId)
 |un
 |pr (a b:Knd)
 |ag (l:Knd)
def Knd.D:Knd->Type
 |.v t=>t.D
 |.o _ t _=>List t.D
 |.m _ a b=>List (a.D×b.D)
 |.bv _ t _=>t.D
 |.un=>Unit
 |.pr a b=>a.D×b.D
 |.ag l=>l.D
def Knd.agg:Knd->Bool
 |.v t=>t.agg
 |.ag _=>true
 |_=>false
def Ce(P:Program)(O:zR)(w:World)(B:Nat):(k:Knd)->k.D->List Value->List Value->Prop
 |.v t,x,cs,us=>(t.gr P).rel O w cs x/\us=[]
 |.o _ t T,xs,cs,us=>∃u vs,cs=[u]/\us=[u]/\u.oneCell'=true/\OwnS w B T (t.gr P).sz u vs/\y5 (t.gr P) O w vs xs
 |.m ..,_,_,_=>False
 |.bv ..,_,_,_=>False
 |.un,_,cs,us=>cs=[]/\us=[]
 |.pr a b,x,cs,us=>∃c1 c2 u1 u2,cs=c1++c2/\us=u1++u2/\Ce P O w B a x.1 c1 u1/\Ce P O w B b x.2 c2 u2
 |.ag l,x,cs,us=>Ce P O w B l x cs us
def K8(P:Program)(O:zR)(w:World)(B:Nat):(k:Knd)->k.D->List Value->List Value->Prop
 |.pr a b,x,vs,us=>∃v vs' u1 u2 cs,vs=v::vs'/\us=u1++u2/\v=yD a.agg cs/\Ce P O w B a x.1 cs u1/\K8 P O w B b x.2 vs' u2
 |.un,_,vs,us=>vs=[]/\us=[]
 |_,_,_,_=>False
def uI(O:zR)(us:List Value):zR:=fun b=>if us.any (fun u=>u.ownBlock == some b) then 1 else O b
structure FJ where
 ps:Ty
 kd:Knd
 sem:ps.D->Comp kd.D
def FJ.ok(P:Program)(f:FuncId)(s:FJ):Prop :=
 FnOk P f/\∀O w,OkO O w->∀vs x,s.ps.args P O w vs x->∀n y,(s.sem x).run n=some y->Pure P f vs.toArray w (fun w' v=>∃rs us,kh rs v/\K8 P (uI O us) w' w.heap.size s.kd y rs us/\(us.filterMap Value.ownBlock).Nodup)
abbrev JE:=FuncId->Option FJ
def zLW(P:Program)(G:JE):Prop:=∀f s,G f=some s->s.ok P f
def mpD:TypeDesc->Option (TypeId×TypeId)
 |.map k v=>some (k,v)
 |_=>none
theorem Rc{d:TypeDesc}{k:TypeId×TypeId}(h:mpD d=some k):d=.map k.1 k.2:=by cases d<;>first|(cases h;rfl)|cases h
def mpT:(t:Ty)->t.D->Option ((a:Ty)×(b:Ty)×List (a.D×b.D))
 |.mp a b,xs=>some ⟨a,b,xs⟩
 |_,_=>none
theorem zDi{t:Ty}{x:t.D}{q}(h:mpT t x=some q):∃e:t=.mp q.1 q.2.1,Ty.cast e x=q.2.2:=by
 cases t<;>first|(cases h;exact⟨rfl,rfl⟩)|cases h
def zEv(M:MS):AV->Option ((a:Ty)×(b:Ty)×List (a.D×b.D))
 |.ob k=>match look M k with
  |some (_,.mp _ a b xs)=>some ⟨a,b,xs⟩
  |some (_,.fm a b xs)=>some ⟨a,b,xs⟩
  |_=>none
 |.rd t x=>mpT t x
 |_=>none
theorem G1{P:Program}{a b:Ty}{O:zR}{w:World}{u:Value}{xs:List (a.D×b.D)}(h:((Ty.mp a b).gr P).v O w u xs):C6 (gj a) (b.gr P) O w u xs:=by
 obtain⟨cs,h1,h2⟩:=h;rcases h1 with ⟨rfl,rfl⟩|⟨c,es,clock,rfl,h3,h4,_⟩
 ·exact .inl ⟨h2,rfl⟩
 ·exact .inr ⟨c,es,clock,h2,h3,h4⟩
theorem zDj{X:Cx}{w:World}{M:MS}(hM:yE M X w){φ:AV}{u:Value}(hu:φ.holds X w u){q}(h:zEv M φ=some q):C6 (gj q.1) (q.2.1.gr X.P) X.O w u q.2.2:=by
 unfold zEv at h;split at h
 ·split at h
  ·rename_i k _ st nw a b xs hk
   cases h
   obtain⟨c,es,clock,h1,h2,h3,_⟩:=hM k _ hk;exact .inr ⟨c,es,clock,hu.1.trans h1,h2,h3⟩
  ·rename_i k _ st a b xs hk
   cases h
   have:=hM k _ hk;rw[hu.1];exact G1 this
  ·cases h
 ·rename_i t x
  obtain⟨e,he⟩:=zDi h;subst e;rw[<-he];exact G1 hu
 ·cases h
def SM(T:TE)(G:FE)(M:MS)(X:TypeId)(c:Bool):Option AV->Option AV->VR
 |some φ,some ψ=>match look T X with
  |some i=>match mpD i.dd with
   |some kv=>match look T kv.1,look T kv.2 with
    |some p,some q=>match p.kq,zEv M φ,ψ.asT G M p.τ,ofV q.τ q.z with
     |true,some m,some y,some z0=>match (Ty.mp m.1 m.2.1).to (.mp p.τ q.τ) m.2.2 with
      |some xs=>match c with
       |false=>.tot (.rd q.τ (zEo (mgB p.τ.eqb xs y) z0))
       |true=>.tot (.tp (.pr (.rd q.τ (zEo (mgB p.τ.eqb xs y) z0)) (.pr (.rd .bool (isS (mgB p.τ.eqb xs y))) .un)))
      |none=>.no
     |_,_,_,_=>.no
    |_,_=>.no
   |none=>.no
  |none=>.no
 |_,_=>.no
theorem zGg{P:Program}{a b a' b':Ty}{xs:List (a.D×b.D)}{ys:List (a'.D×b'.D)}(h:(Ty.mp a b).to (.mp a' b') xs=some ys){O w u}(hx:C6 (gj a) (b.gr P) O w u xs):C6 (gj a') (b'.gr P) O w u ys:=by
 obtain⟨e,h1⟩:=Ty.jN h;cases e;cases h1;exact hx
theorem Mu{X:Cx}{w:World}{a:Act}{M:MS}{d:Option Tmp}{T Y:TypeId}{pos:String}{aft:Array Edge}{g:Option (Nat×Bool)}{TT:TE}{G:FE}(hT:TOk X.P TT)(hG:FOk X.P G)(hM:yE M X w){rd:Operand->Option AV}{x y:Operand}{c:Bool}(H:ZY X w a rd (Op.operands (.lookup Y x y c))):VOk X w a ⟨d,.lookup Y x y c,T,pos,aft,g⟩ (SM TT G M Y c (rd x) (rd y)):=by
 cases h1:rd x with
 |none=>trivial
 |some φ =>
  cases h2:rd y with
  |none=>trivial
  |some ψ =>
   have k1:=H x φ (by simp[Op.operands]) h1
   have k2:=H y ψ (by simp[Op.operands]) h2
   simp only[SM];split
   ·rename_i i hi
    split
    ·rename_i kv hkv
     have ht:=(hT Y i hi).ty;rw[Rc hkv]at ht;split
     ·rename_i p q hp hq
      split
      ·rename_i m y z0 hk hm hy hz
       split
       ·rename_i xs sE
        have hK:=(hT _ p hp).key hk;have hV:=(hT _ q hq).ty
        have hy':=S6 hK.clo (AV.Z7 hG hM hy k2);have tR:=zGg sE (zDj hM k1 hm)
        have kA:=Do (d:=d) (T:=T) (pos:=pos) (aft:=aft) (g:=g) (ok:=c) ht hV (KL X.P hz X.O w) hK rfl tR hy'
        cases c with
        |false =>
         refine yR kA fun w' v hE hv=>?_
         obtain⟨v0,rfl,hv⟩:=hv;exact hv
        |true =>
         refine yR kA fun w' v hE hv=>?_
         obtain⟨v0,rfl,hv⟩:=hv;exact⟨_,⟨_,_,rfl,hv,_,_,rfl,kO.2 rfl,rfl⟩,rfl⟩
       ·trivial
      ·trivial
     ·trivial
    ·trivial
   ·trivial
structure VE where
 T:TE
 G:FE
 H:ME
 O:OE
 N:FE
 Q:QE
 K:KFE:=fun _=>none
 Z:TypeId:=0
 J:JE:=fun _=>none
structure VE.ok(P:Program)(E:VE):Prop where
 T:TOk P E.T
 G:FOk P E.G
 H:zLU P E.H
 O:zLS P E.O
 N:zLT P E.N
 Q:zLR P E.Q
 K:zLV P E.K
 J:zLW P E.J
def vOf:Option AV->VR
 |some φ=>.tot φ
 |none=>.no
def vh(d:Nat):List Nat->Bool
 | []=>false
 |e::l=>bif Nat.beq e d then true else vh d l
def D6(d:Option Tmp)(l:List Nat):Bool:=match d with
 |some d=>vh d l
 |none=>false
def H9:Int->Int->Bool
 |.ofNat a,.ofNat b=>Nat.beq a b
 |.negSucc a,.negSucc b=>Nat.beq a b
 |_,_=>false
theorem Bt{m n:Int}(h:H9 m n=true):m=n:=by
 unfold H9 at h;split at h
 ·rw[zLY h]
 ·rw[zLY h]
 ·cases h
def Hw:Operand->Operand->Bool
 |.tmp t,.tmp u=>Nat.beq t u
 |.const (.int k m),.const (.int l n)=>Hj k l && H9 m n
 |_,_=>false
theorem BL{x y:Operand}(h:Hw x y=true):x=y:=by
 unfold Hw at h;split at h
 ·rw[zLY h]
 ·rw[zLZ]at h;grind [Xx,Bt]
 ·cases h
def uy:Operand->Bool
 |.const (.int _ m)=>H9 m 0
 |_=>false
theorem tn{x:Operand}(h:uy x=true):∃k,x=.const (.int k 0):=by
 unfold uy at h;split at h
 ·rw[Bt h];grind
 ·cases h
def mk0(m:Int):Comp Unit:=if 0<=m/\m<=LIM then Comp.pure () else Comp.fail
def SK(T:TE)(Y:TypeId)(x y:Operand)(m:Option (IntKind×Int)):VR:=match look T Y with
 |none=>.no
 |some i=>match slD i.dd with
  |none=>.no
  |some e=>match look T e with
   |none=>.no
   |some j=>match m,ofV j.τ j.z with
    |some m,some z=>match Nat.blt 0 j.sz && (Nat.beq j.τ.sz j.sz && (Nat.ble j.by_ 131072 && Nat.beq j.z.cells.size j.sz)) with
     |true=>match uy x with
      |true=>.par .nil (mk0 m.2) fun _=>.rd (.sl j.τ) []
      |false=>match Hw x y with
       |true=>.par (.sl j.τ) (mk m.2 z) fun ys=>.rd (.sl j.τ) ys
       |false=>.no
     |false=>.no
    |_,_=>.no
theorem Mt{X:Cx}{w:World}{a:Act}{d:Option Tmp}{T Y:TypeId}{pos:String}{aft:Array Edge}{g:Option (Nat×Bool)}{TT:TE}(hT:TOk X.P TT)(hO:OkO X.O w){rd:Operand->Option AV}{x y:Operand}(H:ZY X w a rd (Op.operands (.makeSlice Y x y))):VOk X w a ⟨d,.makeSlice Y x y,T,pos,aft,g⟩ (SK TT Y x y ((rd y).bind AV.int?)):=by
 unfold SK;split
 ·trivial
 ·rename_i i hi
  have ht:=(hT Y i hi).ty;split
  ·trivial
  ·rename_i e he
   rw[ZU he]at ht;split
   ·trivial
   ·rename_i j hj
    have ht':=(hT e j hj).ty;split
    ·rename_i m zv hm hz
     have iB:=vM H (x:=y) (by simp[Op.operands]) hm
     split
     ·rename_i hb
      simp only[zLZ]at hb;obtain⟨b1,b2,b3,b4⟩:=hb;rw[za]at b1;have b1:0<j.sz:=by grind
      have b2:=zLY b2;have b3:=Nat.le_of_ble_eq_true b3
      have b4:=zLY b4;obtain⟨E',hE'⟩:∃E',j.sz=E'+1:=⟨j.sz-1,by omega⟩
      rw[hE']at ht' b4;have pV:(j.τ.gr X.P).sz=E'+1:=by grind [Ty.yr]
      split
      ·rename_i b8
       obtain⟨kk,rfl⟩:=tn b8;intro n u0 h0;exact yR (pG (r:=j.τ.gr X.P) (B:=w.heap.size) (O:=X.O) pV ht ht' b3 (zLb _) rfl iB h0) fun w' v hE hv=>Zo.val hv fun g hg=>hO g (hv.ge g hg).1
      ·split
       ·rename_i hs
        obtain rfl:=BL hs;intro n ys h0;exact yR (Bf (r:=j.τ.gr X.P) (B:=w.heap.size) (O:=X.O) pV ht ht' b3 b4 (zLb _) iB iB (fun O w=>KL _ hz O w) h0) fun w' v hE hv=>Zo.val hv fun g hg=>hO g (hv.ge g hg).1
       ·trivial
     ·trivial
    ·trivial
def uS{α:Type}:List α->Bool
 | []=>true
 |_=>false
def E1:Operand->Bool
 |.const (.slice none 0 0)=>true
 |_=>false
theorem MF{y:Operand}(h:E1 y=true):y=.const (.slice none 0 0):=by
 grind [E1]
def UY:BinOp->Option Bool
 |.eql=>some true
 |.neq=>some false
 |_=>none
def zEu:AV->Bool
 |.ex (.slice none 0 0)=>true
 |_=>false
theorem Vq{φ:AV}(h:zEu φ=true):φ=.ex (.slice none 0 0):=by
 grind [zEu]
def zEY(T:TE)(M:MS)(op:BinOp)(Y:TypeId):Option AV->VR
 |some φ=>match look T Y with
  |none=>.no
  |some i=>match slD i.dd,UY op with
   |some _,some p=>match zEu φ with
    |true=>.tot (.rd .bool p)
    |false=>match Hf M φ with
     |some q=>.tot (.nb p (uS q.2))
     |none=>match uN M φ with
      |some q=>.tot (.nb p (uS q.2.2.2))
      |none=>.no
   |_,_=>.no
 |none=>.no
theorem RZ{α:Type}{r:GR α}{O:zR}{w:World}{p:Option Addr}{n c:Nat}{xs:List α}(h:Rd r O w (.slice p n c) xs):p.isNone=true->uS xs=true:=by
 intro hp;have:=MD (u:=.slice p n c) (by grind [Ez]) h
 rw[this];rfl
theorem pH{P:Program}{a:Act}{w:World}{d:Option Tmp}{T Y E Z:TypeId}{pos:String}{aft:Array Edge}{g:Option (Nat×Bool)}{op:BinOp}{p:Bool}{α:Type}{r:GR α}{O:zR}{xs:List α}{x:Operand}{z sz by_}(hT:Eng.Ty P Y (.slice E) z sz by_)(hp:UY op=some p)(h:Rd r O w (a.eval x) xs) :
  Ok P ⟨d,.binOp op Y x (.const (.slice none 0 0)) Z,T,pos,aft,g⟩ a w (fun w v=>∃b,v=.bool b/\(b=p->uS xs=true)):=by
 obtain⟨vs,⟨q,c,h1,_⟩,_⟩:=id h;rw[h1]at h;have h2:a.eval (.const (.slice none 0 0))=.slice none 0 0:=rfl
 cases op<;>simp only[UY,zLw]at hp<;>try cases hp
 ·have:=_root_.Go.run_eql_slice_nil (P:=P) w Y E q vs.length c hT.u
  refine vC (v:=.bool q.isNone) (w':=w) (by simp_all [execOp,eqGuard]) (Ext.refl w) ⟨_,rfl,fun hb=>RZ h (by omega)⟩
 ·have:=_root_.Go.run_neq_slice_nil (P:=P) w Y E q vs.length c hT.u
  refine vC (v:=.bool (!q.isNone)) (w':=w) (by simp_all [execOp,eqGuard]) (Ext.refl w) ⟨_,rfl,fun hb=>RZ h (by grind)⟩
theorem Iy{P:Program}{a:Act}{w:World}{d:Option Tmp}{T Y E Z:TypeId}{pos:String}{aft:Array Edge}{g:Option (Nat×Bool)}{op:BinOp}{p:Bool}{X:Cx}{x:Operand}{z sz by_}(hT:Eng.Ty P Y (.slice E) z sz by_)(hp:UY op=some p)(h:a.eval x=.slice none 0 0) :
  Ok P ⟨d,.binOp op Y x (.const (.slice none 0 0)) Z,T,pos,aft,g⟩ a w (fun w v=>(AV.rd .bool p).holds X w v):=by
 have h2:a.eval (.const (.slice none 0 0))=.slice none 0 0:=rfl;cases op<;>simp only[UY,zLw]at hp<;>try cases hp
 ·have:=_root_.Go.run_eql_slice_nil (P:=P) w Y E none 0 0 hT.u
  exact vC (v:=.bool true) (w':=w) (by simp[execOp,eqGuard,h,h2,this]) (Ext.refl w) (kO.2 rfl)
 ·have:=_root_.Go.run_neq_slice_nil (P:=P) w Y E none 0 0 hT.u
  exact vC (v:=.bool false) (w':=w) (by simp[execOp,eqGuard,h,h2,this]) (Ext.refl w) (kO.2 rfl)
theorem Uj{X:Cx}{w:World}{a:Act}{M:MS}{d:Option Tmp}{T Y Z:TypeId}{pos:String}{aft:Array Edge}{g:Option (Nat×Bool)}{TT:TE}(hT:TOk X.P TT)(hM:yE M X w){rd:Operand->Option AV}{op:BinOp}{x:Operand}(H:ZY X w a rd (Op.operands (.binOp op Y x (.const (.slice none 0 0)) Z))):VOk X w a ⟨d,.binOp op Y x (.const (.slice none 0 0)) Z,T,pos,aft,g⟩ (zEY TT M op Y (rd x)):=by
 cases h1:rd x with
 |none=>trivial
 |some φ =>
  have k1:=H x φ (by simp[Op.operands]) h1
  simp only[zEY];split
  ·trivial
  ·rename_i i hi
   have ht:=(hT Y i hi).ty;split
   ·rename_i e p he hp
    rw[ZU he]at ht;split
    ·rename_i hn
     rw[Vq hn]at k1;exact Iy ht hp k1
    split
    ·rename_i q hq
     exact pH ht hp (Cr (qm hM k1 hq))
    ·split
     ·rename_i q hq
      obtain⟨⟨nw,h2⟩,_⟩:=Jl hM k1 hq;exact pH ht hp h2.rd
     ·trivial
   ·trivial
def zLN(T:TE)(Y:TypeId):Bool:=match look T Y with
 |some i=>i.τ.agg
 |none=>false
def vEq(T:TE)(G:FE)(M:MS)(op:BinOp)(Y:TypeId):Option AV->Option AV->VR
 |some φ,some ψ=>match look T Y with
  |some i=>match Nat.beq i.eq 0,i.τ.agg with
   |false,true=>match φ.asT G M i.τ,ψ.asT G M i.τ with
    |some p,some q=>match op with
     |.eql=>vB (i.τ.eqb p q)
     |.neq=>vB (ntB (i.τ.eqb p q))
     |_=>.no
    |_,_=>.no
   |_,_=>.no
  |none=>.no
 |_,_=>.no
theorem zBJ{X:Cx}{w:World}{a:Act}{M:MS}{d:Option Tmp}{T Y Z:TypeId}{pos:String}{aft:Array Edge}{g:Option (Nat×Bool)}{TT:TE}{G:FE}(hT:TOk X.P TT)(hG:FOk X.P G)(hM:yE M X w){rd:Operand->Option AV}{op:BinOp}{x y:Operand}(H:ZY X w a rd (Op.operands (.binOp op Y x y Z))):VOk X w a ⟨d,.binOp op Y x y Z,T,pos,aft,g⟩ (vEq TT G M op Y (rd x) (rd y)):=by
 cases h1:rd x with
 |none=>trivial
 |some φ =>
  cases h2:rd y with
  |none=>trivial
  |some ψ =>
   have k1:=H x φ (by simp[Op.operands]) h1
   have k2:=H y ψ (by simp[Op.operands]) h2
   simp only[vEq];split
   ·rename_i i hi
    split
    ·rename_i he ha
     have fD:i.eq≠0:=fun e=>by simp_all
     obtain⟨e1,e2,e3⟩:=(hT Y i hi).eq fD;split
     ·rename_i p q hp hq
      have f1:=(AV.jR hG φ hM).v hp k1;have f2:=(AV.jR hG ψ hM).v hq k2
      cases op<;>first|exact trivial|exact uR (Vj e1 ha e2 (e3 ha) f1 f2)|exact uR (Vb e1 ha e2 (e3 ha) f1 f2)
     ·trivial
    ·trivial
   ·trivial
def Cs(R:RS')(c:Operand)(b:Bool)(g:Gd):Gd:=match c with
 |.tmp t=>match YK R t with
  |some e=>(e.i,b)::(e.g++g)
  |none=>g
 |_=>g
def zKw:Option AV->Bool
 |some φ=>Mi φ
 |none=>false
def zFb(n:Nat):GR Unit where
 agg:=true
 sz:=n
 rel:=fun _ _ cs _=>cs.length=n/\∀c∈cs,c.oneCell'=true
 len:=fun h=>h.1
 one:=fun h=>h.2
 mono:=fun _ h=>h
def zEe(T:TE)(Y:TypeId):Option AV->VR
 |some φ=>match look T Y with
  |none=>.no
  |some i=>match slD i.dd,Mi φ with
   |some _,true=>vI .i64 0
   |_,_=>.no
 |none=>.no
theorem Ut{X:Cx}{w:World}{a:Act}{d:Option Tmp}{T Y:TypeId}{pos:String}{aft:Array Edge}{g:Option (Nat×Bool)}{TT:TE}(hT:TOk X.P TT){rd:Operand->Option AV}{x:Operand}(H:ZY X w a rd (Op.operands (.call ⟨.builtin .cap,#[x],#[Y]⟩))):VOk X w a ⟨d,.call ⟨.builtin .cap,#[x],#[Y]⟩,T,pos,aft,g⟩ (zEe TT Y (rd x)):=by
 cases h1:rd x with
 |none=>trivial
 |some φ =>
  have k1:=H x φ (by simp[Op.operands,Call.operands]) h1
  simp only[zEe];split
  ·trivial
  ·rename_i i hi
   have ht:=(hT Y i hi).ty;split
   ·rename_i e he hn
    rw[ZU he]at ht;rw[mb hn]at k1;have k1:a.eval x=.slice none 0 0:=k1
    exact Xf (zj (by simp[execOp,resolve,invoke,builtin,Builtin.cap_,k1,ht.gf,goInt]))
   ·trivial
def SJ(T:TE)(M:MS)(Y:TypeId)(rd:Operand->Option AV)(φ:Option AV)(l h:Option Operand):VR:=match l,h,φ with
 |none,some h,some φ=>match Mi φ,look T Y,(rd h).bind AV.int? with
  |true,some i,some n=>match slD i.dd with
   |some e=>match look T e with
    |some j=>.par .nil ((sub ([]:List Unit) 0 n.2).bind fun _=>Comp.pure ()) fun _=>.ex (.slice none 0 0)
    |none=>.no
   |none=>.no
  |_,_,_=>.no
 |_,_,_=>.no
theorem Mr{X:Cx}{w:World}{a:Act}{d:Option Tmp}{T Y:TypeId}{pos:String}{aft:Array Edge}{g:Option (Nat×Bool)}{TT:TE}(hT:TOk X.P TT){M:MS}{rd:Operand->Option AV}{x:Operand}{l h:Option Operand}(H:ZY X w a rd (Op.operands (.slice Y x l h none))):VOk X w a ⟨d,.slice Y x l h none,T,pos,aft,g⟩ (SJ TT M Y rd (rd x) l h):=by
 unfold SJ;split
 ·rename_i h φ hφ
  split
  ·rename_i i n hn hi hh
   split
   ·rename_i e he
    split
    ·rename_i j hj
     intro nf y hy;obtain⟨ys,bM,_⟩:=run_bind hy;have ht:=(hT Y i hi).ty
     rw[ZU he]at ht;have k1:=H x φ (by simp[Op.operands]) hφ
     rw[mb hn]at k1;have k1:a.eval x=.slice none 0 0:=k1
     have sQ:ys=[]:=by have:=jh bM;grind
     have hx:(rSl (j.τ.gr X.P)).v X.O w (a.eval x) []:=by grind [uo]
     have hz:(sub ([]:List j.τ.D) 0 n.2).run nf=some []:=by
      obtain⟨hc,_⟩:=jh bM;simp_all [sub,zLz,Comp.pure]
     have hE:=(hT e j hj);by_cases pV:j.τ.sz=j.sz
     ·refine yR (Y4 ht hE.ty (by grind [Ty.yr]) rfl hx (vM H (by simp[Op.operands]) hh) hz) fun w' v hE hv=>?_
      rw[show v=_ from hv,k1];exact rfl
     ·have hx':(rSl (zFb j.sz)).v X.O w (a.eval x) ([]:List Unit):=by grind [uo]
      refine yR (Y4 ht hE.ty rfl rfl hx' (vM H (by simp[Op.operands]) hh) (sQ ▸ bM)) fun w' v hE hv=>?_
      rw[show v=_ from hv,k1];exact rfl
    ·trivial
   ·trivial
  ·trivial
 ·trivial
def Ax(E:VE)(M:MS)(rd:Operand->Option AV)(b:Builtin)(xs:List Operand)(ts:List TypeId):VR:=match b with
 |.len=>match xs,ts with
  | [x],[Y]=>zEZ E.T M Y (rd x)
  |_,_=>.no
 |.cap=>match xs,ts with
  | [x],[Y]=>zEe E.T Y (rd x)
  |_,_=>.no
 |.max=>match xs,ts with
  | [x,y],[_,_]=>vMM true (rd x) (rd y)
  |_,_=>.no
 |.min=>match xs,ts with
  | [x,y],[_,_]=>vMM false (rd x) (rd y)
  |_,_=>.no
 |_=>.no
def zEd:Option AV->VR
 |some (.bx k off)=>.tot (.bx k off)
 |some (.rd (.box e) x)=>.tot (.rd (.box e) x)
 |_=>.no
theorem Us{X:Cx}{w:World}{a:Act}{d:Option Tmp}{T:TypeId}{pos:String}{aft:Array Edge}{g:Option (Nat×Bool)}{rd:Operand->Option AV}{x:Operand}(H:ZY X w a rd (Op.operands (.nilCheck x))):VOk X w a ⟨d,.nilCheck x,T,pos,aft,g⟩ (zEd (rd x)):=by
 unfold zEd;split
 ·rename_i k off h
  obtain⟨h1,b,h2,h3⟩:=H x _ (by simp[Op.operands]) h
  exact fun K Q hK=>pI h3 K Q fun v w' hE hv=>hK v w' hE (by rw[show v=_ from hv];exact⟨h1,b,h2,rfl⟩)
 ·rename_i e y h
  have k1:(KV (e.gr X.P)).v X.O w (a.eval x) y:=H x _ (by simp[Op.operands]) h
  obtain⟨cs,⟨b,cs',T',rfl,h2,h3,h4⟩,h5⟩:=k1;have h6:a.eval x=.pointer (some ⟨b,0,none⟩):=h5
  exact fun K Q hK=>pI h6 K Q fun v w' hE hv=>hK v w' hE (by
   rw[show v=_ from hv]
   exact GR.KD (KV (e.gr X.P)) ⟨_,⟨b,cs',T',rfl,h2,h3,h4⟩,rfl⟩ hE)
 ·trivial
def exB:Option AV->Option Bool
 |some (.ex (.bool b))=>some b
 |_=>none
theorem zED{o:Option AV}{b:Bool}(h:exB o=some b):o=some (.ex (.bool b)):=by
 unfold exB at h;grind
def zAZ(b:Bool)(x y:Option AV):VR:=match b with
 |true=>vOf x
 |false=>vOf y
def rdC(rd:Operand->Option AV):Operand->Option AV
 |.const (.bool b)=>some (.ex (.bool b))
 |x=>rd x
theorem IR{X:Cx}{w:World}{a:Act}{d:Option Tmp}{T:TypeId}{pos:String}{aft:Array Edge}{g:Option (Nat×Bool)}{b:Bool}{c x y:Operand}{rx ry:Option AV}(hc:a.eval c=.bool b)(hx:∀φ,rx=some φ->φ.holds X w (a.eval x))(hy:∀φ,ry=some φ->φ.holds X w (a.eval y)) :
  VOk X w a ⟨d,.pick c x y,T,pos,aft,g⟩ (zAZ b rx ry):=by
 cases b with
 |true =>
  cases rx with
  |none=>trivial
  |some φ=>exact vC (v:=a.eval x) (w':=w) (by simp[execOp,hc,asBool]) (Ext.refl _) (hx _ rfl)
 |false =>
  cases ry with
  |none=>trivial
  |some φ=>exact vC (v:=a.eval y) (w':=w) (by simp[execOp,hc,asBool]) (Ext.refl _) (hy _ rfl)
theorem Q1{X:Cx}{w:World}{a:Act}{rd:Operand->Option AV}{x:Operand}{φ:AV}(h:rdC rd x=some φ)(k:rd x=some φ->φ.holds X w (a.eval x)):φ.holds X w (a.eval x):=by
 unfold rdC at h;split at h
 ·cases h;exact rfl
 ·exact k h
def zEX(E:VE)(M:MS)(rd:Operand->Option AV)(f:FuncId)(xs ys:List Operand):VR:=match E.Q f with
 |none=>zEb rd f xs ys
 |some s=>match xs,jE rd ys with
  | [],some l=>match Xs (l.map (fun φ=>φ.asT E.G M)) s.ps with
   |some x=>.tot (.rd (.seq s.t) (s.sem x))
   |none=>.no
  |_,_=>.no
theorem Ui{X:Cx}{w:World}{a:Act}{E:VE}(hE:E.ok X.P){M:MS}(hM:yE M X w){d:Option Tmp}{T:TypeId}{pos:String}{aft:Array Edge}{g:Option (Nat×Bool)}{rd:Operand->Option AV}{f:FuncId}{xs ys:Array Operand}(H:ZY X w a rd (Op.operands (.makeFunc (.func f) xs ys))) :
  VOk X w a ⟨d,.makeFunc (.func f) xs ys,T,pos,aft,g⟩ (zEX E M rd f xs.toList ys.toList):=by
 unfold zEX;split
 ·exact Uo H
 ·rename_i s hs
  split
  ·rename_i l h1 h2
   split
   ·rename_i x hx
    have sE:xs=#[]:=by
     grind
    subst sE;refine yR (wu rfl rfl) fun w' v fX hv=>?_
    have fA:=jV h2;have fU:s.ps.args X.P X.O w (ys.toList.map a.eval) x:=kg hx (by grind) fun i f v hf hv t y hy=>by
     rw[List.getElem?_map,Option.map_eq_some_iff]at hf hv;obtain⟨ψ,g1,rfl⟩:=hf;obtain⟨z,g2,rfl⟩:=hv;obtain⟨z',g3,g4⟩:=Zh h2 i ψ g1;rw[g2]at g3;cases g3;refine AV.Z7 hE.G hM hy (H z ψ ?_ g4);grind [zLe,Op.operands]
    obtain⟨q1,q2⟩:=hE.Q f s hs;refine AV.ext (.rd (.seq s.t) (s.sem x)) fX ⟨[_],⟨f,ys.toList.map a.eval,rfl,q1,fun O' w2 hO hk n zs hz L J Jx hR=>?_⟩,?_⟩
    ·grind [Ty.wZ]
    ·rw[show v=_ from hv]
     show _=yD false _
     simp only[yD,List.headD_cons,Array.map_empty];rw[<-Array.toList_map]
   ·trivial
  ·trivial
def val(E:VE)(M:MS)(ep:Nat)(L:LS)(R:RS')(g:Gd)(wr:List Nat)(d:Option Tmp)(o:Op):VR:=match o with
 |.move x=>vOf (rdO ep L R g x)
 |.assign x=>vOf (rdO ep L R g x)
 |.pick c x y=>match exB (rdO ep L R g c) with
  |some b=>zAZ b (rdC (rdO ep L R g) x) (rdC (rdO ep L R g) y)
  |none=>match (rdO ep L R g c).bind AV.bool? with
  |some b=>SI E.G M b (rdO ep L R (Cs R c true g) x) (rdO ep L R (Cs R c false g) y)
  |none=>.no
 |.build t ps=>ES E.T (rdO ep L R g) t ps.toList
 |.buildSlice t n ps=>SO E.T E.G M (rdO ep L R g) t n ps.toList
 |.makeSlice Y x y=>SK E.T Y x y ((rdO ep L R g y).bind AV.int?)
 |.load t x=>SN E.T M t (rdO ep L R g x)
 |.nilCheck x=>zEd (rdO ep L R g x)
 |.binOp op X x y _=>match E1 y with
  |true=>zEY E.T M op X (rdO ep L R g x)
  |false=>match zLN E.T X with
  |true=>vEq E.T E.G M op X (rdO ep L R g x) (rdO ep L R g y)
  |false=>zEf E.T op X (rdO ep L R g x) (rdO ep L R g y)
 |.unOp op _ x=>vUn op (rdO ep L R g x)
 |.convert X Y x=>SQ E.T X Y (rdO ep L R g x)
 |.fieldAddr X x f=>zEc E.T M X f (rdO ep L R g x)
 |.indexAddr X x i=>zEa E.T E.G M (D6 d wr) X (rdO ep L R g x) ((rdO ep L R g i).bind AV.int?)
 |.index X x i=>EP E.T E.G M X (rdO ep L R g x) ((rdO ep L R g i).bind AV.int?)
 |.slice X x l h m=>match m with
  |none=>match zKw (rdO ep L R g x) with
   |true=>SJ E.T M X (rdO ep L R g) (rdO ep L R g x) l h
   |false=>EO E.T M X (rdO ep L R g) (rdO ep L R g x) l h
  |some _=>.no
 |.makeFunc f xs ys=>match f with
  |.func f=>zEX E M (rdO ep L R g) f xs.toList ys.toList
  |_=>.no
 |.extract x n=>zHF n (rdO ep L R g x)
 |.lookup X x y c=>SM E.T E.G M X c (rdO ep L R g x) (rdO ep L R g y)
 |.call c=>match c.callee with
  |.value x=>SR E.G M (rdO ep L R g) x c.args.toList
  |.builtin b=>Ax E M (rdO ep L R g) b c.args.toList c.argTypes.toList
  |.invoke _ _=>.no
 |_=>.no
section
variable {X:Cx} {w:World} {a:Act} {E:VE} {M:MS} {L:LS} {R:RS'} {g:Gd} {wr:List Nat}
theorem zKY(o:Oper)(hk:C7 L R X w o a)(hc:vf R g):ZY X w a (rdO X.ep L R g) o.op.operands:=fun x φ hx h=>mV h hx hk hc
theorem vf.app{G H:Gd}(h:vf R G)(k:vf R H):vf R (G++H):=by
 induction G with
 |nil=>exact k
 |cons c G ih=>exact⟨h.1,ih h.2⟩
theorem BW{c:Operand}{b:Bool}(hw:Wf R)(hr:(rdO X.ep L R g c).bind AV.bool?=some b)(hc:vf R g):vf R (Cs R c b g):=by
 cases c with
 |tmp t =>
  simp only[rdO]at hr
  cases hl:YK R t with
  |none=>grind [Cs]
  |some e =>
   rw[hl]at hr;simp only[Cs,hl]at hr |-
   cases hs:Mb e.g g with
   |false=>grind
   |true =>
    rw[hs]at hr;have hb:e.φ.bool?=some b:=hr
    obtain⟨_,h2⟩:=hw.lt hl;refine⟨?_,vf.app (hc.sub hs) hc⟩;grind [Zw,AV.bool]
 |_=>exact hc
theorem KJ(hE:E.ok X.P)(hw:Wf R)(hO:OkO X.O w)(hM:yE M X w)(o:Oper)(hk:C7 L R X w o a)(hc:vf R g):VOk X w a o (val E M X.ep L R g wr o.dst o.op):=by
 have H:=zKY o hk hc;obtain⟨d,op,T,pos,aft,gd⟩:=o;cases op<;>simp only[val]<;>first|exact trivial|skip
 case move x =>
  cases h:rdO X.ep L R g x with
  |none=>trivial
  |some φ=>exact Ms h H
 case assign x =>
  cases h:rdO X.ep L R g x with
  |none=>trivial
  |some φ=>exact DC h H
 case pick c x y =>
  split
  ·rename_i b hb
   have:=H c _ (by simp[Op.operands]) (zED hb)
   exact IR this (fun φ hφ=>Q1 hφ fun h=>H x φ (by simp[Op.operands]) h) (fun φ hφ=>Q1 hφ fun h=>H y φ (by simp[Op.operands]) h)
  split
  ·rename_i b hb
   refine Mq hE.G hM (Jd (X:=X) (w:=w) (φ:=rdB b) (x:=c) ?_ rfl) (fun φ hφ ht=>?_) (fun φ hφ ht=>?_)
   ·cases h:rdO X.ep L R g c with
    |none=>grind
    |some φ =>
     rw[h]at hb;have:=H c φ (by simp[Op.operands]) h
     grind [AV.Zg]
   ·subst ht;exact mV hφ (by simp[Op.operands]) hk (BW hw hb hc)
   ·subst ht;exact mV hφ (by simp[Op.operands]) hk (BW hw hb hc)
  ·trivial
 case build t ps=>exact IW hE.T H
 case buildSlice t n ps=>exact Mw hE.T hE.G hM hO H
 case makeSlice Y x y=>exact Mt hE.T hO H
 case load t x=>exact Mv hE.T hM H
 case nilCheck x=>exact Us H
 case binOp op Y x y Z =>
  split
  ·rename_i hn;obtain rfl:=MF hn;exact Uj hE.T hM H
  split
  ·exact zBJ hE.T hE.G hM H
  ·exact Uu hE.T H
 case unOp op Y x=>exact zBI H
 case convert Y Z x=>exact Mx hE.T H
 case fieldAddr Y x f=>exact Uq hE.T hM H
 case indexAddr Y x i=>exact Un hE.T hE.G hM H
 case index Y x i=>exact IU hE.T hE.G hM H
 case slice Y x l h m =>
  split
  ·split
   ·exact Mr hE.T H
   ·exact IQ hE.T hM H
  ·trivial
 case makeFunc f xs ys =>
  split
  ·grind [Ui]
  ·trivial
 case extract x n=>exact Ur H
 case lookup Y x y c=>exact Mu hE.T hE.G hM H
 case call c =>
  obtain⟨cal,xs,ts⟩:=c;split
  ·rename_i x hx
   simp only at hx;subst hx;exact My hE.G hM hO H
  ·rename_i b hb
   simp only at hb;subst hb;cases b<;>simp only[Ax]<;>first|exact trivial|skip
   case len =>
    split
    ·rename_i x Y h1 h2
     obtain rfl:xs=#[x]:=Array.ext' h1;obtain rfl:ts=#[Y]:=Array.ext' h2;exact Um hE.T hM H
    ·trivial
   case cap =>
    split
    ·rename_i x Y h1 h2
     obtain rfl:xs=#[x]:=Array.ext' h1;obtain rfl:ts=#[Y]:=Array.ext' h2;exact Ut hE.T H
    ·trivial
   case max =>
    split
    ·rename_i x y Y Z h1 h2
     obtain rfl:xs=#[x,y]:=Array.ext' h1;obtain rfl:ts=#[Y,Z]:=Array.ext' h2;exact Ul H
    ·trivial
   case min =>
    split
    ·rename_i x y Y Z h1 h2
     obtain rfl:xs=#[x,y]:=Array.ext' h1;obtain rfl:ts=#[Y,Z]:=Array.ext' h2;exact Uk H
    ·trivial
  ·trivial
end
def gB(b w:Bool):Bool:=match w with
 |true=>b
 |false=>ntB b
def IC(R:RS'):Gd->Bool
 | []=>true
 | [c]=>gB (Zw R c.1) c.2
 |c::G=>adB (gB (Zw R c.1) c.2) (IC R G)
theorem zAv{b w:Bool}(h:b=w):gB b w=true:=by subst h;cases b<;>rfl
theorem CN{R:RS'}:∀ {G:Gd},vf R G->IC R G=true
 | [],_=>rfl
 | [c],h=>zAv h.1
 |c::e::G,h=>by
  have:=CN h.2;have h1:=zAv h.1
  simp_all [IC,adB,Bool.true_and]
def D8{β:Type}(E:VE)(M:MS)(ep:Nat)(L:LS)(n:Nat)(wr:List Nat)(k:List Oper->RS'->LS->Comp β):Nat->Nat->List Oper->RS'->LS->Comp β
 |0,_,os,R,F=>k os R F
 |_+1,_,[],R,F=>k [] R F
 |m+1,i,o::os,R,F=>match o.dst with
  |none=>Comp.fail
  |some d=>match o.guard with
   |none=>match val E M ep L R [] wr (some d) o.op with
    |.no=>Comp.fail
    |.tot φ=>D8 E M ep L n wr k m (i+1) os (⟨i,d,[],φ⟩::R) ((d,n,φ)::F)
    |.par t c mk=>c.bind fun x=>D8 E M ep L n wr k m (i+1) os (⟨i,d,[],mk x⟩::R) ((d,n,mk x)::F)
   |some g=>match atR R g.1 with
    |none=>Comp.fail
    |some e=>match e.φ.bool? with
     |none=>Comp.fail
     |some _=>match val E M ep L R (g::e.g) wr (some d) o.op with
      |.no=>Comp.fail
      |.tot φ=>D8 E M ep L n wr k m (i+1) os (⟨i,d,g::e.g,φ⟩::R) ((d,n,.top)::F)
      |.par t c mk=>(Comp.gd (IC R (g::e.g)) c t.Hl).bind fun x=>D8 E M ep L n wr k m (i+1) os (⟨i,d,g::e.g,mk x⟩::R) ((d,n,.top)::F)
theorem K1{β:Type}{X:Cx}{E:VE}(hE:E.ok X.P){M:MS}{L:LS}{n:Nat}{wr:List Nat}{k:List Oper->RS'->LS->Comp β}{nf:Nat}{y:β}:∀ {m i:Nat} {os:List Oper} {R:RS'} {F:LS},(D8 E M X.ep L n wr k m i os R F).run nf=some y ->
  ∃R' F' tl,RegS X M L n i R F os R' F' tl/\(k tl R' F').run nf=some y
 |0,i,os,R,F,h=>⟨R,F,os,.n,h⟩
 |m+1,i,[],R,F,h=>⟨R,F,[],.n,h⟩
 |m+1,i,o::os,R,F,h=>by
  simp only[D8]at h;split at h
  ·cases h
  ·rename_i d hd
   split at h
   ·rename_i hg
    split at h
    ·cases h
    ·rename_i φ hv
     obtain⟨R',F',tl,h1,h2⟩:=K1 hE h;refine⟨R',F',tl,.c (fun {w a} hw hO hM hk hc=>?_) h1 hd hg,h2⟩
     have:=KJ (wr:=wr) hE hw hO hM o hk hc;rw[hd,hv]at this;exact this
    ·rename_i t c mk hv
     obtain⟨x,hx,h⟩:=run_bind h;obtain⟨R',F',tl,h1,h2⟩:=K1 hE h;refine⟨R',F',tl,.c (fun {w a} hw hO hM hk hc=>?_) h1 hd hg,h2⟩
     have:=KJ (wr:=wr) hE hw hO hM o hk hc;rw[hd,hv]at this;exact this nf x hx
   ·rename_i g hg
    split at h
    ·cases h
    ·rename_i e he
     split at h
     ·cases h
     ·rename_i b hb
      have nM:e.φ.isBool=true:=by grind [AV.isBool]
      split at h
      ·cases h
      ·rename_i φ hv
       obtain⟨R',F',tl,h1,h2⟩:=K1 hE h;refine⟨R',F',tl,.g (g:=g.1) (want:=g.2) (fun hcc {w a} hw hO hM hk hc=>?_) h1 hd hg he nM,h2⟩
       have:=KJ (wr:=wr) hE hw hO hM o hk hc;rw[hd,hv]at this;exact this
      ·rename_i t c mk hv
       obtain⟨x,hx,h⟩:=run_bind h;obtain⟨R',F',tl,h1,h2⟩:=K1 hE h;refine⟨R',F',tl,.g (g:=g.1) (want:=g.2) (fun hcc {w a} hw hO hM hk hc=>?_) h1 hd hg he nM,h2⟩
       have:=KJ (wr:=wr) hE hw hO hM o hk hc;rw[hd,hv]at this;exact this nf x (zBU hx (CN hcc))
structure FrX where
 st:Nat
 sys:Nat->Obj->Prop
 kv:Value->AV->Prop
 sO:zR
 sw:World
 rd:Option Nat
 Lp:Nat
 sb:Nat
 nr:Bool
def FrX.no(st:Nat)(O:zR)(w:World):FrX:=⟨st,fun _ _=>False,fun _ _=>False,O,w,none,0,w.heap.size,false⟩
structure Frm where
 P:Program
 N:Nat
 D:List Deferred
 A:Nat->Prop
 O0:zR
 w0:World
 Lh:Nat->AV->Prop
 fe:Nat
 bl:List Nat
 x:FrX
def Frm.dst(F:Frm)(d:Option Tmp):Prop:=∀t,d=some t->t<F.N/\∀φ,¬F.Lh t φ
abbrev Frm.W(F:Frm)(Q:Exit->Act->World->Prop):OpW:=inW F.x.rd 0 F.P Q
abbrev Frm.wp(F:Frm)(c:Code)(Q:Exit->Act->World->Prop)(a:Act)(w:World):Prop:=c.wpIn (fw F.x.rd) 0 F.P Q a w
def Cw:List Oper->Bool
 | []=>true
 |o::os=>match o.op with
  |.defer _=>false
  |_=>Cw os
theorem qX:∀ {os:List Oper},Cw os=true->∀o∈os,∀c,o.op≠.defer c
 |o'::os,h,o,ho,c,e=>by
  simp only[Cw]at h;rcases zLd.1 ho with rfl|ho
  ·grind
  ·split at h
   ·cases h
   ·exact qX h o ho c e
 | [],_,o,ho,_,_=>by cases ho
def Xq(N:Nat)(os:List Oper):Bool:=zz N os && Cw os
theorem Xw{N:Nat}{os:List Oper}(h:Xq N os=true):zz N os=true:=by simp_all [Xq]
theorem Kw{N:Nat}{os:List Oper}(h:Xq N os=true):∀o∈os,∀c,o.op≠.defer c:=by unfold Xq at h;rw[zLZ]at h;exact qX h.2
theorem Bh{F:Frm}{Q:Exit->Act->World->Prop}{os:List Oper}(h:Xq F.N os=true):∀(i:Nat) o,os[i]?=some o->∀a w K,o.wp F.P a w K (fun _ _ _=>False)->F.W Q o a w K:=fun i o ho a w K hh=>jz (Kw h o (zLe ho)) (Au hh)
def Frm.mark(F:Frm)(b:Nat):Frm:={ F with D:={ target:=.collected b,args:=#[] }::F.D,x:={ F.x with sys:=fun c o=>F.x.sys c o\/(c=b/\o=.deferred (some [])) } }
inductive Frm.To:Frm->Frm->Prop
 |refl (F:Frm):F.To F
 |mark {F F':Frm} (h:F.To F') (b:Nat) (hb:∀o,¬F'.x.sys b o) (hr:F'.x.nr=false):F.To (F'.mark b)
theorem Frm.To.trans{F F' F'':Frm}(h:F.To F')(k:F'.To F''):F.To F'':=by
 induction k with
 |refl=>exact h
 |mark _ b hb hr ih=>exact .mark ih b hb hr
structure Frm.Same(F F':Frm):Prop where
 P:F'.P=F.P
 N:F'.N=F.N
 A:F'.A=F.A
 O0:F'.O0=F.O0
 w0:F'.w0=F.w0
 Lh:F'.Lh=F.Lh
 fe:F'.fe=F.fe
 bl:F'.bl=F.bl
 st:F'.x.st=F.x.st
 kv:F'.x.kv=F.x.kv
 sO:F'.x.sO=F.x.sO
 sw:F'.x.sw=F.x.sw
 rd:F'.x.rd=F.x.rd
 Lp:F'.x.Lp=F.x.Lp
 sb:F'.x.sb=F.x.sb
 nr:F'.x.nr=F.x.nr
theorem Frm.To.same{F F':Frm}(h:F.To F'):F.Same F':=by
 induction h with
 |refl=>exact⟨rfl,rfl,rfl,rfl,rfl,rfl,rfl,rfl,rfl,rfl,rfl,rfl,rfl,rfl,rfl,rfl⟩
 |mark _ b _ _ ih=>exact⟨ih.P,ih.N,ih.A,ih.O0,ih.w0,ih.Lh,ih.fe,ih.bl,ih.st,ih.kv,ih.sO,ih.sw,ih.rd,ih.Lp,ih.sb,ih.nr⟩
theorem Frm.To.nr{F F':Frm}(h:F.To F')(hn:F.x.nr=true):F'=F:=by
 cases h with
 |refl=>rfl
 |mark h b hb hr=>rw[h.same.nr,hn]at hr;cases hr
abbrev nh(b:Nat):Deferred:={ target:=.collected b,args:=#[] }
theorem Frm.To.marks{F F':Frm}(h:F.To F')(hD:F.D=[])(hs:∀b o,¬F.x.sys b o):∃bs:List Nat,F'.D=bs.map nh/\bs.Nodup/\∀b o,F'.x.sys b o↔b∈bs/\o=.deferred (some []):=by
 induction h with
 |refl=>simp_all
 |mark _ b hb _ ih =>
  obtain⟨bs,h1,h2,h3⟩:=ih;refine⟨b::bs,by grind [Frm.mark],List.nodup_cons.2 ⟨fun hm=>hb _ ((h3 b _).2 ⟨hm,rfl⟩),h2⟩,fun c o=>?_⟩
  show _\/_↔_
  grind
structure S where
 L:LS
 M:MS
 n:Nat
 ep:Nat
structure Exx(F:FrX)(X:Cx)(w:World):Prop where
 st:F.st≠0
 sys:∀b o,F.sys b o->(w.heap[b]?=some o/\X.O b=F.st)/\F.sb<=b
 kv:∀v φ,F.kv v φ->φ.ze=false/\φ.holds X w v
 since:zb 0 F.sO F.sw X.O w
 L:X.Lp=F.Lp
theorem Exx.mono{F:FrX}{X X':Cx}{w w':World}(h:Exx F X w)(hX:X.le w X' w')(hk:zb F.st X.O w X'.O w'):Exx F X' w' :=
 ⟨h.st,fun b o hs=>by
  obtain⟨⟨h1,h2⟩,h5⟩:=h.sys b o hs;obtain⟨h3,h4⟩:=hk.2 b (zLy.1 h1).1 h2;grind,fun v φ hv=>⟨(h.kv v φ hv).1,(φ.mono hX fun hf=>by rw[(h.kv v φ hv).1]at hf;cases hf).1 v (h.kv v φ hv).2⟩,h.since.trans hX.k,hX.L.trans h.L⟩
theorem Exx.no{st:Nat}{O:zR}{w:World}{X:Cx}(hs:st≠0)(hO:X.O=O)(hL:X.Lp=0:=by rfl):Exx (FrX.no st O w) X w:=⟨hs,fun _ _ h=>h.elim,fun _ _ h=>h.elim,by rw[hO];exact zb.refl _ _ _,hL⟩
structure RelX(F:Frm)(s:S)(a:Act)(w:World)(X:Cx):Prop where
 P:X.P=F.P
 A:X.A=F.A
 Fn:X.F=Go.Lift.Fr F.w0
 n:X.n=s.n
 ep:X.ep=s.ep
 ok0:OkO F.O0 F.w0
 fit:a.fitD F.N F.D
 base:Base F.A F.O0 F.w0 X.O w
 l:Xt s.L X w a
 m:yE s.M X w
 ln:∀t e,look s.L t=some e->e.1<s.n
 mn:∀k e,look s.M k=some e->e.1<s.n/\k<s.n
 inj:∀k k' e e',look s.M k=some e->look s.M k'=some e'->e.2.own=true->e'.2.own=true->X.ι k=X.ι k'->k=k'
 pos:∀k e,look s.M k=some e->e.2.own=true->X.ι k≠0/\X.ι k≠F.x.st
 epn:s.ep<=s.n
 fe:F.fe<s.n
 lh:∀t φ,F.Lh t φ->(φ.ze=true->s.ep<=F.fe)->φ.holds X w (a.get t)
 bl:F.bl.length<=s.n/\∀(j:Nat) b,F.bl[j]?=some b->X.U j=.pointer (some ⟨b,0,none⟩)
 ex:Exx F.x X w
def Rel(F:Frm)(s:S)(a:Act)(w:World):Prop:=∃X,RelX F s a w X
def S.put(s:S)(d:Option Tmp)(φ:AV):S:=match d with
 |some d=>{ s with L:=(d,s.n,φ)::s.L,n:=s.n+1 }
 |none=>{ s with n:=s.n+1 }
theorem zC{α:Type}{k:Nat}{x:α}{l:List (Nat×α)}{t:Nat}{e:α}(h:look ((k,x)::l) t=some e):(k=t/\x=e)\/(k≠t/\look l t=some e):=by
 simp only[look]at h
 cases hb:Nat.beq k t with
 |true=>simp_all
 |false =>
  grind [zU]
theorem RelX.go{F:Frm}{s:S}{a:Act}{w:World}{X:Cx}(h:RelX F s a w X){a':Act}{w':World}{X':Cx}{s':S}(fL:a'.fitD F.N F.D)(hP:X'.P=X.P)(hA:X'.A=X.A)(hF:X'.F=X.F)(cO:∀k,k=0\/k=F.x.st->zb k X.O w X'.O w')(hU:∀k,k<s.n->X'.U k=X.U k)(hn:X'.n=s'.n)(xI:X'.ep=s'.ep)(fG:s.n<=s'.n)(hepn:s'.ep<=s'.n)
  (hB:Base F.A F.O0 F.w0 X'.O w') (hx:s'.ep<=F.fe->s.ep<=F.fe/\Ext w w') (hg:∀t φ,F.Lh t φ->a'.get t=a.get t)
  (hL:∀t e,look s'.L t=some e->(e.1<s'.n/\(fresh s'.ep e=true->e.2.holds X' w' (a'.get t)))\/(look s.L t=some e/\a'.get t=a.get t/\(e.2.ze=true->fresh s'.ep e=true->fresh s.ep e=true/\Ext w w')))
  (hM:∀k e,look s'.M k=some e->(e.1<s'.n/\k<s'.n/\e.2.holds X' w' k)\/(look s.M k=some e/\X'.ι k=X.ι k/\(e.2.own=true->zb (X.ι k) X.O w X'.O w')))
  (c7:∀k k' e e',look s'.M k=some e->look s'.M k'=some e'->e.2.own=true->e'.2.own=true->X'.ι k=X'.ι k'->k=k')
  (t7:∀k e,look s'.M k=some e->e.2.own=true->X'.ι k≠0/\X'.ι k≠F.x.st) (hLp:X'.Lp=X.Lp:=by rfl):RelX F s' a' w' X':=by
 have sN:=cO 0 (.inl rfl);have hX:X.le w X' w':=⟨hP,sN,fun k hk=>hU k (by rw[<-h.n];exact hk),by rw[h.n,hn];exact fG,hLp⟩
 refine⟨hP.trans h.P,hA.trans h.A,hF.trans h.Fn,hn,xI,h.ok0,fL,hB,fun t e he hf=>?_,fun k e he=>?_,fun t e he=>?_,fun k e he=>?_,c7,t7,hepn,zLm h.fe fG,fun t φ hp hf=>by rw[hg t φ hp];exact(φ.mono hX fun f8=>(hx (hf f8)).2).1 _ (h.lh t φ hp fun f8=>(hx (hf f8)).1),⟨zLg h.bl.1 fG,fun j b hj=>(hU j (zLm (zLf.1 hj).1 h.bl.1)).trans (h.bl.2 j b hj)⟩,h.ex.mono hX (cO _ (.inr rfl))⟩
 ·rw[xI]at hf
  rcases hL t e he with h1|⟨h1,h2,h3⟩
  ·grind
  ·rw[h2]
   refine(e.2.mono hX fun f8=>(h3 f8 hf).2).1 _ (h.l t e h1 ?_)
   rw[h.ep];grind [fresh]
 ·rcases hM k e he with h1|⟨h1,h2,h3⟩
  ·grind
  ·exact MV.le hX (by rw[h.n];exact(h.mn k e h1).2) h2 hA hF _ h3 (h.m k e h1)
 ·rcases hL t e he with h1|h1
  ·omega
  ·exact zLm (h.ln t e h1.1) fG
 ·rcases hM k e he with h1|h1
  ·omega
  ·have:=h.mn k e h1.1;omega
theorem jO{a:Act}{d:Option Tmp}{v:Value}{t:Nat}(h:d≠some t):(a.put d v).get t=a.get t:=by
 cases d with
 |none=>rfl
 |some d=>grind [vk]
theorem RelX.val{F:Frm}{s:S}{a:Act}{w w':World}{X:Cx}(h:RelX F s a w X)(hE:Ext w w'){d:Option Tmp}(hd:F.dst d){v:Value}{φ:AV}(hv:φ.holds X w' v):RelX F (s.put d φ) (a.put d v) w' { X with n:=s.n+1 }:=by
 have dX:(s.put d φ).n=s.n+1:=by cases d<;>rfl
 have hse:(s.put d φ).ep=s.ep:=by cases d<;>rfl
 have hsM:(s.put d φ).M=s.M:=by cases d<;>rfl
 have hX:X.le w' { X with n:=s.n+1 } w':=⟨rfl,zb.refl _ _ _,fun _ _=>rfl,by rw[h.n];grind,rfl⟩
 refine h.go (ZS h.fit d v) rfl rfl rfl (fun _ _=>zb.ext hE) (fun _ _=>rfl) dX.symm (by rw[hse];exact h.ep) (by omega) (by rw[hse,dX];have:=h.epn;omega) (h.base.step hE h.ok0) (fun hf=>⟨by omega,hE⟩) (fun t φ hp=>jO fun e=>(hd _ e).2 φ hp) (fun t e he=>?_) (fun k e he=>?_) ?_ ?_
 ·cases d with
  |none =>
   exact .inr ⟨he,rfl,fun _ hf=>⟨hf,hE⟩⟩
  |some d =>
   rcases zC he with ⟨h1,h2⟩|⟨h1,h2⟩
   ·subst h1 h2
    refine .inl ⟨zLl _,fun _=>?_⟩
    rw[yZ h.fit (hd d rfl).1];exact(φ.mono hX fun _=>Ext.refl _).1 _ hv
   grind [vk]
 ·rw[hsM]at he
  exact .inr ⟨he,rfl,fun _=>zb.ext hE⟩
 ·rw[hsM];exact h.inj
 ·rw[hsM];exact h.pos
theorem RelX.okO{F:Frm}{s:S}{a:Act}{w:World}{X:Cx}(h:RelX F s a w X):OkO X.O w:=h.base.ok
theorem RelX.mnX{F:Frm}{s:S}{a:Act}{w:World}{X:Cx}(h:RelX F s a w X):∀k e,look s.M k=some e->k<X.n:=fun k e he=>by rw[h.n];exact(h.mn k e he).2
theorem MC{s:S}{F:LS}{all:List Oper}{n:Nat}{cs:List Bool}{R:RS'}(h:RG all s.L n cs R F){t:Nat}{e:Nat×AV}(he:look F t=some e):e.1=n\/look s.L t=some e:=by
 rcases h.f t e he with h1|h1
 ·omega
 grind
theorem pO{α:Type}{n k:Nat}{x:α}{l l0:List (Nat×Nat×α)}(h:∀t e,look l t=some e->e.1<n->look l0 t=some e):∀t e,look ((k,n,x)::l) t=some e->e.1<n->look l0 t=some e:=fun t e he hl=>by
 rcases zC he with ⟨h1,h2⟩|⟨h1,h2⟩
 ·grind
 grind
theorem RegS.inv{X:Cx}{M:MS}{L:LS}{n i:Nat}{R F os R' F' tl}(h:RegS X M L n i R F os R' F' tl):∀t e,look F' t=some e->e.1<n->look F t=some e:=by
 induction h with
 |n=>grind
 |c _ _ _ _ ih=>grind [pO]
 |g _ _ _ _ _ _ ih=>grind [pO]
theorem DZ{F:Frm}(fC:∀t φ,¬F.Lh t φ){E:VE}(hE:E.ok F.P){s:S}{a:Act}{w:World}(hR:Rel F s a w){os:List Oper}{id m nf:Nat}{draw:Bool}{wr:List Nat}{y:β}{k:List Oper->RS'->LS->Comp β}{Q:Exit->Act->World->Prop}(hm:draw=true->F.P.follows .mixedOrders=true)
  (kA:Xq F.N os=true) (h:(D8 E s.M s.ep s.L s.n wr k m 0 os [] s.L).run nf=some y)
  (hk:∀tl R' F',(∀t e,look F' t=some e->e.1<s.n->look s.L t=some e)->(k tl R' F').run nf=some y->tl.all (fun o=>o.guard.isNone)=true/\(draw=true->X4 os R'.length=true) /\
   ∀a' w',Rel F { s with L:=F',n:=s.n+1 } a' w'->(∀o∈tl,o∈os)->vt (F.W Q) os.toArray (Q .normal) tl a' w'):F.wp (Code.region id os.toArray draw) Q a w:=by
 obtain⟨X,hX⟩:=hR;rw[<-hX.P]at hE;rw[<-hX.ep]at h;obtain⟨R',F',tl,hr,fI⟩:=K1 hE h;obtain⟨ht,bT,hQ⟩:=hk tl R' F' hr.inv fI;obtain⟨h1,⟨φs,e2,h2⟩,h3⟩:=RegS.zKv (Φ:=phi X R') (Xw kA) hX.okO hX.mnX hX.m hX.l hr rfl rfl (fun j=>by simp) (RG.start _)
 obtain rfl:φs=phi X R':=by rw[e2];rfl
 have xT:=h2.drop.2;have hg:ZM os (phi X R')=true:=by
  unfold ZM;rw[zME];intro o ho;obtain⟨j,hj⟩:=List.mem_iff_getElem?.1 ho;by_cases gF:j<R'.length
  ·cases xQ:o.guard with
   |none=>rfl
   |some p =>
    obtain⟨g,want⟩:=p;obtain⟨e,k1,k2⟩:=h3 j o g want (Nat.zero_le _) gF hj xQ;obtain⟨_,_,k3⟩:=h1.wf.at (X:=X) k1;grind [AV.DQ]
  ·have:o∈tl:=by
    rw[<-xT,List.mem_iff_getElem?];exact⟨j-R'.length,by grind [uu]⟩
   grind
 have sT:∀o∈tl,o∈os:=fun o ho=>by grind
 have fin:∀a' w',a'.fitD F.N F.D->Ext w w'->(∀t,XQ os (phi X R') a (phi X R').length t w' (a'.get t))->vt (F.W Q) os.toArray (Q .normal) tl a' w':=by
  intro a' w' hfit' fX hK;refine hQ a' w' ⟨{ X with n:=s.n+1 },?_⟩ sT;rw[uu]at hK;have hkn:=h1.Xz rfl fX hX.l hK
  have hXle:X.le w' { X with n:=s.n+1 } w':=⟨rfl,zb.refl _ _ _,fun _ _=>rfl,by rw[hX.n];grind,rfl⟩
  refine hX.go hfit' rfl rfl rfl (fun _ _=>zb.ext fX) (fun _ _=>rfl) rfl hX.ep (zLk _) (Nat.le_succ_of_le hX.epn) (hX.base.step fX hX.ok0) (fun hf=>⟨hf,fX⟩) (fun t φ hp=>zLp hp (fC t φ)) (fun t e he=>.inl ⟨?_,fun hf=>?_⟩) (fun k e he=>.inr ⟨he,rfl,fun _=>zb.ext fX⟩) hX.inj hX.pos
  ·rcases MC (s:=s) h1 he with h5|h5
   ·grind
   ·exact Nat.lt_succ_of_lt (hX.ln t e h5)
  ·exact(e.2.mono hXle fun _=>Ext.refl _).1 _ (hkn t e he (by rw[hX.ep];exact hf))
 rw[hX.P]at h2;exact Jr hm (NY Kj (Bh kA) (phi X R') hX.fit h2 (Xw kA) (fun e=>by grind [uu]) hg fin)
def q7{α:Type}(f:Nat->α)(k:Nat)(v:α):Nat->α:=fun j=>if j=k then v else f j
theorem gW{α:Type}(f:Nat->α)(k:Nat)(v:α):q7 f k v k=v:=by simp[q7]
theorem XC{α:Type}(f:Nat->α){k j:Nat}(v:α)(h:j≠k):q7 f k v j=f j:=by simp[q7,h]
theorem ZK{α:Type}:∀ {l:List (Nat×α)} {t:Nat} {e:α},look l t=some e->(t,e)∈l
 | [],t,e,h=>by cases h
 |(k,x)::l,t,e,h=>by
  rcases zC h with ⟨h1,h2⟩|⟨_,h2⟩
  ·grind
  ·exact zLj _ (ZK h2)
theorem uG:∀ {l:List Nat} {x:Nat},x∈l->x<=l.sum
 |y::l,x,h=>by
  rcases zLd.1 h with rfl|h
  ·simp
  ·have:=uG h;grind
theorem ZN(ι:Nat->Nat)(M:MS)(st:Nat):∃τ,(τ≠0/\τ≠st)/\∀k e,look M k=some e->ι k≠τ:=by
 refine⟨1+st+(M.map fun e=>ι e.1).sum,⟨by omega,by omega⟩,fun k e h=>?_⟩
 have:=uG (l:=M.map fun e=>ι e.1) (x:=ι k) (List.mem_map.2 ⟨_,ZK h,rfl⟩)
 omega
def S.obj(s:S)(d:Option Tmp)(mv:MV)(φ:AV):S:=match d with
 |some d=>{ L:=(d,s.n,φ)::s.L,M:=(s.n,s.n,mv)::s.M,n:=s.n+1,ep:=s.ep }
 |none=>{ L:=s.L,M:=(s.n,s.n,mv)::s.M,n:=s.n+1,ep:=s.ep }
def S.KW(s:S)(d:Option Tmp)(mv:MV)(φ:AV):S:=match d with
 |some d=>{ L:=(d,s.n,φ)::s.L,M:=(s.n,s.n,mv)::s.M,n:=s.n+1,ep:=s.n }
 |none=>{ L:=s.L,M:=(s.n,s.n,mv)::s.M,n:=s.n+1,ep:=s.n }
def S.mod(s:S)(k:Nat)(mv:MV):S:={ L:=s.L,M:=(k,s.n,mv)::s.M,n:=s.n+1,ep:=s.n }
def S.ren(s:S)(d:Option Tmp)(k:Nat)(mv:MV):S:=match d with
 |some d=>{ L:=(d,s.n,.ob s.n)::s.L,M:=(s.n,s.n,mv)::(k,s.n,.dead)::s.M,n:=s.n+1,ep:=s.n }
 |none=>{ L:=s.L,M:=(s.n,s.n,mv)::(k,s.n,.dead)::s.M,n:=s.n+1,ep:=s.n }
def S.Cg(s:S)(k:Nat):S:=match look s.M k with
 |some (_,.sl true t _ xs)=>{ L:=s.L,M:=(k,s.n,.fs t xs)::s.M,n:=s.n+1,ep:=s.ep }
 |some (_,.mp true a b xs)=>{ L:=s.L,M:=(k,s.n,.fm a b xs)::s.M,n:=s.n+1,ep:=s.ep }
 |_=>s
def S.Jy(s:S):List Nat->S
 | []=>s
 |k::l=>(s.Cg k).Jy l
structure Inv(s s':S):Prop where
 le:s.n<=s'.n
 l:∀t e,look s'.L t=some e->e.1<s.n->look s.L t=some e
 m:∀k e,look s'.M k=some e->e.1<s.n->look s.M k=some e
theorem Inv.refl(s:S):Inv s s:=⟨zLb _,fun _ _ h _=>h,fun _ _ h _=>h⟩
theorem Inv.trans{s s' s'':S}(h:Inv s s')(k:Inv s' s''):Inv s s'' :=
 ⟨zLg h.le k.le,fun t e he hl=>h.l t e (k.l t e he (zLm hl h.le)) hl,fun t e he hl=>h.m t e (k.m t e he (zLm hl h.le)) hl⟩
theorem vd{α:Type}{n k:Nat}{x:α}{l l0:List (Nat×Nat×α)}(h:∀t e,look l t=some e->e.1<n->look l0 t=some e):∀t e,look ((k,n,x)::l) t=some e->e.1<n->look l0 t=some e:=fun t e he hl=>by
 rcases zC he with ⟨h1,h2⟩|⟨h1,h2⟩
 ·grind
 grind
theorem yc{α:Type}{n:Nat}{l0:List (Nat×Nat×α)}:∀t e,look l0 t=some e->e.1<n->look l0 t=some e:=fun _ _ h _=>h
theorem Inv.put(s:S)(d:Option Tmp)(φ:AV):Inv s (s.put d φ):=by
 cases d
 ·exact⟨zLk _,yc,yc⟩
 ·exact⟨zLk _,vd yc,yc⟩
theorem Inv.obj(s:S)(d:Option Tmp)(mv:MV)(φ:AV):Inv s (s.obj d mv φ):=by
 cases d
 ·exact⟨zLk _,yc,vd yc⟩
 ·exact⟨zLk _,vd yc,vd yc⟩
theorem Inv.KW(s:S)(d:Option Tmp)(mv:MV)(φ:AV):Inv s (s.KW d mv φ):=by
 cases d
 ·exact⟨zLk _,yc,vd yc⟩
 ·exact⟨zLk _,vd yc,vd yc⟩
theorem Inv.mod(s:S)(k:Nat)(mv:MV):Inv s (s.mod k mv):=⟨zLk _,yc,vd yc⟩
theorem Inv.ren(s:S)(d:Option Tmp)(k:Nat)(mv:MV):Inv s (s.ren d k mv):=by
 cases d
 ·exact⟨zLk _,yc,vd (vd yc)⟩
 ·exact⟨zLk _,vd yc,vd (vd yc)⟩
section
variable {F:Frm} {s:S} {a:Act} {w w':World} {X:Cx}
theorem RelX.zHT(h:RelX F s a w X)(hE:Ext w w'){d:Option Tmp}(hd:F.dst d){v u:Value}{mv:MV}{φ:AV}{O':zR}{τ:Nat}(hB:Base F.A F.O0 F.w0 O' w')(hk:KX none X.O w O' w')(b9:τ≠0/\τ≠F.x.st)(hτ:∀k e,look s.M k=some e->X.ι k≠τ)
  (hv:∀X':Cx,X'.P=X.P->X'.A=X.A->X'.F=X.F->X'.O=O'->X'.n=s.n+1->(∀k,k<s.n->X'.U k=X.U k)->X'.U s.n=u->X'.ι s.n=τ->X.le w X' w'->φ.holds X' w' v/\mv.holds X' w' s.n):∃X':Cx,RelX F (s.obj d mv φ) (a.put d v) w' X'/\X'.P=X.P/\X'.O=O'/\X'.U s.n=u/\(∀k,k≠s.n->X'.ι k=X.ι k)/\X'.ι s.n=τ/\X.le w X' w'/\X'.n=s.n+1:=by
 have h0:zb 0 X.O w O' w':=hk.keep (by simp)
 let X':Cx:={ X with O:=O',U:=q7 X.U s.n u,ι:=q7 X.ι s.n τ,n:=s.n+1 }
 have hU:∀k,k<s.n->X'.U k=X.U k:=fun k hk=>XC _ _ (by omega)
 have hι:∀k,k≠s.n->X'.ι k=X.ι k:=fun k hk=>XC _ _ hk
 have bN:X'.ι s.n=τ:=gW _ _ _;have fG:X.le w X' w':=⟨rfl,h0,fun k hk=>hU k (by rw[<-h.n];exact hk),by rw[h.n];grind,rfl⟩
 obtain⟨v1,v2⟩:=hv X' rfl rfl rfl rfl rfl hU (gW _ _ _) (gW _ _ _) fG;have hM:(s.obj d mv φ).M=(s.n,s.n,mv)::s.M:=by cases d<;>rfl
 have hn:(s.obj d mv φ).n=s.n+1:=by cases d<;>rfl
 have xI:(s.obj d mv φ).ep=s.ep:=by cases d<;>rfl
 refine⟨X',?_,rfl,rfl,gW _ _ _,hι,bN,fG,rfl⟩;refine h.go (ZS h.fit d v) rfl rfl rfl (fun _ _=>hk.keep (by simp)) hU hn.symm (by rw[xI];exact h.ep) (by omega) (by rw[xI,hn];have:=h.epn;omega) hB (fun hf=>⟨by omega,hE⟩) (fun t φ hp=>jO fun e=>(hd _ e).2 φ hp) (fun t e he=>?_) (fun k e he=>?_) (fun k k' e e' he he' ho ho' fV=>?_) (fun k e he ho=>?_)
 ·cases d with
  |none=>exact .inr ⟨he,rfl,fun _ hf=>⟨hf,hE⟩⟩
  |some d =>
   rcases zC he with ⟨h1,h2⟩|⟨h1,h2⟩
   ·subst h1 h2
    exact .inl ⟨zLl _,fun _=>by rw[yZ h.fit (hd d rfl).1];exact v1⟩
   grind [vk]
 ·rw[hM]at he
  rcases zC he with ⟨h1,h2⟩|⟨h1,h2⟩
  ·grind
  ·have:=(h.mn k e h2).2
   exact .inr ⟨h2,hι k (by omega),fun _=>hk.keep (by simp)⟩
 ·rw[hM]at he he'
  rcases zC he with ⟨h1,h2⟩|⟨h1,h2⟩<;>rcases zC he' with ⟨h3,h4⟩|⟨h3,h4⟩
  ·omega
  ·grind
  ·grind
  ·rw[hι k (Ne.symm h1),hι k' (Ne.symm h3)]at fV
   exact h.inj k k' e e' h2 h4 ho ho' fV
 ·rw[hM]at he
  rcases zC he with ⟨h1,h2⟩|⟨h1,h2⟩
  ·grind
  ·rw[hι k (Ne.symm h1)];exact h.pos k e h2 ho
theorem RelX.obj(h:RelX F s a w X)(hE:Ext w w'){d:Option Tmp}(hd:F.dst d){v u:Value}{mv:MV}{φ:AV}{O':zR}{τ:Nat}(hB:Base F.A F.O0 F.w0 O' w')(hk:KX none X.O w O' w')(b9:τ≠0/\τ≠F.x.st)(hτ:∀k e,look s.M k=some e->X.ι k≠τ)
  (hv:∀X':Cx,X'.P=X.P->X'.A=X.A->X'.F=X.F->X'.O=O'->X'.n=s.n+1->(∀k,k<s.n->X'.U k=X.U k)->X'.U s.n=u->X'.ι s.n=τ->X.le w X' w'->φ.holds X' w' v/\mv.holds X' w' s.n):Rel F (s.obj d mv φ) (a.put d v) w' :=
 let ⟨X',h',_⟩:=h.zHT hE hd hB hk b9 hτ hv
 ⟨X',h'⟩
theorem RelX.KW(h:RelX F s a w X){d:Option Tmp}(hd:F.dst d){v u:Value}{mv:MV}{φ:AV}{O':zR}{τ:Nat}(hB:Base F.A F.O0 F.w0 O' w')(hk:KX (some τ) X.O w O' w')(b9:τ≠0/\τ≠F.x.st)(hτ:∀k e,look s.M k=some e->X.ι k≠τ)
  (hv:∀X':Cx,X'.P=X.P->X'.A=X.A->X'.F=X.F->X'.O=O'->X'.n=s.n+1->(∀k,k<s.n->X'.U k=X.U k)->X'.U s.n=u->X'.ι s.n=τ->X.le w X' w'->φ.holds X' w' v/\mv.holds X' w' s.n):Rel F (s.KW d mv φ) (a.put d v) w':=by
 have h0:zb 0 X.O w O' w':=hk.keep (by grind)
 let X':Cx:={ X with O:=O',U:=q7 X.U s.n u,ι:=q7 X.ι s.n τ,n:=s.n+1,ep:=s.n }
 have hU:∀k,k<s.n->X'.U k=X.U k:=fun k hk=>XC _ _ (by omega)
 have hι:∀k,k≠s.n->X'.ι k=X.ι k:=fun k hk=>XC _ _ hk
 have bN:X'.ι s.n=τ:=gW _ _ _;have fG:X.le w X' w':=⟨rfl,h0,fun k hk=>hU k (by rw[<-h.n];exact hk),by rw[h.n];grind,rfl⟩
 obtain⟨v1,v2⟩:=hv X' rfl rfl rfl rfl rfl hU (gW _ _ _) (gW _ _ _) fG;have hM:(s.KW d mv φ).M=(s.n,s.n,mv)::s.M:=by cases d<;>rfl
 have hn:(s.KW d mv φ).n=s.n+1:=by cases d<;>rfl
 have xI:(s.KW d mv φ).ep=s.n:=by cases d<;>rfl
 refine⟨X',h.go (ZS h.fit d v) rfl rfl rfl (fun j hj=>hk.keep (by grind)) hU hn.symm xI.symm (by omega) (by omega) hB (fun hf=>zLp (by omega:s.n<=F.fe) (Nat.not_le.2 h.fe)) (fun t φ hp=>jO fun e=>(hd _ e).2 φ hp) (fun t e he=>?_) (fun k e he=>?_) (fun k k' e e' he he' ho ho' fV=>?_) (fun k e he ho=>?_)⟩
 ·cases d with
  |none =>
   refine .inr ⟨he,rfl,fun f8 hf=>?_⟩
   have:=h.ln t e he;simp only[fresh,f8,Bool.not_true,Bool.false_or]at hf;rw[jj]at hf;grind
  |some d =>
   rcases zC he with ⟨h1,h2⟩|⟨h1,h2⟩
   ·subst h1 h2
    exact .inl ⟨zLl _,fun _=>by rw[yZ h.fit (hd d rfl).1];exact v1⟩
   ·refine .inr ⟨h2,vk h1 v,fun f8 hf=>?_⟩
    have:=h.ln t e h2;simp only[fresh,f8,Bool.not_true,Bool.false_or]at hf;rw[jj]at hf;grind
 ·rw[hM]at he
  rcases zC he with ⟨h1,h2⟩|⟨h1,h2⟩
  ·grind
  ·have:=(h.mn k e h2).2
   exact .inr ⟨h2,hι k (by omega),fun _=>hk.keep (by grind)⟩
 ·rw[hM]at he he'
  rcases zC he with ⟨h1,h2⟩|⟨h1,h2⟩<;>rcases zC he' with ⟨h3,h4⟩|⟨h3,h4⟩
  ·omega
  ·grind
  ·grind
  ·rw[hι k (Ne.symm h1),hι k' (Ne.symm h3)]at fV
   exact h.inj k k' e e' h2 h4 ho ho' fV
 ·rw[hM]at he
  rcases zC he with ⟨h1,h2⟩|⟨h1,h2⟩
  ·grind
  ·rw[hι k (Ne.symm h1)];exact h.pos k e h2 ho
theorem zo.zIA{k:Nat}{r:GR α}{T:Nat}{B B':Nat->Prop}{O w u}{xs:List α}(h:zo k r T B O w u xs)(hB:∀g,B g->B' g):zo k r T B' O w u xs:=by
 obtain⟨vs,h1,h2,h3⟩:=h;exact⟨vs,h1,h2,fun g hg=>⟨(h3 g hg).1,hB g (h3 g hg).2⟩⟩
theorem RelX.Cy(h:RelX F s a w X)(hE:Ext w w'){d:Option Tmp}(hd:F.dst d){v u:Value}{t:Ty}{T:TypeId}{xs:List t.D}{φ:AV}(hu:Zo (t.gr X.P) T w.heap.size X.O w' u xs)
  (hφ:∀X':Cx,X'.P=X.P->X.le w X' w'->X'.U s.n=u->s.n<X'.n->u.oneCell'=true->φ.holds X' w' v):Rel F (s.obj d (.sl true t T xs) φ) (a.put d v) w':=by
 obtain⟨τ,h0,h1⟩:=ZN X.ι s.M F.x.st;obtain⟨O',hB',hk,hO⟩:=zBc h.ok0 h.base hE hu rfl τ h0.1;refine h.obj hE hd (u:=u) hB' hk h0 h1 fun X' e1 e2 e3 e4 e5 e6 e7 e8 fG=>⟨hφ X' e1 fG e7 (by omega) ?_,?_⟩
 ·exact ZQ hO
 ·show zo _ _ _ _ _ _ _ _
  rw[e7,e8,e1,e4];show zo _ _ _ (X'.F) _ _ _ _
  rw[e3,h.Fn];exact hO
theorem RelX.zAp(h:RelX F s a w X)(hE:Ext w w'){d:Option Tmp}(hd:F.dst d){v:Value}{T:TypeId}{cs:Array Value}{c:AV}(hv:(SP.box w.heap.size cs T).holds w' v)(hc:(c.sem X w).c cs.toList)(hf:c.ze=false):Rel F (s.obj d (.bx true c T) (.bx s.n 0)) (a.put d v) w':=by
 obtain⟨τ,h0,h1⟩:=ZN X.ι s.M F.x.st;obtain⟨O',b,hB',hk,hb,hO⟩:=zEQ h.ok0 h.base hE hv τ h0.1;refine h.obj hE hd (u:=v) hB' hk h0 h1 fun X' e1 e2 e3 e4 e5 e6 e7 e8 fG=>⟨?_,?_⟩
 ·exact⟨by omega,b,by grind,hb⟩
 ·refine⟨b,cs,by grind,?_,(c.mono fG fun h=>by omega).2.2 _ hc,hf⟩
  rw[e8,e4];show OwnB _ X'.F _ _ _ _ _
  rw[e3,h.Fn];exact hO
theorem RelX.mod(h:RelX F s a w X){k:Nat}{e0:Nat×MV}(xH:look s.M k=some e0)(c8:e0.2.own=true){mv:MV}{O':zR}(hB:Base F.A F.O0 F.w0 O' w')(hk:KX (some (X.ι k)) X.O w O' w')
  (hv:∀X':Cx,X'.P=X.P->X'.A=X.A->X'.F=X.F->X'.O=O'->X'.U=X.U->X'.ι=X.ι->X.le w X' w'->mv.holds X' w' k):Rel F (s.mod k mv) a w':=by
 have hp:=h.pos k e0 xH c8;have h0:zb 0 X.O w O' w':=hk.keep (by grind)
 let X':Cx:={ X with O:=O',n:=s.n+1,ep:=s.n }
 have fG:X.le w X' w':=⟨rfl,h0,fun _ _=>rfl,by rw[h.n];grind,rfl⟩
 have gF:=(h.mn k e0 xH).2;refine⟨X',h.go h.fit rfl rfl rfl (fun j hj=>hk.keep (by grind)) (fun _ _=>rfl) rfl rfl (zLk _) (zLk _) hB (fun hf=>zLp (hf:s.n<=F.fe) (Nat.not_le.2 h.fe)) (fun _ _ _=>rfl) (fun t e he=>.inr ⟨he,rfl,fun f8 hf=>?_⟩) (fun k' e he=>?_) (fun j k' e e' he he' ho ho' fV=>?_) (fun k' e he ho=>?_)⟩
 ·have:=h.ln t e he
  simp only[fresh,f8,Bool.not_true,Bool.false_or]at hf;rw[jj]at hf;have hf':s.n<=e.1:=of_decide_eq_true hf
  omega
 ·rcases zC he with ⟨h1,h2⟩|⟨h1,h2⟩
  ·subst h1 h2;exact .inl ⟨zLl _,Nat.lt_succ_of_lt gF,hv X' rfl rfl rfl rfl rfl rfl fG⟩
  ·refine .inr ⟨h2,rfl,fun ho=>hk.keep ?_⟩
   intro e1;simp only[zLw]at e1;exact h1 (h.inj k k' e0 e xH h2 c8 ho e1.symm)
 ·rcases zC he with ⟨h1,h2⟩|⟨h1,h2⟩<;>rcases zC he' with ⟨h3,h4⟩|⟨h3,h4⟩
  ·omega
  ·subst h1;exact h.inj _ k' e0 e' xH h4 c8 ho' fV
  ·subst h3;exact h.inj j _ e e0 h2 xH ho c8 fV
  ·exact h.inj j k' e e' h2 h4 ho ho' fV
 ·rcases zC he with ⟨h1,h2⟩|⟨h1,h2⟩
  ·grind
  ·exact h.pos k' e h2 ho
theorem RelX.ren(h:RelX F s a w X){d:Option Tmp}(hd:F.dst d){u:Value}{k:Nat}{e0:Nat×MV}(xH:look s.M k=some e0)(c8:e0.2.own=true){mv:MV}{O':zR}(hB:Base F.A F.O0 F.w0 O' w')(hk:KX (some (X.ι k)) X.O w O' w')(h1u:u.oneCell'=true)
  (hv:∀X':Cx,X'.P=X.P->X'.A=X.A->X'.F=X.F->X'.O=O'->X'.U s.n=u->X'.ι s.n=X.ι k->X.le w X' w'->mv.holds X' w' s.n):Rel F (s.ren d k mv) (a.put d u) w':=by
 have hp:=h.pos k e0 xH c8;have h0:zb 0 X.O w O' w':=hk.keep (by grind)
 let X':Cx:={ X with O:=O',U:=q7 X.U s.n u,ι:=q7 X.ι s.n (X.ι k),n:=s.n+1,ep:=s.n }
 have hU:∀k,k<s.n->X'.U k=X.U k:=fun k hk=>XC _ _ (by omega)
 have hι:∀k,k≠s.n->X'.ι k=X.ι k:=fun k hk=>XC _ _ hk
 have bN:X'.ι s.n=X.ι k:=gW _ _ _;have fG:X.le w X' w':=⟨rfl,h0,fun k hk=>hU k (by rw[<-h.n];exact hk),by rw[h.n];grind,rfl⟩
 have gF:=(h.mn k e0 xH).2;have hM:(s.ren d k mv).M=(s.n,s.n,mv)::(k,s.n,.dead)::s.M:=by cases d<;>rfl
 have hn:(s.ren d k mv).n=s.n+1:=by cases d<;>rfl
 have xI:(s.ren d k mv).ep=s.n:=by cases d<;>rfl
 have old:∀ {j e},look (s.ren d k mv).M j=some e->(j=s.n/\(s.n,mv)=e)\/(j=k/\e.2.own=false/\e.1=s.n/\e.2=.dead)\/(j≠s.n/\j≠k/\look s.M j=some e):=by
  intro j e he;rw[hM]at he;rcases zC he with ⟨h1,h2⟩|⟨h1,h2⟩
  ·grind
  ·rcases zC h2 with ⟨h3,h4⟩|⟨h3,h4⟩
   ·exact .inr (.inl ⟨h3.symm,by rw[<-h4];rfl,by rw[<-h4],by rw[<-h4]⟩)
   grind
 refine⟨X',h.go (ZS h.fit d u) rfl rfl rfl (fun j hj=>hk.keep (by grind)) hU hn.symm xI.symm (by omega) (by omega) hB (fun hf=>zLp (by omega:s.n<=F.fe) (Nat.not_le.2 h.fe)) (fun t φ hp=>jO fun e=>(hd _ e).2 φ hp) (fun t e he=>?_) (fun j e he=>?_) (fun j k' e e' he he' ho ho' fV=>?_) (fun j e he ho=>?_)⟩
 ·cases d with
  |none =>
   refine .inr ⟨he,rfl,fun f8 hf=>?_⟩
   have:=h.ln t e he;simp only[fresh,f8,Bool.not_true,Bool.false_or]at hf;rw[jj]at hf;grind
  |some d =>
   rcases zC he with ⟨h1,h2⟩|⟨h1,h2⟩
   ·subst h1 h2
    exact .inl ⟨zLl _,fun _=>by rw[yZ h.fit (hd d rfl).1];exact⟨(gW _ _ _).symm,zLl _,h1u⟩⟩
   ·refine .inr ⟨h2,vk h1 u,fun f8 hf=>?_⟩
    have:=h.ln t e h2;simp only[fresh,f8,Bool.not_true,Bool.false_or]at hf;rw[jj]at hf;grind
 ·rcases old he with ⟨h1,h2⟩|⟨h1,h2,h3,h4⟩|⟨h1,h2,h3⟩
  ·subst h1 h2;exact .inl ⟨by omega,by omega,hv X' rfl rfl rfl rfl (gW _ _ _) bN fG⟩
  ·exact .inl ⟨by omega,by omega,by rw[h4];trivial⟩
  ·refine .inr ⟨h3,hι j h1,fun ho=>hk.keep ?_⟩
   intro e1;simp only[zLw]at e1;exact h2 (h.inj j k e e0 h3 xH ho c8 e1)
 ·rcases old he with ⟨h1,h2⟩|⟨h1,h2,_⟩|⟨h1,h2,h3⟩
  ·rcases old he' with ⟨h4,h5⟩|⟨h4,h5,_⟩|⟨h4,h5,h6⟩
   ·omega
   ·grind
   ·rw[h1,bN,hι k' h4]at fV
    exact zLp (h.inj k k' e0 e' xH h6 c8 ho' fV).symm h5
  ·grind
  ·rcases old he' with ⟨h4,h5⟩|⟨h4,h5,_⟩|⟨h4,h5,h6⟩
   ·rw[h4,bN,hι j h1]at fV
    exact zLp (h.inj j k e e0 h3 xH ho c8 fV) h2
   ·grind
   ·rw[hι j h1,hι k' h4]at fV
    exact h.inj j k' e e' h3 h6 ho ho' fV
 ·rcases old he with ⟨h1,h2⟩|⟨h1,h2,_⟩|⟨h1,h2,h3⟩
  ·grind
  ·grind
  ·rw[hι j h1];exact h.pos j e h3 ho
theorem Inv.Cg(s:S)(k:Nat):Inv s (s.Cg k):=by
 unfold S.Cg;split
 ·exact⟨zLk _,yc,vd yc⟩
 ·exact⟨zLk _,yc,vd yc⟩
 ·exact Inv.refl s
theorem Inv.Jy:∀(l:List Nat) (s:S),Inv s (s.Jy l)
 | [],s=>Inv.refl s
 |k::l,s=>(Inv.Cg s k).trans (Inv.Jy l _)
theorem Rel.Cg(h:Rel F s a w)(k:Nat):Rel F (s.Cg k) a w:=by
 unfold S.Cg;split
 ·rename_i st t T xs hk
  obtain⟨X,h⟩:=h;have hO:zo (X.ι k) (t.gr X.P) T (X.B true) X.O w (X.U k) xs:=h.m k _ hk
  have hp:=h.pos k _ hk rfl
  change zo _ _ _ X.F _ _ _ _ at hO
  rw[h.Fn]at hO;obtain⟨O',hB,sP,hv⟩:=V4 h.ok0 h.base hO hp.1;have h0:zb 0 X.O w O' w:=sP.keep (by grind)
  let X':Cx:={ X with O:=O',n:=s.n+1 }
  have gF:=(h.mn k _ hk).2;refine⟨X',h.go h.fit rfl rfl rfl (fun j hj=>sP.keep (by grind)) (fun _ _=>rfl) rfl h.ep (zLk _) (Nat.le_succ_of_le h.epn) hB (fun hf=>⟨hf,Ext.refl _⟩) (fun _ _ _=>rfl) (fun t e he=>.inr ⟨he,rfl,fun _ hf=>⟨hf,Ext.refl _⟩⟩) (fun k' e he=>?_) (fun j k' e e' he he' ho ho' fV=>?_) (fun k' e he ho=>?_)⟩
  ·rcases zC he with ⟨h1,h2⟩|⟨h1,h2⟩
   ·subst h1 h2;exact .inl ⟨zLl _,Nat.lt_succ_of_lt gF,hv⟩
   ·refine .inr ⟨h2,rfl,fun ho=>sP.keep ?_⟩
    intro e1;simp only[zLw]at e1;exact h1 (h.inj k k' _ e hk h2 rfl ho e1.symm)
  ·rcases zC he with ⟨h1,h2⟩|⟨h1,h2⟩
   ·rw[<-h2]at ho;cases ho
   ·rcases zC he' with ⟨h3,h4⟩|⟨h3,h4⟩
    ·rw[<-h4]at ho';cases ho'
    ·exact h.inj j k' e e' h2 h4 ho ho' fV
  ·rcases zC he with ⟨h1,h2⟩|⟨h1,h2⟩
   ·grind
   ·exact h.pos k' e h2 ho
 ·rename_i st a' b' xs hk
  obtain⟨X,h⟩:=h;have hO:YA (X.ι k) (gj a') (b'.gr X.P) (X.B true) X.O w (X.U k) xs:=h.m k _ hk
  have hp:=h.pos k _ hk rfl;obtain⟨c,es,clock,m1,m2,m3,m4,m5⟩:=hO;have hc:F.w0.heap.size<=c:=by
   have:X.F c:=m4;rw[h.Fn]at this;exact this
  let O':=tag X.O (some c) 0
  have sP:KX (some (X.ι k)) X.O w O' w:=KX.free fun g hg=>by grind
  have hB:Base F.A F.O0 F.w0 O' w:=h.base.SV h.ok0 (fun g hg=>by cases hg;exact h.base.new c hc) fun g hg gF=>by grind
  have hv:((Ty.mp a' b').gr X.P).v O' w (X.U k) xs:=⟨_,.inr ⟨c,es,clock,rfl,m2,m3.mono (sP.keep (by grind)),yk _ _ _⟩,m1⟩
  have h0:zb 0 X.O w O' w:=sP.keep (by grind)
  let X':Cx:={ X with O:=O',n:=s.n+1 }
  have gF:=(h.mn k _ hk).2;refine⟨X',h.go h.fit rfl rfl rfl (fun j hj=>sP.keep (by grind)) (fun _ _=>rfl) rfl h.ep (zLk _) (Nat.le_succ_of_le h.epn) hB (fun hf=>⟨hf,Ext.refl _⟩) (fun _ _ _=>rfl) (fun t e he=>.inr ⟨he,rfl,fun _ hf=>⟨hf,Ext.refl _⟩⟩) (fun k' e he=>?_) (fun j k' e e' he he' ho ho' fV=>?_) (fun k' e he ho=>?_)⟩
  ·rcases zC he with ⟨h1,h2⟩|⟨h1,h2⟩
   ·subst h1 h2;exact .inl ⟨zLl _,Nat.lt_succ_of_lt gF,hv⟩
   ·refine .inr ⟨h2,rfl,fun ho=>sP.keep ?_⟩
    intro e1;simp only[zLw]at e1;exact h1 (h.inj k k' _ e hk h2 rfl ho e1.symm)
  ·rcases zC he with ⟨h1,h2⟩|⟨h1,h2⟩
   ·rw[<-h2]at ho;cases ho
   ·rcases zC he' with ⟨h3,h4⟩|⟨h3,h4⟩
    ·rw[<-h4]at ho';cases ho'
    ·exact h.inj j k' e e' h2 h4 ho ho' fV
  ·rcases zC he with ⟨h1,h2⟩|⟨h1,h2⟩
   ·grind
   ·exact h.pos k' e h2 ho
 ·exact h
theorem Rel.Jy:∀(l:List Nat) {s:S},Rel F s a w->Rel F (s.Jy l) a w
 | [],_,h=>h
 |k::l,_,h=>Rel.Jy l (h.Cg k)
abbrev Frm.sys(F:Frm)(q:Nat->Obj->Prop):Frm:={ F with x:={ F.x with sys:=q } }
theorem RelX.turn(h:RelX F s a w X){b:Nat}{o':Obj}{q:Nat->Obj->Prop}(hb:X.O b=F.x.st)(sD:F.w0.heap.size<=b)(gF:b<w.heap.size)(hq:∀c o,q c o->(c≠b/\F.x.sys c o)\/(c=b/\o=o'/\F.x.sb<=b)) :
  RelX (F.sys q) { s with n:=s.n+1,ep:=s.n } a (w.putObj b o') { X with n:=s.n+1,ep:=s.n }:=by
 have pV:(w.putObj b o').heap.size=w.heap.size:=World.putObj_size;have hK:∀k,k≠F.x.st->zb k X.O w X.O (w.putObj b o'):=fun k hk=>⟨by omega,fun c hc hO=>⟨hO,World.putObj_heap_other fun e=>hk (by grind)⟩⟩
 let X':Cx:={ X with n:=s.n+1,ep:=s.n }
 have fG:X.le w X' (w.putObj b o'):=⟨rfl,hK 0 h.ex.st.symm,fun _ _=>rfl,by rw[h.n];grind,rfl⟩
 refine⟨h.P,h.A,h.Fn,rfl,rfl,h.ok0,h.fit,?_,fun t e he hf=>?_,fun k e he=>?_,fun t e he=>Nat.lt_succ_of_lt (h.ln t e he),fun k e he=>⟨Nat.lt_succ_of_lt (h.mn k e he).1,Nat.lt_succ_of_lt (h.mn k e he).2⟩,h.inj,h.pos,zLk _,Nat.lt_succ_of_lt h.fe,fun t φ hp hf=>?_,⟨Nat.le_succ_of_le h.bl.1,h.bl.2⟩,?_⟩
 ·have hB:=h.base
  refine⟨hB.os,hB.tape,hB.output,by grind,fun c hc hA=>?_,fun c hc=>hB.ok c (by omega),hB.old,fun c hc=>hB.zero c (by omega),hB.new⟩
  rw[World.putObj_heap_other (fun e=>by grind)];exact hB.block c hc hA
 ·have t6:e.2.ze=false:=by
   cases f8:e.2.ze with
   |false=>rfl
   |true =>
    simp only[fresh,f8,Bool.not_true,Bool.false_or]at hf;rw[jj]at hf;have hf':s.n<=e.1:=of_decide_eq_true hf
    have:=h.ln t e he;omega
  exact e.2.le t6 fG (h.l t e he (by grind [fresh]))
 ·exact MV.le fG (by rw[h.n];exact(h.mn k e he).2) rfl rfl rfl _ (fun ho=>hK _ (h.pos k e he ho).2) (h.m k e he)
 ·have t6:φ.ze=false:=by
   cases f8:φ.ze with
   |false=>rfl
   |true=>exact zLp (hf f8) (Nat.not_le.2 h.fe)
  exact φ.le t6 fG (h.lh t φ hp fun f8=>by grind)
 ·refine⟨h.ex.st,fun c o hc=>?_,fun v φ hv=>⟨(h.ex.kv v φ hv).1,φ.le (h.ex.kv v φ hv).1 fG (h.ex.kv v φ hv).2⟩,h.ex.since.trans fG.k,h.ex.L⟩
  rcases hq c o hc with ⟨h1,h2⟩|⟨h1,h2,h3⟩
  ·exact⟨⟨(World.putObj_heap_other h1).trans (h.ex.sys c o h2).1.1,(h.ex.sys c o h2).1.2⟩,(h.ex.sys c o h2).2⟩
  grind [World.putObj_heap_same]
end
def AV.rF:AV->Bool
 |.ex v=>v.cells.toList.all Value.oneCell'
 |.ag l=>l.rF
 |.pr a b=>a.rF && b.rF
 |.rd .. | .pt .. | .ob _|.bx .. | .ba .. | .el .. | .cl .. | .un|.em ..=>true
 |_=>false
theorem AV.Q5{X:Cx}{w:World}(φ:AV):φ.rF=true->∀ {cs},(φ.sem X w).c cs->∀c∈cs,c.oneCell'=true:=by
 have one_case:∀ {q:Value->Prop} {cs:List Value},(one q).c cs->∀c∈cs,c.oneCell'=true:=by
  intro q cs h c hc;obtain⟨u,h1,h2,_⟩:=h;grind
 induction φ with
 |rd t x=>intro _ cs h;exact(t.gr X.P).one h
 |ex v=>intro ho cs h c hc;rw[show cs=_ from h]at hc;exact zME.1 ho c hc
 |ag l ih=>intro ho cs h;exact ih ho h
 |un=>intro _ cs h c hc;rw[show cs=[] from h]at hc;cases hc
 |pr a b iha ihb =>
  intro ho cs h c hc;simp only[AV.rF,zLZ]at ho;obtain⟨c1,c2,h1,h2,h3⟩:=h;grind
 |tp l=>intro ho;cases ho
 |top=>intro ho;cases ho
 |nb p e=>intro ho;cases ho
 |pq t x=>intro ho;cases ho
 |yl=>intro ho;cases ho
 |_=>intro _ cs h;exact one_case h
def zc:(t:Ty)->Bool->List Value->Option (AV×List Value)
 |.cons a b,q,cs=>match zc a true cs with
  |some (φ,r)=>match zc b false r with
   |some (ψ,r)=>some (rB q (.pr φ ψ),r)
   |none=>none
  |none=>none
 |.nil,q,cs=>some (rB q .un,cs)
 |.arr n e,_,cs=>match Zx (.arr n e) cs with
  |some (x,r)=>some (.rd (.arr n e) x,r)
  |none=>none
 |_,_,cs=>match cs with
  | []=>none
  |c::r=>match c.oneCell' with
   |true=>some (AV.ofC c,r)
   |false=>none
theorem GK{q:Bool}{l:AV}:(rB q l).ze=l.ze:=by cases q<;>rfl
theorem zGe{c:Value}:(AV.ofC c).ze=false:=by cases c<;>rfl
theorem zAS{X:Cx}{w:World}:∀ {t:Ty} {q:Bool} {cs r:List Value} {φ:AV},zc t q cs=some (φ,r)->(∃c1,cs=c1++r/\(φ.sem X w).c c1)/\φ.ze=false:=by
 intro t;have leaf:∀ {cs r:List Value} {φ:AV},(match cs with | []=>none|c::r=>match c.oneCell' with|true=>some (AV.ofC c,r)|false=>none)=some (φ,r)->(∃c1,cs=c1++r/\(φ.sem X w).c c1)/\φ.ze=false:=by
  intro cs r φ h;split at h
  ·cases h
  ·rename_i c r'
   split at h
   ·rename_i h1;cases h;exact⟨⟨[c],rfl,zAn h1⟩,zGe⟩
   ·cases h
 induction t with
 |cons a b iha ihb =>
  intro q cs r φ h;simp only[zc]at h;split at h
  ·rename_i φ1 r1 h1
   split at h
   ·rename_i ψ r2 h2
    cases h
    obtain⟨⟨c1,e1,k1⟩,f1⟩:=iha h1;obtain⟨⟨c2,e2,k2⟩,f2⟩:=ihb h2;refine⟨⟨c1++c2,by grind,?_⟩,by grind [GK,AV.ze]⟩
    rw[nx];exact⟨c1,c2,rfl,k1,k2⟩
   ·cases h
  ·cases h
 |nil =>
  intro q cs r φ h;simp only[zc]at h;cases h;exact⟨⟨[],rfl,by rw[nx];rfl⟩,by rw[GK];rfl⟩
 |arr n e ih =>
  intro q cs r φ h;simp only[zc]at h;split at h
  ·rename_i x r' hx
   cases h
   obtain⟨c1,e1,k1⟩:=J3 X.P (.arr n e) hx;exact⟨⟨c1,e1,k1 X.O w⟩,rfl⟩
  ·cases h
 |_=>intro q cs r φ h;exact leaf h
def q9(i:TI):AV:=match zc i.τ true i.z.cells.toList with
 |some (φ,[])=>φ
 |_=>.ex i.z
theorem GG{X:Cx}{w:World}{i:TI}:((q9 i).sem X w).c i.z.cells.toList:=by
 unfold q9;split
 ·rename_i φ h
  obtain⟨⟨c1,e1,k1⟩,_⟩:=zAS (X:=X) (w:=w) h;grind
 ·rfl
theorem GF{i:TI}:(q9 i).ze=false:=by
 unfold q9;split
 ·rename_i φ h
  exact(zAS (X:=⟨⟨default,#[]⟩,fun _=>0,fun _=>.nilIface,0,fun _=>0,fun _=>True,fun _=>True,0,0⟩) (w:=default) h).2
 ·rfl
def Ys:AV->Bool
 |.ex (.slice none 0 0)=>true
 |_=>false
theorem jW{φ:AV}(h:Ys φ=true):φ=.ex (.slice none 0 0):=by
 grind [Ys]
section
variable {F:Frm} {s:S} {a:Act} {w:World} {X:Cx} {E:VE}
theorem RelX.rd(h:RelX F s a w X)(l:Array Operand):ZY X w a (rdO X.ep s.L [] []) l:=by
 intro x φ _ hx
 cases x with
 |tmp t =>
  simp only[rdO,YK]at hx
  cases he:look s.L t with
  |none=>grind
  |some e =>
   rw[he]at hx;simp only at hx
   cases hf:fresh X.ep e with
   |false=>grind
   |true=>rw[hf]at hx;cases hx;exact h.l t e he hf
 |const c=>cases hx;exact AV.wP _ _ _
 |global g=>cases hx
 |func f=>cases hx;exact⟨[],[],rfl,rfl,rfl⟩
theorem RelX.zGh(h:RelX F s a w X)(o:Oper):C7 s.L [] X w o a:=fun t _=>by
 simp only[YK];exact fun e he hf=>h.l t e he hf
def gN(F:Frm)(s:S)(a:Act)(w:World)(o:Oper){β:Type}(c:Comp β)(k:S->Comp β):Prop :=
 ∀nf y,c.run nf=some y->∀(K:Act->World->Prop) (Q:Exit->Act->World->Prop),(∀s' v w',Rel F s' (a.put o.dst v) w'->Inv s s'->(k s').run nf=some y->K (a.put o.dst v) w')->o.wp F.P a w K Q
variable {d:Option Tmp} {T Y:TypeId} {pos:String} {aft:Array Edge} {g:Option (Nat×Bool)} {k:S->Comp β}
def nU(v:VR)(s:S)(d:Option Tmp)(k:S->Comp β):Comp β:=match v with
 |.no=>Comp.fail
 |.tot φ=>k (s.put d φ)
 |.par t c mk=>c.bind fun x=>k (s.put d (mk x))
theorem M9(h:RelX F s a w X){o:Oper}(hd:F.dst o.dst){v:VR}(hv:VOk X w a o v):gN F s a w o (nU v s o.dst k) k:=by
 intro nf y hr K Q hK;rw[<-h.P]
 cases v with
 |no=>cases hr
 |tot φ=>exact hv K Q fun u w' hE hu=>hK _ _ _ ⟨_,h.val hE hd hu⟩ (Inv.put _ _ _) hr
 |par t c mk =>
  obtain⟨x,hx,hr⟩:=run_bind hr;exact hv nf x hx K Q fun u w' hE hu=>hK _ _ _ ⟨_,h.val hE hd hu⟩ (Inv.put _ _ _) hr
def ud(E:VE)(s:S)(d:Option Tmp)(Y:TypeId)(k:S->Comp β):Comp β:=match look E.T Y with
 |some i=>k (s.obj d (.bx true (q9 i) Y) (.bx s.n 0))
 |none=>Comp.fail
theorem DP(hE:E.ok X.P)(h:RelX F s a w X)(hd:F.dst d):gN F s a w ⟨d,.alloc Y,T,pos,aft,g⟩ (ud E s d Y k) k:=by
 intro nf y hr K Q hK;rw[<-h.P];unfold ud at hr;split at hr
 ·rename_i i hi
  exact Bg (zLb _) (hE.T Y i hi).ty K Q fun u w' fX hu=>hK _ _ _ (h.zAp fX hd hu GG GF) (Inv.obj _ _ _ _) hr
 ·cases hr
def Sd(s:S)(d:Option Tmp)(Y:TypeId)(φ:Option AV)(k:S->Comp β):Comp β:=match φ with
 |some φ=>match φ.ID && !φ.ze with
  |true=>k (s.obj d (.bx true φ Y) (.bx s.n 0))
  |false=>Comp.fail
 |none=>Comp.fail
theorem NH(h:RelX F s a w X)(hd:F.dst d){x:Operand}:gN F s a w ⟨d,.box Y x,T,pos,aft,g⟩ (Sd s d Y (rdO s.ep s.L [] [] x) k) k:=by
 intro nf y hr K Q hK;rw[<-h.P];rw[<-h.ep]at hr;unfold Sd at hr;split at hr
 ·rename_i φ hφ
  have k1:=h.rd #[x] x φ (by simp) hφ
  split at hr
  ·rename_i hc
   rw[zLZ]at hc;exact zDW (zLb _) rfl K Q fun u w' fX hu=>hK _ _ _ (h.zAp fX hd hu (AV.v_c hc.1 k1) (by grind)) (Inv.obj _ _ _ _) hr
  ·cases hr
 ·cases hr
def Sc(E:VE)(s:S)(d:Option Tmp)(q:Option (TypeId×(t:Ty)×List t.D))(k:S->Comp β):Comp β:=match q with
 |some q=>k (s.obj d (.sl true q.2.1 q.1 q.2.2) (.ob s.n))
 |none=>Comp.fail
theorem NF(hE:E.ok X.P)(h:RelX F s a w X)(hd:F.dst d){n:Nat}{ps:Array (Nat×Operand)}:gN F s a w ⟨d,.buildSlice Y n ps,T,pos,aft,g⟩ (Sc E s d (UH E.T E.G s.M (rdO s.ep s.L [] []) Y n ps.toList) k) k:=by
 intro nf y hr K Q hK;rw[<-h.P];rw[<-h.ep]at hr;unfold Sc at hr;split at hr
 ·rename_i q hq
  refine n4 hE.T hE.G h.m h.okO (h.rd _) hq K Q fun u w' fX hu=>hK _ _ _ (h.Cy (φ:=.ob s.n) fX hd hu.1 fun X' e1 fG e2 e3 e4=>⟨e2.symm,e3,e4⟩) (Inv.obj _ _ _ _) hr
 ·cases hr
def EX(E:VE)(s:S)(d:Option Tmp)(Y:TypeId)(x y:Operand)(m:Option (IntKind×Int))(k:S->Comp β):Comp β:=match look E.T Y with
 |none=>Comp.fail
 |some i=>match slD i.dd with
  |none=>Comp.fail
  |some e=>match look E.T e with
   |none=>Comp.fail
   |some j=>match m,ofV j.τ j.z with
    |some m,some z=>match Nat.blt 0 j.sz && (Nat.beq j.τ.sz j.sz && (Nat.ble j.by_ 131072 && Nat.beq j.z.cells.size j.sz)) with
     |true=>match uy x with
      |true=>(mk0 m.2).bind fun _=>k (s.obj d (.sl true j.τ e []) (.ob s.n))
      |false=>match Hw x y with
       |true=>(mk m.2 z).bind fun ys=>k (s.obj d (.sl true j.τ e ys) (.ob s.n))
       |false=>Comp.fail
     |false=>Comp.fail
    |_,_=>Comp.fail
theorem Ib(hE:E.ok X.P)(h:RelX F s a w X)(hd:F.dst d){x z:Operand}:gN F s a w ⟨d,.makeSlice Y x z,T,pos,aft,g⟩ (EX E s d Y x z ((rdO s.ep s.L [] [] z).bind AV.int?) k) k:=by
 intro nf y hr K Q hK;rw[<-h.P];rw[<-h.ep]at hr;unfold EX at hr;split at hr
 ·cases hr
 ·rename_i i hi
  have ht:=(hE.T Y i hi).ty;split at hr
  ·cases hr
  ·rename_i e he
   rw[ZU he]at ht;split at hr
   ·cases hr
   ·rename_i j hj
    have ht':=(hE.T e j hj).ty;split at hr
    ·rename_i m zv hm hz
     have iB:=vM (h.rd #[z]) (by simp) hm
     split at hr
     ·rename_i hb
      simp only[zLZ]at hb;obtain⟨b1,b2,b3,b4⟩:=hb;rw[za]at b1;have b1:0<j.sz:=by grind
      have b2:=zLY b2;have b3:=Nat.le_of_ble_eq_true b3
      have b4:=zLY b4;obtain⟨E',hE'⟩:∃E',j.sz=E'+1:=⟨j.sz-1,by omega⟩
      rw[hE']at ht' b4;have pV:(j.τ.gr X.P).sz=E'+1:=by grind [Ty.yr]
      split at hr
      ·rename_i b8
       obtain⟨kk,rfl⟩:=tn b8;obtain⟨u0,h0,hr⟩:=run_bind hr;refine pG (r:=j.τ.gr X.P) (B:=w.heap.size) (O:=X.O) pV ht ht' b3 (zLb _) rfl iB h0 K Q fun u w' fX hu=>hK _ _ _ (h.Cy (φ:=.ob s.n) fX hd hu fun X' e1 fG e2 e3 e4=>⟨e2.symm,e3,e4⟩) (Inv.obj _ _ _ _) hr
      ·split at hr
       ·rename_i hs
        obtain rfl:=BL hs;obtain⟨ys,h0,hr⟩:=run_bind hr;refine Bf (r:=j.τ.gr X.P) (B:=w.heap.size) (O:=X.O) pV ht ht' b3 b4 (zLb _) iB iB (fun O w=>KL _ hz O w) h0 K Q fun u w' fX hu=>hK _ _ _ (h.Cy (φ:=.ob s.n) fX hd hu fun X' e1 fG e2 e3 e4=>⟨e2.symm,e3,e4⟩) (Inv.obj _ _ _ _) hr
       ·cases hr
     ·cases hr
    ·cases hr
def apY(M:MS)(t:Ty)(φ:AV):Option (List t.D):=match Hf M φ with
 |some p=>(Ty.sl p.1).to (.sl t) p.2
 |none=>match uN M φ with
  |some p=>(Ty.sl p.2.2.1).to (.sl t) p.2.2.2
  |none=>match qj M φ with
   |some p=>(Ty.sl p.2.1).to (.sl t) p.2.2
   |none=>match Ys φ with
    |true=>some []
    |false=>none
theorem SX{P:Program}{t t':Ty}{xs:List t'.D}{ys:List t.D}(h:(Ty.sl t').to (.sl t) xs=some ys){O w u}(hx:Rd (t'.gr P) O w u xs):Rd (t.gr P) O w u ys:=by
 obtain⟨e,h1⟩:=Ty.jN h;cases e;cases h1;exact hx
theorem qz{M:MS}(hM:yE M X w){t:Ty}{φ:AV}{u:Value}(hu:φ.holds X w u){ys:List t.D}(h:apY M t φ=some ys):Rd (t.gr X.P) X.O w u ys:=by
 unfold apY at h;split at h
 ·grind [SX,Cr,qm]
 ·split at h
  ·rename_i p hp;exact SX h (Jl hM hu hp).1.choose_spec.rd
  ·split at h
   ·grind [SX,qL]
   ·split at h
    ·rename_i hn
     cases h
     rw[jW hn]at hu;rw[show u=_ from hu]
     grind [Cr,uo]
    ·cases h
def X6(M:MS):AV->Option (Nat×Bool×TypeId×(t:Ty)×List t.D)
 |.ob k=>match look M k with
  |some (_,.sl nw t T xs)=>some (k,nw,T,⟨t,xs⟩)
  |_=>none
 |_=>none
theorem uC{M:MS}(hM:yE M X w){φ:AV}{u:Value}(hu:φ.holds X w u){p:Nat×Bool×TypeId×(t:Ty)×List t.D}(h:X6 M φ=some p) :
  ∃e,look M p.1=some e/\e.2=.sl p.2.1 p.2.2.2.1 p.2.2.1 p.2.2.2.2/\zo (X.ι p.1) (p.2.2.2.1.gr X.P) p.2.2.1 (X.B p.2.1) X.O w u p.2.2.2.2/\u=X.U p.1:=by
 unfold X6 at h;split at h
 ·split at h
  ·rename_i k _ st nw t T xs hk
   cases h
   have:=hM k _ hk;refine⟨_,hk,rfl,?_,hu.1⟩;rw[hu.1];exact this
  ·cases h
 ·cases h
def KF(j:TI)(t:Ty):Bool:=Nat.blt 0 j.sz && (Nat.beq t.sz j.sz && (Nat.ble j.by_ 131072 && Nat.beq j.z.cells.size j.sz))
def Mn{α:Type}(xs ys:List α):Comp (List α):=match ys with
 | []=>Comp.fail
 |_=>app xs ys
def emT:AV->Bool
 |.em ..=>true
 |_=>false
theorem zGq{φ:AV}(h:emT φ=true){u:Value}(hu:φ.holds X w u):∃p n,u=.slice p n n/\(p=none\/∃b off,p=some ⟨b,off,none⟩):=by
 unfold emT at h;split at h
 ·exact hu.2
 ·cases h
def Sf(E:VE)(s:S)(d:Option Tmp)(Y:TypeId)(φ ψ:Option AV)(k:S->Comp β):Comp β:=match φ,ψ with
 |some φ,some ψ=>match look E.T Y with
  |none=>Comp.fail
  |some i=>match slD i.dd with
   |none=>Comp.fail
   |some e=>match look E.T e with
    |none=>Comp.fail
    |some j=>match X6 s.M φ with
     |some p=>match KF j p.2.2.2.1 && Nat.beq p.2.2.1 e,apY s.M p.2.2.2.1 ψ with
      |true,some ys=>(app p.2.2.2.2 ys).bind fun zs=>k (s.ren d p.1 (.sl p.2.1 p.2.2.2.1 e zs))
      |_,_=>Comp.fail
     |none=>match Ys φ && KF j j.τ,apY s.M j.τ ψ with
      |true,some ys=>(app [] ys).bind fun zs=>k (s.KW d (.sl true j.τ e zs) (.ob s.n))
      |_,_=>match emT φ && KF j j.τ,apY s.M j.τ φ,apY s.M j.τ ψ with
       |true,some xs,some ys=>(Mn xs ys).bind fun zs=>k (s.KW d (.sl true j.τ e zs) (.ob s.n))
       |_,_,_=>Comp.fail
 |_,_=>Comp.fail
theorem IP{P:Program}{α:Type}{A:Nat->Prop}{K:Act->World->Prop}{Q:Exit->Act->World->Prop}{x y:Operand}{t e E bytes k:Nat}{d0:Option Tmp}{g0:Option (Nat×Bool)}{dd:TypeDesc}{z z':Value}{sz by_:Nat}{r:GR α}(hr:r.fits)(hE:r.sz=E+1)(hT:Eng.Ty P t (.slice e) z sz by_)(he:Eng.Ty P e dd z' (E+1) bytes)(hz:z'.cells.size=E+1)(aD:bytes<=131072)
  {O O0:zR} {w0:World} (sY:OkO O0 w0) (hB:Base A O0 w0 O w) {B:Nat->Prop} (xD:OkB A w0 B) {u:Value} {xs:List α} (hx:a.eval x=u) (hX:Rd r O w u xs) (hc:∃p n,u=.slice p n n/\(p=none\/∃b off,p=some ⟨b,off,none⟩)) {u':Value} {ys zs:List α} (hy:a.eval y=u') (hN:Rd r O w u' ys) {n:Nat} (aQ:(Mn xs ys).run n=some zs) (hk:k≠0)
  (hK:∀u2 w2 O2,zo k r e B O2 w2 u2 zs->Base A O0 w0 O2 w2->KX (some k) O w O2 w2->K (a.put d0 u2) w2):Oper.wp P ⟨d0,.call ⟨.builtin .append,#[x,y],#[t,t]⟩,T,pos,aft,g0⟩ a w K Q:=by
 cases ys with
 |nil=>cases aQ
 |cons y0 ys =>
 change (app xs (y0::ys)).run n=some zs at aQ
 obtain⟨hl,hzs⟩:=Gc aQ;unfold LIM at hl;have bA:=(zo.nil k r e B O w).tagged
 obtain⟨vs,h2,h3⟩:=hX;obtain⟨us,h4,h5⟩:=hN;have dR:=h3.len
 have sS:=h5.len;have hb:(vs.length+us.length) * bytes<=1073741824 * 131072:=Nat.mul_le_mul (by omega) aD
 rw[hE]at h2 h4;have fD:us≠[]:=fun e=>by rw[e]at sS;simp at sS
 have t7:0<us.length:=List.length_pos_iff.2 fD;obtain⟨u2,w2,fI,h6,h7⟩:∃u2 w2,(Builtin.append_ #[t,t] T #[u,u']).run P w=.ok u2 w2/\OwnS w2 0 e (E+1) u2 (vs++us)/\Appd w w2 (.slice none 0 0) u2:=by
  obtain⟨p,m,hu,hp⟩:=hc;obtain⟨q,cap,hq,sR,iC,dS⟩:=h2;rw[hu]at hq;cases hq;rcases hp with rfl|⟨b,off,rfl⟩
  ·have sV:vs=[]:=by
    rcases dS with h|⟨b,off,h,_⟩
    ·exact h
    ·cases h
   subst sV;rw[hu];exact Xp (ty:=T) (B:=0) hT he hz (OwnS.nil w 0 e (E+1)) h4 (h5.one hr) (by omega) (by simp only[List.length_nil,Nat.zero_add];simp only[List.length_nil,Nat.zero_add]at hb;omega) (Nat.zero_le _)
  ·obtain⟨q,cap,hu',hcap',xU,xN⟩:=h4
   rcases xN with h|⟨b',off',hq,xG⟩
   ·exact zLp h fD
   ·subst hq
    obtain⟨i,hi,aX,pV,hby'⟩:=he.info;have fB:∀ {l:List Value} (hl:∀x∈l,x.cells.size=E+1) {b off:Nat},(∀(i:Nat) (x:Value),l[i]?=some x->∀j,j<E+1->w.cell? ⟨b,off+(i * (E+1)+j),none⟩=x.cells[j]?)->∀j v,(flat l)[j]?=some v->w.cell? ((⟨b,off,none⟩:Addr).add j)=some v:=by
     intro l hl b off hc j v hj;have hjl:j<l.length * (E+1):=by
      have:=(zLf.1 hj).1;rwa[yT hl]at this
     have hq:j / (E+1)<l.length:=Nat.div_lt_of_lt_mul (by rw[Nat.mul_comm];exact hjl)
     have hr':j % (E+1)<E+1:=Nat.mod_lt _ (by omega)
     have hx:l[j / (E+1)]?=some l[j / (E+1)]:=zMD hq;have e1:j / (E+1) * (E+1)+j % (E+1)=j:=by rw[Nat.mul_comm];exact Nat.div_add_mod j (E+1)
     have h2:=hc _ _ hx _ hr';have h3:=Zz hl _ _ hx _ hr'
     rw[e1]at h2 h3;rw[kC,h2,<-h3];exact hj
    have holds:∀j v,(flat vs)[j]?=some v->w.cell? ((⟨b,off,none⟩:Addr).add j)=some v:=by
     rcases dS with h|⟨b2,off2,h,hc⟩
     ·subst h;intro j v hj;simp[flat]at hj
     ·cases h;exact fB iC hc
    obtain⟨u2,w2,r1,r2,r3⟩:=run_append_arg_grows (P:=P) w t T e i z' (E+1) bytes hT.u hi aX pV hby' hz (by omega) ⟨b,off,none⟩ vs.length vs.length (flat vs) (yT iC) holds ⟨b',off',none⟩ us.length cap (flat us) (yT xU) (fB xU xG) (by omega) (by unfold maxLen;omega) (by omega)
    have hO:OwnS w2 w.heap.size e (E+1) u2 (vs++us):=⟨fun x hx=>(zLi.1 hx).elim (iC x) (xU x),by rw[zLa,show flat (vs++us)=flat vs++flat us by simp[flat]];exact r2⟩
    exact⟨u2,w2,by rw[hu,hu'];exact r1,hO.mono (Nat.zero_le _),r3,.inr hO.JO⟩
 refine rA (v:=u2) (w':=w2) (by simp[execOp,resolve,invoke,builtin,hx,hy,fI]) ?_
 obtain⟨nF,sP⟩:=wY hB sY h7 (fun g hg=>by cases hg) hk (fun g hg=>h6.gK g hg) bA
 refine hK u2 w2 (tag O u2.ownBlock k) ⟨vs++us,by rw[hE];exact h6,?_,fun g hg=>⟨by rw[hg];exact yk _ _ _,?_⟩⟩ nF sP
 ·rw[<-hzs]
  have k0:=sP.keep (k:=0) (by simpa using hk.symm)
  exact(h3.mono k0).append (h5.mono k0)
 ·rcases h7.at_ with h8|h8
  ·rw[hg]at h8;cases h8
  ·exact xD.new g (by have:=h8 g hg;have:=hB.size;omega)
theorem RelX.okB(h:RelX F s a w X)(nw:Bool):OkB F.A F.w0 (X.B nw):=by
 cases nw with
 |true=>show OkB _ _ X.F;rw[h.Fn];exact zDa h.base
 |false=>show OkB _ _ X.A;rw[h.A];exact N0 h.base
theorem NI(hE:E.ok X.P)(h:RelX F s a w X)(hd:F.dst d){x z:Operand}:gN F s a w ⟨d,.call ⟨.builtin .append,#[x,z],#[Y,Y]⟩,T,pos,aft,g⟩ (Sf E s d Y (rdO s.ep s.L [] [] x) (rdO s.ep s.L [] [] z) k) k:=by
 intro nf y hr K Q hK;rw[<-h.P];rw[<-h.ep]at hr;unfold Sf at hr;split at hr
 ·rename_i φ ψ hφ hψ
  have k1:=h.rd #[x] x φ (by simp) hφ
  have k2:=h.rd #[z] z ψ (by simp) hψ
  split at hr
  ·cases hr
  ·rename_i i hi
   have ht:=(hE.T Y i hi).ty;split at hr
   ·cases hr
   ·rename_i e he
    rw[ZU he]at ht;split at hr
    ·cases hr
    ·rename_i j hj
     have ht':=(hE.T e j hj).ty;have oR:∀ {t:Ty},KF j t=true->∃E',j.sz=E'+1/\(t.gr X.P).sz=E'+1/\j.by_<=131072/\j.z.cells.size=E'+1:=by
      intro t hb;unfold KF at hb;simp_all [Ty.yr]
     split at hr
     ·rename_i p hp
      split at hr
      ·rename_i ys hb sQ
       rw[zLZ]at hb;obtain⟨E',g1,g2,g3,g4⟩:=oR hb.1;obtain⟨e0,f1,f2,f3,f4⟩:=uC h.m k1 hp;rw[g1]at ht';rw[zLY hb.2]at f3 f2;obtain⟨zs,hz,hr⟩:=run_bind hr;have fD:=h.pos p.1 e0 f1 (by rw[f2];rfl)
       refine qI (Ty.fits X.P _) g2 ht ht' g4 g3 h.ok0 h.base (h.okB p.2.1) rfl f3 rfl (qz h.m k2 sQ) hz fD.1 fun u2 w2 O2 q1 q2 q3=>hK _ _ _ (h.ren hd f1 (by rw[f2];rfl) q2 q3 (ZQ q1) fun X' e1 e2 e3 e4 e5 e6 fG=>?_) (Inv.ren _ _ _ _) hr
       show zo _ _ _ _ _ _ _ _
       rw[e5,e6,e1,e4,show X'.B=X.B from by funext nw;cases nw<;>simp[Cx.B,e2,e3]]
       exact q1
      ·cases hr
     ·split at hr
      ·rename_i ys hb sQ
       rw[zLZ]at hb;obtain⟨E',g1,g2,g3,g4⟩:=oR hb.2;rw[g1]at ht';obtain⟨zs,hz,hr⟩:=run_bind hr;rw[jW hb.1]at k1;obtain⟨τ,t0,t1⟩:=ZN X.ι s.M F.x.st;have tP:zo τ (j.τ.gr X.P) e (X.B true) X.O w (.slice none 0 0) []:=zo.nil _ _ _ _ _ _
       refine qI (Ty.fits X.P _) g2 ht ht' g4 g3 h.ok0 h.base (h.okB true) k1 tP rfl (qz h.m k2 sQ) hz t0.1 fun u2 w2 O2 q1 q2 q3=>hK _ _ _ (h.KW (φ:=.ob s.n) hd (v:=u2) (u:=u2) q2 q3 t0 t1 fun X' e1 e2 e3 e4 e5 e6 e7 e8 fG=>⟨⟨e7.symm,by omega,ZQ q1⟩,?_⟩) (Inv.KW _ _ _ _) hr
       show zo _ _ _ _ _ _ _ _
       rw[e7,e8,e1,e4,show X'.B=X.B from by funext nw;cases nw<;>simp[Cx.B,e2,e3]]
       exact q1
      ·split at hr
       ·rename_i xs ys hb sE sQ
        rw[zLZ]at hb;obtain⟨E',g1,g2,g3,g4⟩:=oR hb.2;rw[g1]at ht';obtain⟨zs,hz,hr⟩:=run_bind hr;obtain⟨τ,t0,t1⟩:=ZN X.ι s.M F.x.st
        refine IP (B:=X.B true) (Ty.fits X.P _) g2 ht ht' g4 g3 h.ok0 h.base (h.okB true) rfl (qz h.m k1 sE) (zGq hb.1 k1) rfl (qz h.m k2 sQ) hz t0.1 fun u2 w2 O2 q1 q2 q3=>hK _ _ _ (h.KW (φ:=.ob s.n) hd (v:=u2) (u:=u2) q2 q3 t0 t1 fun X' e1 e2 e3 e4 e5 e6 e7 e8 fG=>⟨⟨e7.symm,by omega,ZQ q1⟩,?_⟩) (Inv.KW _ _ _ _) hr
        show zo _ _ _ _ _ _ _ _
        rw[e7,e8,e1,e4,show X'.B=X.B from by funext nw;cases nw<;>simp[Cx.B,e2,e3]]
        exact q1
       ·cases hr
 ·cases hr
end
end Go.Den
end
section
namespace Go.Den
open Go Go.RowKit Go.Eng Go.Lift
variable {α β:Type}
def Cd:(t:Ty)->Nat->(t':Ty)->Option (t.D->t'.D->t.D)
 |.cons a b,0,t'=>if h:t'.beq a=true then some fun x y=>(Ty.cast (Ty.wB h) y,x.2) else match Cd a 0 t' with
  |some f=>some fun x y=>(f x.1 y,x.2)
  |none=>none
 |.cons a b,off+1,t'=>match Nat.ble a.sz (off+1) with
  |true=>match Cd b (off+1-a.sz) t' with
   |some f=>some fun x y=>(x.1,f x.2 y)
   |none=>none
  |false=>match Cd a (off+1) t' with
   |some f=>some fun x y=>(f x.1 y,x.2)
   |none=>none
 |_,_,_=>none
theorem GY{P:Program}{t':Ty}:∀ {t:Ty} {off:Nat} {f:t.D->t'.D->t.D},Cd t off t'=some f->∀ {O:zR} {w:World} {cs vs:List Value} {x:t.D} {y:t'.D},(t.gr P).rel O w cs x->(t'.gr P).rel O w vs y->off+vs.length<=cs.length/\(t.gr P).rel O w (cs.take off++(vs++cs.drop (off+vs.length))) (f x y):=by
 intro t
 induction t with
 |cons a b iha ihb =>
  have inA:∀ {off:Nat} {g:a.D->t'.D->a.D},Cd a off t'=some g->∀ {O:zR} {w:World} {cs vs:List Value} {x:(Ty.cons a b).D} {y:t'.D},((Ty.cons a b).gr P).rel O w cs x->(t'.gr P).rel O w vs y->off+vs.length<=cs.length/\((Ty.cons a b).gr P).rel O w (cs.take off++(vs++cs.drop (off+vs.length))) ((g x.1 y,x.2):a.D×b.D):=by
   intro off g hg O w cs vs x y hx hy;obtain⟨c1,c2,rfl,h1,h2⟩:=hx;obtain⟨h3,h4⟩:=iha hg h1 hy;refine⟨by grind,_,c2,?_,h4,h2⟩
   rw[List.take_append_of_le_length (by omega),List.drop_append_of_le_length (by omega)]
   simp
  intro off f hf O w cs vs x y hx hy
  cases off with
  |zero =>
   simp only[Cd]at hf;split at hf
   ·rename_i hb
    cases hf
    have e:=Ty.wB hb;subst e;obtain⟨c1,c2,rfl,h1,h2⟩:=hx;have l1:c1.length=t'.sz:=(GR.len _ h1).trans (Ty.yr P t')
    have l2:vs.length=t'.sz:=(GR.len _ hy).trans (Ty.yr P t');refine⟨by grind,vs,c2,?_,hy,h2⟩
    grind
   ·split at hf
    ·grind
    ·cases hf
  |succ off =>
   simp only[Cd]at hf;split at hf
   ·rename_i fG
    have fG:=Nat.le_of_ble_eq_true fG;split at hf
    ·rename_i g hg
     cases hf
     obtain⟨c1,c2,rfl,h1,h2⟩:=hx;obtain⟨h3,h4⟩:=ihb hg h2 hy;have l1:c1.length=a.sz:=(GR.len _ h1).trans (Ty.yr P a)
     refine⟨by grind,c1,_,?_,h1,h4⟩
     rw[List.take_append,List.drop_append,List.take_of_length_le (by omega),List.drop_of_length_le (by omega),l1]
     rw[show off+1+vs.length-a.sz=off+1-a.sz+vs.length by omega]
     simp
    ·cases hf
   ·split at hf
    ·grind
    ·cases hf
 |_=>intro off f hf;cases off<;>cases hf
section fld
variable {P:Program} {a:Act} {w:World} {T:TypeId} {pos:String} {aft:Array Edge} {g0:Option (Nat×Bool)} {K:Act->World->Prop} {Q:Exit->Act->World->Prop} {A:Nat->Prop}
theorem AQ{x y:Operand}{X Xe E B n j sz:Nat}{vs:List Value}{u p v v':Value}{dd z by_}(hT:Eng.Ty P X dd z sz by_)(hx:a.eval x=p)(hp:nq u (n * E+j) p)(hO:OwnS w B Xe E u vs)(hy:a.eval y=v)(hv:v.cells.size=sz)(h1:∀c∈v.cells.toList,c.oneCell'=true)(hj:j+sz<=E)(hn:n<vs.length)
  (hv':v'.cells.size=E) (hc:∀i,i<E->v'.cells[i]?=if j<=i/\i<j+sz then v.cells[i-j]? else (vs.getD n undef).cells[i]?)
  (hK:∀w',OwnS w' B Xe E u (vs.set n v')->Appd w w' u u->K a w'):Oper.wp P ⟨none,.store X x y,T,pos,aft,g0⟩ a w K Q:=by
 obtain⟨b,hb,rfl⟩:=hp;rcases hO.row.2 with ⟨_,h2⟩|⟨g,cap,cur,hu,mM,hg,dP,dQ,xG,m9⟩
 ·omega
 ·rw[hu]at hb
  simp only[Value.ownBlock,zLw]at hb;subst hb;have hnE:n * E+E<=vs.length * E:=by
   have:(n+1) * E<=vs.length * E:=Nat.mul_le_mul_right _ hn;grind
  have dS:vs.length * E<=cap * E:=Nat.mul_le_mul_right _ dP;obtain⟨w',cs',h2,h3,h4,h5,h6,h7,h8,h9,cZ⟩:=kX (P:=P) (off:=n * E+j) v.cells.toList 0 w cur h1 hg (by grind)
  have hs':∀c∈vs.set n v',c.cells.size=E:=by
   intro c hc;rcases List.mem_or_eq_of_mem_set hc with h|h
   ·exact hO.sz c h
   grind
  refine EM (w':=w') ?_ (hK w' ⟨hs',?_,.inr ⟨g,cap,cs',by grind,mM,h3,by grind,dQ,by omega,?_⟩⟩ ⟨⟨h6,h7,h8,by omega,fun k _ hk=>cZ k (fun e=>hk (by rw[hu,e];rfl))⟩,.inl rfl⟩)
  ·simp[execOp,Instr.storeAt,Instr.sureAddr,hx,hy,storeVar,hv,hT.zy,h2]
  ·rw[yT hs']
  ·apply List.ext_getElem?
   intro i;rw[B7 vs n v' hO.sz hv' hn i,List.length_set,List.getElem?_take];have cM:∀i,i<vs.length * E->(flat vs)[i]?=cur[i]?:=by
    grind
   by_cases hi:i<vs.length * E
   ·rw[zLz hi,Array.getElem?_toList,h5 i]
    simp only[Nat.add_zero,Array.length_toList,hv,Array.getElem?_toList];by_cases h:n * E<=i/\i<n * E+E
    ·rw[zLz h]
     have:=hc (i-n * E) (by omega)
     by_cases hk:n * E+j<=i/\i<n * E+j+sz
     ·grind
     ·rw[zMA hk]
      rw[zMA (by omega)]at this
      have hgn:vs[n]?=some (vs.getD n undef):=by grind
      have b7:=Zz hO.sz n _ hgn (i-n * E) (by omega)
      rw[show n * E+(i-n * E)=i by omega,cM i hi]at b7
      grind
    grind
   grind
theorem C8{t τ:Ty}{j:Nat}{f:t.D->τ.D->t.D}(hf:Cd t j τ=some f)(ha:t.agg=true){x y:Operand}{X Xe E k sz:Nat}(hE:t.sz=E){O O0:zR}{w0:World}(sY:OkO O0 w0)(hB:Base A O0 w0 O w){B:Nat->Prop}(xD:OkB A w0 B){xs:List t.D}{u p v:Value}{m:Int}{vx:τ.D}{zx:t.D}{dd z by_}{n:Nat}
  (hT:Eng.Ty P X dd z sz by_) (pV:τ.sz=sz) (hx:a.eval x=p) (hp:nq u (m.toNat * E+j) p) (hO:zo k (t.gr P) Xe B O w u xs) (hy:a.eval y=v) (hv:(τ.gr P).v O w v vx) (hz:(idx xs m).run n=some zx) (hk:k≠0)
  (hK:∀w',zo k (t.gr P) Xe B O w' u (xs.set m.toNat (f zx vx))->Base A O0 w0 O w'->KX (some k) O w O w'->K a w'):Oper.wp P ⟨none,.store X x y,T,pos,aft,g0⟩ a w K Q:=by
 have tW:=hO.ge;have bA:=hO.tagged
 obtain⟨vs,g1,h2,h3⟩:=hO;have fA:=h2.len
 have hEs:(t.gr P).sz=E:=(Ty.yr P t).trans hE;have hi0:xs[m.toNat]?=some zx:=by
  unfold idx at hz;split at hz
  ·exact rp hz
  ·cases hz
 obtain⟨v0,hv0,c0,iD,rfl⟩:=h2.get _ _ hi0;rw[Ty.jI,ha]at hv0;have hv0':vs[m.toNat]?=some (.agg c0.toArray):=hv0
 have hD:vs.getD m.toNat undef=.agg c0.toArray:=by grind
 have hl0:c0.length=E:=((t.gr P).len iD).trans hEs;obtain⟨c2,q1,_,q3⟩:=(τ.gr P).cells (Ty.fits P τ) hv;have dU:c2.length=sz:=((τ.gr P).len q1).trans ((Ty.yr P τ).trans pV)
 obtain⟨s1,_⟩:=GY hf iD q1;rw[hl0,dU]at s1;rw[hEs]at g1;refine AQ (v':=.agg (c0.take j++(c2++c0.drop (j+c2.length))).toArray) hT hx hp g1 hy (by grind) (by rw[q3];simpa using (τ.gr P).one q1) s1 ((zLf.1 hv0').1) (by show (c0.take j++(c2++c0.drop (j+c2.length))).toArray.size=E;grind) (fun i hi=>?_) fun w' h4 h5=>?_
 ·rw[hD,q3]
  show (c0.take j++(c2++c0.drop (j+c2.length))).toArray[i]?=if j<=i/\i<j+sz then c2.toArray[i-j]? else c0.toArray[i]?
  simp only[List.getElem?_toArray];by_cases h:i<j
  ·grind
  grind
 have sP:KX (some k) O w O w':=⟨h5.by_.size,fun b hb eX=>⟨rfl,h5.by_.block b hb (fun e=>eX (by grind))⟩⟩
 have k0:=sP.keep (k:=0) (by grind)
 have hs:=hB.size;have aN:=h5.by_.size
 have oS:(t.gr P).v O w' (.agg (c0.take j++(c2++c0.drop (j+c2.length))).toArray) (f zx vx):=⟨_,(GY hf ((t.gr P).mono k0 iD) ((τ.gr P).mono k0 q1)).2,by rw[Ty.jI,ha];rfl⟩
 refine hK w' ⟨vs.set m.toNat _,by grind,(h2.mono k0).set _ oS,h3⟩ ?_ sP
 exact⟨h5.by_.os.trans hB.os,h5.by_.tape.trans hB.tape,h5.by_.output.trans hB.output,by omega,fun b hb bY=>(h5.by_.block b (by omega) (fun e=>bY (xD.sub b (tW b e.symm).1))).trans (hB.block b hb bY),
  fun b hb'=>hB.ok b (by omega),hB.old,fun b _ ho=>by
   by_cases gF:b<w.heap.size
   ·exact hB.zero b gF ho
   ·exact sY b (by omega),hB.new⟩
end fld
end Go.Den
end
section
namespace Go.Den
open Go Go.RowKit Go.Eng Go.Lift
variable {α β γ δ:Type}
def jy(xs:List α)(m:Int)(v:α):List α:=xs.set m.toNat v
def BE(E:VE)(s:S)(i:TI)(k off:Nat)(ψ:AV)(c:S->Comp β):Comp β:=match look s.M k with
 |some (_,.bx nw φ T')=>match ψ.ID && (ψ.rF && (!ψ.ze && Nat.beq ψ.sz i.sz)),AV.rT ψ i.sz (vN i.dd) φ true off with
  |true,some φ'=>match φ'.ze with
   |false=>c (s.mod k (.bx nw φ' T'))
   |true=>Comp.fail
  |_,_=>Comp.fail
 |_=>Comp.fail
def BD(E:VE)(s:S)(Y:TypeId)(i:TI)(k:Nat)(m:Int)(esz off2:Nat)(ψ:AV)(c:S->Comp β):Comp β:=match look s.M k with
 |some (_,.sl nw t T xs)=>match Nat.beq off2 0 && (Nat.beq i.sz esz && (Nat.beq t.sz i.sz && Nat.beq T Y)),ψ.asT E.G s.M t with
  |true,some v=>c (s.mod k (.sl nw t T (jy xs m v)))
  |_,_=>Comp.fail
 |_=>Comp.fail
def BC(E:VE)(s:S)(i:TI)(k:Nat)(m:Int)(esz off2:Nat)(ψ:AV)(c:S->Comp β):Comp β:=match look s.M k with
 |some (_,.sl nw t T xs)=>match Nat.beq t.sz esz && (t.agg && Nat.beq i.τ.sz i.sz),Cd t off2 i.τ,ψ.asT E.G s.M i.τ with
  |true,some f,some v=>(idx xs m).bind fun z=>c (s.mod k (.sl nw t T (jy xs m (f z v))))
  |_,_,_=>Comp.fail
 |_=>Comp.fail
def BF(E:VE)(s:S)(i:TI)(k off sz:Nat)(m:Int)(esz off2:Nat)(ψ:AV)(c:S->Comp β):Comp β:=match look s.M k with
 |some (_,.bx nw φ T')=>match (φ.at_ sz true true off).bind (Hn E.G s.M (sz / esz) i.τ) with
  |some q=>match Nat.beq off2 0 && (Nat.beq i.sz esz && (Nat.beq q.2.1.sz i.sz && (Nat.beq (q.1 * esz) sz && Nat.blt 0 esz))),ψ.asT E.G s.M q.2.1 with
   |true,some v=>match AV.rT (.rd (.arr q.1 q.2.1) (jy q.2.2 m v)) sz true φ true off with
    |some φ'=>match φ'.ze with
     |false=>c (s.mod k (.bx nw φ' T'))
     |true=>Comp.fail
    |none=>Comp.fail
   |_,_=>Comp.fail
  |none=>Comp.fail
 |_=>Comp.fail
def mD(E:VE)(s:S)(Y:TypeId)(φ ψ:Option AV)(c:S->Comp β):Comp β:=match look E.T Y,φ,ψ with
 |some i,some φ,some ψ=>match φ with
  |.bx k off=>BE E s i k off ψ c
  |.el k m esz off2=>match Nat.beq off2 0 && Nat.beq i.sz esz with
   |true=>BD E s Y i k m esz off2 ψ c
   |false=>BC E s i k m esz off2 ψ c
  |.ba k off sz m esz off2=>BF E s i k off sz m esz off2 ψ c
  |_=>Comp.fail
 |_,_,_=>Comp.fail
section
variable {F:Frm} {s:S} {a:Act} {w:World} {X:Cx} {E:VE}
variable {d:Option Tmp} {T Y:TypeId} {pos:String} {aft:Array Edge} {g:Option (Nat×Bool)} {k:S->Comp β}
theorem Cx.Ka{X X':Cx}(h1:X'.A=X.A)(h2:X'.F=X.F):X'.B=X.B:=by funext nw;cases nw<;>simp[Cx.B,h1,h2]
theorem DH(hE:E.ok X.P)(h:RelX F s a w X){x z:Operand}:gN F s a w ⟨none,.store Y x z,T,pos,aft,g⟩ (mD E s Y (rdO s.ep s.L [] [] x) (rdO s.ep s.L [] [] z) k) k:=by
 intro nf y hr K Q hK;rw[<-h.P];rw[<-h.ep]at hr;unfold mD at hr;split at hr
 ·rename_i i φ ψ hi hφ hψ
  have ht:=(hE.T Y i hi).ty;have k1:=h.rd #[x] x φ (by simp) hφ
  have k2:=h.rd #[z] z ψ (by simp) hψ
  split at hr
  ·rename_i kk off
   unfold BE at hr;split at hr
   ·rename_i st nw φ0 T' hk
    split at hr
    ·rename_i φ' hb hp
     simp only[zLZ]at hb;obtain⟨b1,b2,b3,b4⟩:=hb;split at hr
     ·rename_i f8
      obtain⟨b,cs,m1,m2,m3,m4⟩:=h.m kk _ hk;obtain⟨_,b',m5,m6⟩:=k1;rw[m1]at m5;cases m5;have hv:=AV.v_c b1 k2
      have hl:=AV.len ψ hv;rw[zLY b4]at hl;obtain⟨p1,p2⟩:=AV.Eh φ0 hp m3;have p3:=p2 _ hl hv
      rw[<-hl]at ht;have iE:ZT cs.toList off (a.eval z).cells.toList=cs.toList.take off++((a.eval z).cells.toList++cs.toList.drop (off+i.sz)):=by
       grind [ZT]
      refine tL h.ok0 h.base (h.okB nw) ht m6 rfl (vs:=(a.eval z).cells.toList) (by simp) (AV.Q5 ψ b2 hv) m2 (by grind) rfl fun w' q1 q2 q3=>hK _ undef _ (h.mod hk rfl q2 q3 fun X' e1 e2 e3 e4 e5 e6 fG=>?_) (Inv.mod _ _ _) hr
      refine⟨b,(ZT cs.toList off (a.eval z).cells.toList).toArray,by grind,?_,?_,f8⟩
      ·rw[e6,e4,Cx.Ka e2 e3];exact q1
      ·show (φ'.sem X' w').c (ZT cs.toList off (a.eval z).cells.toList)
       rw[iE];exact(φ'.mono fG fun hh=>by grind).2.2 _ p3
     ·cases hr
    ·cases hr
   ·cases hr
  ·rename_i kk m esz off2
   split at hr
   rotate_left
   ·unfold BC at hr
    split at hr
    ·rename_i st nw t T' xs hk
     split at hr
     ·rename_i f v hb hf hv
      simp only[zLZ]at hb;obtain⟨b1,b2,b3⟩:=hb;obtain⟨zx,hz,hr⟩:=run_bind hr;obtain⟨_,m2,⟨p,nn,cc,m3,m4⟩,m5⟩:=k1;have hO:=h.m kk _ hk
      have oT:=AV.Z7 hE.G h.m hv k2;have fD:=h.pos kk _ hk rfl
      refine C8 hf b2 (zLY b1) h.ok0 h.base (h.okB nw) ht (zLY b3) rfl m5 hO rfl oT hz fD.1 fun w' q1 q2 q3=>hK _ undef _ (h.mod hk rfl q2 q3 fun X' e1 e2 e3 e4 e5 e6 fG=>?_) (Inv.mod _ _ _) hr
      show zo _ _ _ _ _ _ _ _
      rw[e6,e1,e4,e5,Cx.Ka e2 e3];exact q1
     ·cases hr
    ·cases hr
   unfold BD at hr;split at hr
   ·rename_i st nw t T' xs hk
    split at hr
    ·rename_i v hb hv
     simp only[zLZ]at hb;obtain⟨b1,b2,b3,b4⟩:=hb;have b1:=zLY b1
     have b2:=zLY b2;have b3:=zLY b3
     have b4:=zLY b4;subst b1 b4;obtain⟨_,m2,⟨p,nn,cc,m3,m4⟩,m5⟩:=k1;have hO:=h.m kk _ hk
     have fA:nn=xs.length:=by
      obtain⟨vs,g1,g2,_⟩:=hO;obtain⟨ad,cap,g3,_⟩:=g1.slv;rw[m3]at g3;cases g3;exact g2.len
     have oT:=AV.Z7 hE.G h.m hv k2;have fD:=h.pos kk _ hk rfl
     rw[<-b2]at m5;refine C9 (r:=t.gr X.P) (Ty.fits X.P _) (by rw[Ty.yr,b3]) h.ok0 h.base (h.okB nw) (n:=0) (ys:=xs.set m.toNat v) ht rfl m5 hO rfl oT (by unfold Go.Lift.upd;rw[zLz ⟨m2,by omega⟩];rfl) fD.1 fun w' q1 q2 q3=>hK _ undef _ (h.mod hk rfl q2 q3 fun X' e1 e2 e3 e4 e5 e6 fG=>?_) (Inv.mod _ _ _) hr
     show zo _ _ _ _ _ _ _ _
     rw[e6,e1,e4,e5,Cx.Ka e2 e3];exact q1
    ·cases hr
   ·cases hr
  ·rename_i kk off sz m esz off2
   unfold BF at hr;split at hr
   ·rename_i st nw φ0 T' hk
    split at hr
    ·rename_i q hq
     split at hr
     ·rename_i v hb hv
      simp only[zLZ]at hb;obtain⟨b1,b2,b3,b4,b5⟩:=hb;have b1:=zLY b1
      have b2:=zLY b2;have b3:=zLY b3
      have b4:=zLY b4;rw[za]at b5;have h0:0<esz:=by grind
      subst b1;split at hr
      ·rename_i φ' hp
       split at hr
       ·rename_i f8
        obtain⟨b,cs,m1,m2,m3,m4⟩:=h.m kk _ hk;obtain⟨_,m7,m8,b',m5,m6⟩:=k1;rw[m1]at m5;cases m5
        cases b7:φ0.at_ sz true true off with
        |none=>grind
        |some ψ0 =>
         rw[b7]at hq;obtain⟨c1,c2,c3,f1,f2,f3,f4,_,_⟩:=(AV.IF φ0 b7 m3).h;obtain⟨l1,l2⟩:=SG hE.G h.m hq f4;have pV:(q.2.1.gr X.P).sz=esz:=by grind [Ty.yr]
         have oT:=AV.Z7 hE.G h.m hv k2;have dS:=uY oT
         have hl:=(q.2.1.gr X.P).len dS;rw[pV]at hl;have gF:m.toNat<q.2.2.length:=by
          rw[l1];have:m.toNat * esz+esz<=q.1 * esz:=by omega
          have:(m.toNat+1) * esz<=q.1 * esz:=by grind
          exact Nat.le_of_mul_le_mul_right this h0
         obtain⟨d1,d2,d3,g1,g2,g3,g4,g5⟩:=jf.split l2 m.toNat q.2.2[m.toNat] (by grind)
         have g6:=g5 v _ dS;rw[pV]at g2 g3;have hds:(d1++((a.eval z).cells.toList++d3)).length=sz:=by
          grind
         obtain⟨p1,p2⟩:=AV.Eh φ0 hp m3;have p3:=p2 _ hds ⟨by grind [jy],g6⟩
         have hi:i.sz=(a.eval z).cells.toList.length:=by omega
         rw[hi]at ht;have iE:ZT cs.toList (off+m.toNat * esz+0) (a.eval z).cells.toList=cs.toList.take off++((d1++((a.eval z).cells.toList++d3))++cs.toList.drop (off+sz)):=by
          unfold ZT;rw[hl,f1,g1];have a1:(c1++(d1++(d2++d3)++c3)).take (off+m.toNat * esz+0)=c1++d1:=by
           grind
          have a2:(c1++(d1++(d2++d3)++c3)).drop (off+m.toNat * esz+0+esz)=d3++c3:=by
           rw[show c1++(d1++(d2++d3)++c3)=(c1++d1++d2)++(d3++c3) by grind]
           rw[List.drop_append_of_le_length (by grind),List.drop_of_length_le (by grind),List.nil_append]
          have a3:(c1++(d1++(d2++d3)++c3)).take off=c1:=by
           grind
          have a4:(c1++(d1++(d2++d3)++c3)).drop (off+sz)=c3:=by
           have:(d1++(d2++d3)).length=sz:=by grind
           rw[show c1++(d1++(d2++d3)++c3)=(c1++(d1++(d2++d3)))++c3 by grind]
           grind [List.drop_of_length_le]
          grind
         have iF:off+m.toNat * esz+0+(a.eval z).cells.toList.length<=cs.size:=by
          grind
         refine tL h.ok0 h.base (h.okB nw) ht m6 rfl (vs:=(a.eval z).cells.toList) (by simp) ((q.2.1.gr X.P).one dS) m2 iF rfl fun w' q1 q2 q3=>hK _ undef _ (h.mod hk rfl q2 q3 fun X' e1 e2 e3 e4 e5 e6 fG=>?_) (Inv.mod _ _ _) hr
         refine⟨b,(ZT cs.toList (off+m.toNat * esz+0) (a.eval z).cells.toList).toArray,by grind,?_,?_,f8⟩
         ·rw[e6,e4,Cx.Ka e2 e3];exact q1
         ·show (φ'.sem X' w').c (ZT cs.toList (off+m.toNat * esz+0) (a.eval z).cells.toList)
          rw[iE];exact(φ'.mono fG fun hh=>by grind).2.2 _ p3
       ·cases hr
      ·cases hr
     ·cases hr
    ·cases hr
   ·cases hr
  ·cases hr
 ·cases hr
def Je:List (Option TypeId)->Ty->Bool
 |none::ks,.cons a b=>a.closed && Je ks b
 | [],.nil=>true
 |_,_=>false
def slT:(a:Ty)->a.D->Option ((t:Ty)×List t.D)
 |.sl e,y=>some ⟨e,y⟩
 |_,_=>none
def YW:List (Option TypeId)->(rs:Ty)->rs.D->Option (TypeId×(t:Ty)×List t.D)
 |some T::ks,.cons a b,y=>match Je ks b,slT a y.1 with
  |true,some q=>some (T,q)
  |_,_=>none
 |none::ks,.cons a b,y=>match a.closed with
  |true=>YW ks b y.2
  |false=>none
 |_,_,_=>none
def Hg(k:Nat):List (Option TypeId)->(rs:Ty)->rs.D->AV
 |some _::ks,.cons _ b,y=>.pr (.ob k) (Hg k ks b y.2)
 |none::ks,.cons a b,y=>.pr (.rd a y.1) (Hg k ks b y.2)
 |_,_,_=>.un
def Hy(k:Nat)(ks:List (Option TypeId))(rs:Ty)(y:rs.D):AV:=match Hg k ks rs y with
 |.pr φ .un=>φ
 |φ=>.tp φ
theorem wm{P:Program}{O:zR}{B:Nat}{w1:World}{k:Nat}:∀ {ks:List (Option TypeId)} {rs:Ty} {y:rs.D} {vs:List Value},Je ks rs=true->XA P O B w1 ks rs vs y->∀(X':Cx) (w2:World),X'.P=P->((Hg k ks rs y).sem X' w2).l vs
 |none::ks,.cons a b,y,vs,hc,h,X',w2,hP=>by
  simp only[Je,zLZ]at hc;obtain⟨v,vs',h1,h2,h3,_⟩:=h;refine⟨v,vs',h1,?_,wm hc.2 h3 X' w2 hP⟩;show (a.gr X'.P).v _ _ _ _
  rw[hP];exact Xa hc.1 h2
 | [],.nil,y,vs,hc,h,X',w2,hP=>h
 | [],.int _,_,_,h,_,_,_,_ | [],.bool,_,_,h,_,_,_,_ | [],.str,_,_,h,_,_,_,_ | [],.sl _,_,_,h,_,_,_,_ | [],.cons ..,_,_,h,_,_,_,_ | [],.arr ..,_,_,h,_,_,_,_ | [],.box ..,_,_,h,_,_,_,_ | [],.fn ..,_,_,h,_,_,_,_ | [],.seq ..,_,_,h,_,_,_,_ | [],.slo ..,_,_,h,_,_,_,_ | [],.mp ..,_,_,h,_,_,_,_=>by cases h
 |some _::_,.int _,_,_,h,_,_,_,_|some _::_,.bool,_,_,h,_,_,_,_|some _::_,.str,_,_,h,_,_,_,_|some _::_,.sl _,_,_,h,_,_,_,_|some _::_,.nil,_,_,h,_,_,_,_|some _::_,.cons ..,_,_,h,_,_,_,_|some _::_,.arr ..,_,_,h,_,_,_,_|some _::_,.box ..,_,_,h,_,_,_,_|some _::_,.fn ..,_,_,h,_,_,_,_|some _::_,.seq ..,_,_,h,_,_,_,_|some _::_,.slo ..,_,_,h,_,_,_,_|some _::_,.mp ..,_,_,h,_,_,_,_=>by cases h
 |none::_,.int _,_,_,h,_,_,_,_|none::_,.bool,_,_,h,_,_,_,_|none::_,.str,_,_,h,_,_,_,_|none::_,.sl _,_,_,h,_,_,_,_|none::_,.nil,_,_,h,_,_,_,_|none::_,.arr ..,_,_,h,_,_,_,_|none::_,.box ..,_,_,h,_,_,_,_|none::_,.fn ..,_,_,h,_,_,_,_|none::_,.seq ..,_,_,h,_,_,_,_|none::_,.slo ..,_,_,h,_,_,_,_|none::_,.mp ..,_,_,h,_,_,_,_=>by cases h
theorem Qv:∀ {a:Ty} {y:a.D} {q:(t:Ty)×List t.D},slT a y=some q->∃e:a=.sl q.1,Ty.cast e y=q.2
 |.sl e,y,q,h=>by cases h;exact⟨rfl,rfl⟩
 |.int _,_,_,h|.bool,_,_,h|.str,_,_,h|.nil,_,_,h|.cons ..,_,_,h|.arr ..,_,_,h|.box ..,_,_,h|.fn ..,_,_,h|.seq ..,_,_,h|.slo ..,_,_,h|.mp ..,_,_,h=>by cases h
theorem J2{P:Program}{O:zR}{B:Nat}{w1:World}{k:Nat}:∀ {ks:List (Option TypeId)} {rs:Ty} {y:rs.D} {vs:List Value} {q:TypeId×(t:Ty)×List t.D},YW ks rs y=some q->XA P O B w1 ks rs vs y ->
  ∃u,Zo (q.2.1.gr P) q.1 B O w1 u q.2.2/\∀(X':Cx),X'.P=P->X'.U k=u->k<X'.n->u.oneCell'=true->((Hg k ks rs y).sem X' w1).l vs
 |some T::ks,.cons a b,y,vs,q,hq,h=>by
  simp only[YW]at hq;split at hq
  ·rename_i q' hc hs
   cases hq
   obtain⟨v,vs',h1,h2,h3,_⟩:=h;obtain⟨e,he⟩:=Qv hs;subst e;refine⟨v,?_,fun X' hP hU hk oU=>⟨v,vs',h1,⟨hU.symm,hk,oU⟩,wm hc h3 X' w1 hP⟩⟩
   rw[<-he];exact h2
  ·cases hq
 |none::ks,.cons a b,y,vs,q,hq,h=>by
  simp only[YW]at hq;split at hq
  ·rename_i hc
   obtain⟨v,vs',h1,h2,h3,_⟩:=h;obtain⟨u,h4,h5⟩:=J2 (k:=k) hq h3;refine⟨u,h4,fun X' hP hU hk oU=>⟨v,vs',h1,?_,h5 X' hP hU hk oU⟩⟩
   show (a.gr X'.P).v _ _ _ _
   rw[hP];exact Xa hc h2
  ·cases hq
 | [],_,_,_,_,h,_=>by cases h
 |_::_,.int _,_,_,_,h,_|_::_,.bool,_,_,_,h,_|_::_,.str,_,_,_,h,_|_::_,.sl _,_,_,_,h,_|_::_,.nil,_,_,_,h,_|_::_,.arr ..,_,_,_,h,_|_::_,.box ..,_,_,_,h,_|_::_,.fn ..,_,_,_,h,_|_::_,.seq ..,_,_,_,h,_|_::_,.slo ..,_,_,_,h,_|_::_,.mp ..,_,_,_,h,_=>by grind [YW]
theorem Gu{X':Cx}{w1:World}{k:Nat}{ks:List (Option TypeId)}{rs:Ty}{y:rs.D}{vs:List Value}{v:Value}(h:((Hg k ks rs y).sem X' w1).l vs)(fD:vs≠[])(ht:kh vs v):(Hy k ks rs y).holds X' w1 v:=by
 have hv:v=tup vs:=ht.resolve_left fD;unfold Hy;split
 ·rename_i φ hφ
  rw[hφ]at h;obtain⟨v1,aZ,h1,h2,h3⟩:=h;rw[show aZ=[] from h3]at h1
  rw[hv,h1];exact h2
 ·rename_i φ hφ
  match vs,fD with
  | [v1],_ =>
   exfalso;cases hL:Hg k ks rs y<;>rw[hL]at h<;>try exact h.elim
   ·cases h
   ·rename_i a b
    obtain⟨_,aZ,h1,_,h3⟩:=h;cases h1;cases b<;>try exact h3.elim
    ·grind
    ·obtain⟨_,_,h4,_⟩:=h3;cases h4
  |v1::v2::vs,_=>exact⟨_,h,hv⟩
end
theorem G4{d:Nat}:∀ {l:List Nat},d∈l->vh d l=true
 | [],h=>nomatch h
 |e::l,h=>by
  unfold vh
  cases hb:Nat.beq e d with
  |true=>rfl
  |false =>
   rcases zLd.1 h with rfl|h
   ·simp_all
   ·exact G4 h
theorem gD{α:Type}{l m:List (Nat×α)}{t:Nat}{e:α}(h:look (l++m) t=some e):look l t=some e\/(look l t=none/\look m t=some e):=by
 induction l with
 |nil=>exact .inr ⟨rfl,h⟩
 |cons p l ih =>
  grind [look]
def AV.els:AV->List AV
 |.pr a b=>a::b.els
 |_=>[]
theorem AV.R1{X:Cx}{w:World}(φ:AV):∀ {vs:List Value},(φ.sem X w).l vs->vs.length=φ.els.length/\∀(i:Nat) ψ v,φ.els[i]?=some ψ->vs[i]?=some v->ψ.holds X w v:=by
 induction φ with
 |pr a b iha ihb =>
  intro vs h;obtain⟨v,vs',rfl,h1,h2⟩:=h;grind [AV.els]
 |un=>intro vs h;rw[show vs=[] from h];exact⟨rfl,fun i ψ u hi=>by grind⟩
 |_=>intro vs h;exact False.elim h
def mIn(G:FE)(M:MS):List (Option TypeId)->(ps:Ty)->List AV->Option (ps.D×List Nat)
 |some T::io,.cons (.box e) q,φ::l=>match φ with
  |.bx k off=>match off,look M k with
   |0,some (_,.bx _ c T')=>match Nat.beq T T',c.asT G M e,mIn G M io q l with
    |true,some x,some p=>match vh k p.2 with
     |false=>some ((x,p.1),k::p.2)
     |true=>none
    |_,_,_=>none
   |_,_=>none
  |_=>none
 |none::io,.cons a q,φ::l=>match φ.asT G M a,mIn G M io q l with
  |some x,some p=>some ((x,p.1),p.2)
  |_,_=>none
 | [],.nil,[]=>some ((),[])
 |_,_,_=>none
inductive MSh:List (Option TypeId)->Ty->List AV->Prop
 |n:MSh [] .nil []
 |b {T io e q φ l}:MSh (some T::io) (.cons (.box e) q) (φ::l)
 |v {io a q φ l}:MSh (none::io) (.cons a q) (φ::l)
theorem uF{G:FE}{M:MS}{io:List (Option TypeId)}{ps:Ty}{l:List AV}{r}(h:mIn G M io ps l=some r):MSh io ps l:=by
 cases io with
 |nil=>cases ps<;>cases l<;>first|exact .n|(simp[mIn]at h)
 |cons o io =>
  cases o with
  |none=>cases ps<;>cases l<;>first|exact .v|(simp[mIn]at h)
  |some T =>
   cases ps with
   |cons p q=>cases p<;>cases l<;>first|exact .b|(simp[mIn]at h)
   |_=>cases l<;>(simp[mIn]at h)
theorem mg{G:FE}{M:MS}{T io e q φ l}{x:(Ty.cons (.box e) q).D}{ks:List Nat}(h:mIn G M (some T::io) (.cons (.box e) q) (φ::l)=some (x,ks)) :
  ∃k st nw c ks',φ=.bx k 0/\look M k=some (st,.bx nw c T)/\c.asT G M e=some x.1/\mIn G M io q l=some (x.2,ks')/\ks=k::ks'/\vh k ks'=false:=by
 unfold mIn at h;split at h
 ·rename_i k off
  split at h
  ·rename_i st nw c T' hk
   split at h
   ·rename_i x1 p hT hc hp
    split at h
    ·rename_i sT
     cases h
     have xW:T=T':=zLY hT;subst xW;exact⟨k,st,nw,c,p.2,rfl,hk,hc,hp,rfl,sT⟩
    ·cases h
   ·cases h
  ·cases h
 ·cases h
theorem mf{G:FE}{M:MS}{io a q φ l}{x:(Ty.cons a q).D}{ks:List Nat}(h:mIn G M (none::io) (.cons a q) (φ::l)=some (x,ks)):φ.asT G M a=some x.1/\mIn G M io q l=some (x.2,ks):=by
 unfold mIn at h;grind
def BK(X:Cx):List Nat->List Nat->Prop
 | [],[]=>True
 |k::ks,b::bl=>X.U k=.pointer (some ⟨b,0,none⟩)/\X.O b=X.ι k/\BK X ks bl
 |_,_=>False
def Ud(M:MS)(k:Nat):Prop:=∃e,look M k=some e/\e.2.own=true
theorem zDl{X:Cx}{w:World}{G:FE}(hG:FOk X.P G){M:MS}(hM:yE M X w)(c7:∀k k' e e',look M k=some e->look M k'=some e'->e.2.own=true->e'.2.own=true->X.ι k=X.ι k'->k=k')(t7:∀k e,look M k=some e->e.2.own=true->X.ι k≠0) :
  ∀ {io:List (Option TypeId)} {ps:Ty} {l:List AV} {x:ps.D} {ks:List Nat} {vs:List Value},mIn G M io ps l=some (x,ks)->vs.length=l.length->(∀(i:Nat) φ v,l[i]?=some φ->vs[i]?=some v->φ.holds X w v) ->
   ∃bl,MIn X.P X.O w io ps bl vs x/\BK X ks bl/\(∀k∈ks,Ud M k)/\(∀b∈bl,∃k∈ks,X.O b=X.ι k):=by
 intro io
 induction io with
 |nil =>
  intro ps l x ks vs h hl hv;cases uF h;simp only[mIn]at h;cases h;have:vs=[]:=List.length_eq_zero_iff.1 hl
  subst this;exact⟨[],⟨rfl,rfl⟩,trivial,by simp,by simp⟩
 |cons o io ih =>
  intro ps l x ks vs h hl hv
  cases uF h with
  | @b T _ e q φ l' =>
   obtain⟨k,st,nw,c,ks',rfl,hk,hc,hp,rfl,sT⟩:=mg h
   cases vs with
   |nil=>grind
   |cons v vs' =>
   have hφ:=hv 0 _ v rfl rfl;obtain⟨b,cs,h1,h2,h3,h4⟩:=hM k _ hk;obtain⟨_,b',h5,rfl⟩:=(hφ:k<X.n/\∃b,X.U k=.pointer (some ⟨b,0,none⟩)/\v=.pointer (some ⟨b,0,none⟩));rw[h1]at h5;simp only[Value.pointer.injEq,zLw,Addr.mk.injEq,and_true]at h5;subst h5;obtain⟨bl,g1,g2,g3,g4⟩:=ih (vs:=vs') (l:=l') hp (by grind) (fun i φ v hi hv'=>hv (i+1) φ v (by grind) (by grind))
   have cO:Ud M k:=⟨_,hk,rfl⟩;have hnk:k ∉ ks':=fun fE=>by grind [G4]
   refine⟨b::bl,⟨b,bl,vs',cs,rfl,rfl,h2.own,?_,fun c' hc'=>?_,(AV.jR hG c hM).vc hc h3,g1⟩,⟨h1,h2.tag,g2⟩,fun j hj=>?_,fun c' hc'=>?_⟩
   ·rw[h2.tag];exact t7 k _ hk rfl
   ·obtain⟨j,hj,aG⟩:=g4 c' hc'
    rw[h2.tag,aG];obtain⟨e',he',ho'⟩:=g3 j hj;intro fV;exact hnk (c7 j k _ _ he' hk ho' rfl fV ▸ hj)
   ·grind
   ·rcases zLd.1 hc' with rfl|hc'
    ·exact⟨k,by simp,h2.tag⟩
    grind
  | @v _ a q φ l' =>
   obtain⟨hx,hp⟩:=mf h
   cases vs with
   |nil=>grind
   |cons v vs' =>
   obtain⟨bl,g1,g2,g3,g4⟩:=ih (vs:=vs') (l:=l') hp (by grind) (fun i φ v hi hv'=>hv (i+1) φ v (by grind) (by grind))
   exact⟨bl,⟨v,vs',rfl,AV.Z7 hG hM hx (hv 0 φ v rfl rfl),g1⟩,g2,g3,g4⟩
def uT(M:MS)(n:Nat):(io:List (Option TypeId))->(ps:Ty)->List Nat->(ioT io ps).D->MS
 |some T::io,.cons (.box e) q,k::ks,y=>match look M k with
  |some (_,.bx nw _ _)=>(k,n,.bx nw (.rd e y.1) T)::uT M n io q ks y.2
  |_=>uT M n io q ks y.2
 |none::io,.cons _ q,ks,y=>uT M n io q ks y
 |_,_,_,_=>[]
theorem G6{X X':Cx}{w w':World}{G:FE}{M:MS}(hM:yE M X w)(hP:X'.P=X.P)(hO:X'.O=X.O)(hU:X'.U=X.U)(hι:X'.ι=X.ι)(hA:X'.A=X.A)(hF:X'.F=X.F){n:Nat} :
  ∀ {io:List (Option TypeId)} {ps:Ty} {l:List AV} {x:ps.D} {ks bl:List Nat} {y:(ioT io ps).D},mIn G M io ps l=some (x,ks)->BK X ks bl->EH X.P X.O w' io ps bl y ->
   (∀k e,look (uT M n io ps ks y) k=some e->e.1=n/\k∈ks/\e.2.holds X' w' k)/\(∀k∈ks,look (uT M n io ps ks y) k≠none):=by
 intro io
 induction io with
 |nil =>
  intro ps l x ks bl y h hb ho;cases uF h;simp only[mIn]at h;cases h;exact⟨fun k e he=>(nomatch he),by simp⟩
 |cons o io ih =>
  intro ps l x ks bl y h hb ho
  cases uF h with
  | @b T _ e q φ l' =>
   obtain⟨k,st,nw,c,ks',rfl,hk,hc,hp,rfl,sT⟩:=mg h;obtain⟨b0,cs0,h1,h2,h3,h4⟩:=hM k _ hk
   cases bl with
   |nil=>exact hb.elim
   |cons b bl =>
   obtain⟨tC,aF,hb3⟩:=hb;obtain⟨b',bl',cs,e1,h5,h6,h7⟩:=ho;cases e1;rw[h1]at tC;simp only[Value.pointer.injEq,zLw,Addr.mk.injEq,and_true]at tC;subst tC;obtain⟨g1,g2⟩:=ih hp hb3 h7;have em:uT M n (some T::io) (.cons (.box e) q) (k::ks') y=(k,n,.bx nw (.rd e y.1) T)::uT M n io q ks' y.2:=by
    simp only[uT];rw[hk]
   rw[em];refine⟨fun j f hf=>?_,fun j hj=>?_⟩
   ·rcases zC hf with ⟨e1,e2⟩|⟨e1,e2⟩
    ·subst e1 e2
     refine⟨rfl,by simp,b0,cs,by rw[hU];exact h1,⟨h5,?_,?_⟩,?_,rfl⟩
     ·rw[Cx.Ka hA hF];exact h2.ge
     ·rw[hO,hι];exact aF
     ·show (e.gr X'.P).rel X'.O w' cs.toList y.1
      rw[hP,hO];exact h6
    ·obtain⟨a1,a2,a3⟩:=g1 j f e2;exact⟨a1,by simp[a2],a3⟩
   ·unfold look
    cases hkj:Nat.beq k j with
    |true=>simp[hkj]
    |false =>
     simp only[hkj,cond_false];refine g2 j ?_;rcases zLd.1 hj with rfl|hj
     ·rw[Nat.beq_refl]at hkj;cases hkj
     ·exact hj
  | @v _ a q φ l' =>
   obtain⟨hx,hp⟩:=mf h;exact ih hp hb ho
def mL(E:VE)(s:S)(d:Option Tmp)(φ:Option AV)(l:Option (List AV))(k:S->Comp β):Comp β:=match φ,l with
 |some (.cl f ca cb),some l=>match E.H f with
  |none=>Comp.fail
  |some fs=>match mIn E.G s.M fs.io fs.ps (ca.els++(l++cb.els)) with
   |some p=>(fs.sem p.1).bind fun y=>k (S.put { L:=s.L,M:=uT s.M s.n fs.io fs.ps p.2 y.1++s.M,n:=s.n+1,ep:=s.n } d (Cn fs.rs y.2))
   |none=>Comp.fail
 |_,_=>Comp.fail
section
variable {F:Frm} {s:S} {a:Act} {w:World} {X:Cx} {E:VE}
variable {d:Option Tmp} {T Y:TypeId} {pos:String} {aft:Array Edge} {g:Option (Nat×Bool)} {k:S->Comp β}
theorem nv{f:FuncId}{x:Operand}{xs:Array Operand}{ts:Array TypeId}{fst cap:Array Value}{R:Ending->World->Prop}{K:Act->World->Prop}{Q:Exit->Act->World->Prop}{P:Program}(hf:FnOk P f)(hu:a.eval x=.func (.func f) fst cap)(h:Calls P f (fst++xs.map a.eval++cap) w R)
  (hK:∀e w',R e w'->∃v,e=.returned v/\K (a.put d v) w'):Oper.wp P ⟨d,.call ⟨.value x,xs,ts⟩,T,pos,aft,g⟩ a w K Q:=by
 obtain⟨fn,h1,h2,h3⟩:=hf.h;have hr:(execOp a.eval ⟨d,.call ⟨.value x,xs,ts⟩,T,pos,aft,g⟩).run P w=.ok (.enter f (fst++xs.map a.eval++cap)) w:=by
  simp only[execOp,resolve,hu,Deferred.ofValue,Sem.run_bind,Sem.run_pure,Result.andThen,invoke,callFunc,run_program,h1];simp[h2,h3]
 unfold Oper.wp;rw[hr];refine Calls.mono h fun e w' he=>?_
 grind
theorem RelX.zEw(h:RelX F s a w X)(hG:FOk X.P E.G){io:List (Option TypeId)}{ps:Ty}{l:List AV}{x:ps.D}{ks bl:List Nat}{y:(ioT io ps).D}{w':World}(hi:mIn E.G s.M io ps l=some (x,ks))(hb:BK X ks bl)(hk:∀k∈ks,Ud s.M k)(iG:∀b∈bl,∃k∈ks,X.O b=X.ι k)(hw:ButL bl w w')(ho:EH X.P X.O w' io ps bl y) :
  RelX F { L:=s.L,M:=uT s.M s.n io ps ks y++s.M,n:=s.n+1,ep:=s.n } a w' { X with n:=s.n+1,ep:=s.n }:=by
 have fD:∀b,b∈bl->X.O b≠0/\X.O b≠F.x.st:=fun b hb=>by
  obtain⟨k,h1,h2⟩:=iG b hb;obtain⟨e,h3,h4⟩:=hk k h1;rw[h2];exact h.pos k e h3 h4
 have sF:∀t,(∀b∈bl,X.O b≠t)->zb t X.O w X.O w':=fun t ht=>⟨hw.size,fun b hb aR=>⟨aR,hw.block b hb fun fE=>ht b fE aR⟩⟩
 let X':Cx:={ X with n:=s.n+1,ep:=s.n }
 have sG:=G6 (X:=X) (X':=X') (w:=w) (w':=w') (G:=E.G) (n:=s.n) h.m rfl rfl rfl rfl rfl rfl hi hb ho;have oV:∀b∈bl,F.A b:=fun b hbin=>by
  have:∀ {ks bl:List Nat},BK X ks bl->(∀k∈ks,Ud s.M k/\∃st nw c T,look s.M k=some (st,.bx nw c T))->∀b∈bl,F.A b:=by
   intro ks
   induction ks with
   |nil=>intro bl hb _ b fE;cases bl with|nil=>cases fE|cons=>exact hb.elim
   |cons k ks ih =>
    intro bl hb dY b fE
    cases bl with
    |nil=>cases fE
    |cons b' bl =>
     obtain⟨q1,q2,q3⟩:=hb;rcases zLd.1 fE with rfl|fE
     ·obtain⟨_,st,nw,c,T,hl⟩:=dY k (by simp)
      obtain⟨b0,cs0,e1,e2,_⟩:=h.m k _ hl;rw[q1]at e1;simp only[Value.pointer.injEq,zLw,Addr.mk.injEq,and_true]at e1;subst e1;exact(h.okB nw).sub _ e2.ge
     grind
  refine this hb (fun k cO=>⟨hk k cO,?_⟩) b hbin
  have hC0:∀ {io:List (Option TypeId)} {ps:Ty} {l:List AV} {x:ps.D} {ks:List Nat},mIn E.G s.M io ps l=some (x,ks)->∀k∈ks,∃st nw c T,look s.M k=some (st,.bx nw c T):=by
   intro io
   induction io with
   |nil =>
    intro ps l x ks h;cases uF h;simp only[mIn]at h;grind
   |cons o io ih =>
    intro ps l x ks h
    cases uF h with
    |b =>
     obtain⟨k,st,nw,c,ks',rfl,hk,hc,hp,rfl,sT⟩:=mg h;grind
    |v =>
     obtain⟨hx,hp⟩:=mf h;grind
  grind
 refine h.go h.fit rfl rfl rfl (fun j hj=>sF j fun b hb e=>by grind) (fun _ _=>rfl) rfl rfl (zLk _) (zLk _) ?_ (fun hf=>zLp (hf:s.n<=F.fe) (Nat.not_le.2 h.fe)) (fun _ _ _=>rfl) (fun t e he=>.inr ⟨he,rfl,fun f8 hf=>?_⟩) (fun k' e he=>?_) (fun j k' e e' he he' ho ho' fV=>?_) (fun k' e he ho=>?_)
 ·have hB:=h.base
  refine⟨hw.os.trans hB.os,hw.tape.trans hB.tape,hw.output.trans hB.output,zLg hB.size hw.size,fun b hb hA=>?_,fun b hb=>hB.ok b (zLg hw.size hb),hB.old,fun b hb h0=>?_,hB.new⟩
  ·rw[hw.block b (zLm hb hB.size) fun fE=>hA (oV b fE)];exact hB.block b hb hA
  ·by_cases gF:b<w.heap.size
   ·exact hB.zero b gF h0
   ·exact h.ok0 b (by have:=hB.size;omega)
 ·have:=h.ln t e he
  simp only[fresh,f8,Bool.not_true,Bool.false_or]at hf;rw[jj]at hf;grind
 ·rcases gD he with h1|⟨h1,h2⟩
  ·obtain⟨a1,a2,a3⟩:=sG.1 k' e h1
   obtain⟨e0,a4,a5⟩:=hk k' a2;have:=(h.mn k' e0 a4).2
   grind
  ·refine .inr ⟨h2,rfl,fun ho=>sF _ fun b hb fV=>?_⟩
   obtain⟨j,g1,g2⟩:=iG b hb;obtain⟨e0,g3,g4⟩:=hk j g1;have:j=k':=h.inj j k' e0 e g3 h2 g4 ho (g2.symm.trans fV)
   grind
 ·have key:∀ {k e},look (uT s.M s.n io ps ks y++s.M) k=some e->e.2.own=true->Ud s.M k:=fun {k e} he ho=>by
   rcases gD he with h1|⟨h1,h2⟩
   ·grind
   ·exact⟨e,h2,ho⟩
  obtain⟨e1,a1,a2⟩:=key he ho;obtain⟨e2,a3,a4⟩:=key he' ho';exact h.inj j k' e1 e2 a1 a3 a2 a4 fV
 ·rcases gD he with h1|⟨h1,h2⟩
  ·obtain⟨e0,a4,a5⟩:=hk k' (sG.1 k' e h1).2.1
   exact h.pos k' e0 a4 a5
  ·exact h.pos k' e h2 ho
theorem Inv.zEw(s:S){io:List (Option TypeId)}{ps:Ty}{ks:List Nat}{y:(ioT io ps).D}(hn:∀k e,look (uT s.M s.n io ps ks y) k=some e->e.1=s.n):Inv s { L:=s.L,M:=uT s.M s.n io ps ks y++s.M,n:=s.n+1,ep:=s.n } where
 le:=zLk _
 l:=fun t e he _=>he
 m:=fun k e he gF=>by
  rcases gD he with h1|⟨_,h2⟩
  ·grind
  ·exact h2
theorem DM(hE:E.ok X.P)(h:RelX F s a w X)(hd:F.dst d){x:Operand}{xs:Array Operand}{ts:Array TypeId}:gN F s a w ⟨d,.call ⟨.value x,xs,ts⟩,T,pos,aft,g⟩ (mL E s d (rdO s.ep s.L [] [] x) (jE (rdO s.ep s.L [] []) xs.toList) k) k:=by
 intro nf y hr K Q hK;rw[<-h.P];rw[<-h.ep]at hr;unfold mL at hr;split at hr
 ·rename_i f ca cb l hφ hl
  split at hr
  ·cases hr
  ·rename_i fs hs
   split at hr
   ·rename_i p hp
    obtain⟨y0,cP,hr⟩:=run_bind hr;have H:=h.rd (Op.operands (.call ⟨.value x,xs,ts⟩))
    have k1:=H x _ (by simp[Op.operands,Call.operands]) hφ
    have fA:=jV hl;obtain⟨vs,us,e1,e2,e3⟩:=k1;obtain⟨A1,A2⟩:=ca.R1 e1;obtain⟨B1,B2⟩:=cb.R1 e2;have fB:∀(i:Nat) φ v,l[i]?=some φ->(xs.toList.map a.eval)[i]?=some v->φ.holds X w v:=by
     intro i φ v hi hv;rw[List.getElem?_map,Option.map_eq_some_iff]at hv;obtain⟨z,hz,rfl⟩:=hv;obtain⟨z',dZ,iH⟩:=Zh hl i φ hi;rw[hz]at dZ;cases dZ;refine H z φ ?_ iH;grind [Op.operands,Call.operands]
    have fH:=XH (R:=fun (φ:AV) v=>φ.holds X w v) A1 A2 (XH (l1:=l) (m1:=xs.toList.map a.eval) (by grind) fB B2)
    obtain⟨bl,g1,g2,g3,g4⟩:=zDl hE.G h.m h.inj (fun k e h1 h2=>(h.pos k e h1 h2).1) (vs:=vs++(xs.toList.map a.eval++us)) (ks:=p.2) (x:=p.1) hp (by grind) fH
    obtain⟨f1,f2⟩:=hE.H f fs hs;have hc:=f2 X.O w h.okO bl _ p.1 g1 nf y0 cP
    have sC:(vs++(xs.toList.map a.eval++us)).toArray=vs.toArray++xs.map a.eval++us.toArray:=by
     simp
    rw[sC]at hc;refine nv f1 e3 hc fun e w' he=>?_
    obtain⟨v,rs,q1,q2,q3,q4,q5⟩:=he;refine⟨v,q1,?_⟩;have hR:=h.zEw (E:=E) hE.G hp g2 g3 g4 q4 q5
    have fZ:=G6 (X:=X) (X':=X) (w:=w) (w':=w') (G:=E.G) (n:=s.n) h.m rfl rfl rfl rfl rfl rfl hp g2 q5;have hR2:=hR.val (Ext.refl w') hd (uh (X:={ X with n:=s.n+1,ep:=s.n }) q3 q2)
    exact hK _ _ _ ⟨_,hR2⟩ ((Inv.zEw s fun k e he=>(fZ.1 k e he).1).trans (Inv.put _ _ _)) hr
   ·cases hr
 ·cases hr
end
end Go.Den
end
