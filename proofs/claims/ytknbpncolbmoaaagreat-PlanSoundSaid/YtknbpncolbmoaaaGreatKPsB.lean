/- Lemmas behind a claim. -/
import Derived.Test.YtknbpncolbmoaaaGreatKPsA
set_option linter.unusedSimpArgs false
set_option linter.unusedVariables false
open Go.Lift.Comp (run_bind zBa rZ run_pure)
section
namespace Go.Den
open Go Go.RowKit Go.Eng Go.Lift
variable {α:Type}
def Mi:Value->Nat->Value
 |.slice p _ c,n=>.slice p n c
 |v,_=>v
theorem DW(u:Value)(n:Nat):(Mi u n).ownBlock=u.ownBlock:=by
 cases u<;>try rfl
 rename_i p k c;cases p<;>rfl
theorem JD{E:Nat}:∀ {vs:List Value},(∀x∈vs,x.cells.size=E)->(flat vs).length=vs.length * E
 | [],_=>by simp[flat]
 |y::vs,h=>by
   have hy:=h y (by simp)
   have:=JD (vs:=vs) (fun y hy=>h y (by simp[hy]))
   unfold flat at this |-;rw[List.flatMap_cons,zLS,this,Array.length_toList,hy,zLZ,Nat.add_mul];omega
theorem wJ{E:Nat}:∀ {vs:List Value},(∀x∈vs,x.cells.size=E)->∀n,(flat vs).take (n * E)=flat (vs.take n)
 | [],_,n=>by simp[flat]
 |y::vs,h,0=>by simp[flat]
 |y::vs,h,n+1=>by
   have hy:=h y (by simp)
   have:=wJ (vs:=vs) (fun y hy=>h y (by simp[hy])) n
   unfold flat at this |-;rw[List.take_succ_cons,List.flatMap_cons,List.flatMap_cons,<-this,Nat.add_mul,List.take_append,Array.length_toList,hy,List.take_of_length_le (by rw[Array.length_toList,hy];omega)]
   congr 2;omega
theorem Nj{w:World}{B T E:Nat}{u:Value}{vs:List Value}(h:OwnS w B T E u vs){n:Nat}(hn:n<=vs.length):OwnS w B T E (Mi u n) (vs.take n):=by
 have hs:∀x∈vs.take n,x.cells.size=E:=fun x hx=>h.sz x (List.mem_of_mem_take hx)
 have hl:(vs.take n).length=n:=by rw[zLm];omega
 refine⟨hs,?_,?_⟩
 ·rw[JD hs]
 ·rcases h.row.2 with ⟨h1,h2⟩|⟨b,cap,cur,h1,h2,h3,h4,h5,h6,h7⟩
  ·left
   have hn0:n=0:=by omega
   subst hn0;rw[h1];exact⟨rfl,by rw[hl]⟩
  ·right
   refine⟨b,cap,cur,by rw[h1,hl];rfl,h2,h3,by rw[hl];omega,h5,h6,?_⟩
   rw[hl,<-wJ h.sz n,<-h7,List.take_take,Nat.min_eq_left (Nat.mul_le_mul_right _ hn)]
section ops
variable {P:Program} {a:Act} {w:World} {d:Option Tmp} {T:TypeId} {pos:String} {aft:Array Edge} {g:Option (Nat×Bool)}
theorem Yv{x h:Operand}{X e:TypeId}{r:GR α}{O:zR}{xs ys:List α}{n:Int}{k:IntKind}{m:Nat}{z sz by_ dd z' E by_'}(hT:Eng.Ty P X (.slice e) z sz by_)(he:Eng.Ty P e dd z' E by_')(hE:r.sz=E){u:Value}(hu:a.eval x=u)(hx:(rSl r).v O w u xs)(hh:a.eval h=.int k n)(hr:(sub xs 0 n).run m=some ys) :
  Ok P ⟨d,.slice X x none (some h) none,T,pos,aft,g⟩ a w (SP.isv (Mi u ys.length)).holds:=by
 obtain⟨⟨h1,h2,h3⟩,h4⟩:=jd hr;obtain⟨vs,s1,s2,s3⟩:=YB.1 hx;subst hE;have kA:=s2.len
 obtain⟨p,c,hu',hc⟩:=s1.slice;have e4:ys=xs.take n.toNat:=h4.symm
 have e5:ys.length=n.toNat:=by rw[e4,zLm];omega
 rw[hu']at hu;refine y8 (v:=.slice p n.toNat c) (w':=w) ?_ (Ext.refl w) (by rw[hu',e5];rfl)
 have h1':n<=(c:Int):=by omega
 simp[execOp,Instr.sliceAt,Instr.slice,Instr.sliceBounds,hu,hh,hT.gR,he.zu,gO h2 h1'];intro _;cases p<;>simp[Addr.add]
end ops
def zAM(r:GR α)(T:Nat)(O:zR)(w:World)(u:Value)(xs:List α):Prop:=kx r T 0 O w u xs/\∀g,u.ownBlock=some g->O g≠0
theorem MY{k:Nat}{r:GR α}{T B O w u xs}(h:zo k r T B O w u xs)(hk:k≠0):zAM r T O w u xs :=
 ⟨h.arg hk,fun g hg=>by obtain⟨vs,_,_,h3⟩:=h;rw[(h3 g hg).1];exact hk⟩
def FrS(w0:World)(u:Value):Nat->Prop:=fun b=>w0.heap.size<=b\/u.ownBlock=some b
theorem NQ{r:GR α}{T:TypeId}{O:zR}{w:World}{u:Value}{xs:List α}(hO:OkO O w)(h:zAM r T O w u xs) :
  ∃O',Base (FrS w u) O w O' w/\zo 1 r T (FrS w u) O' w u xs/\zb 0 O w O' w:=by
 obtain⟨⟨vs,h1,h2⟩,h3⟩:=h;refine⟨tag O u.ownBlock 1,⟨rfl,rfl,rfl,zLT _,fun _ _ _=>rfl,hO.tag fun g hg=>h1.gC g hg,fun c _ hc=>vt fun e=>hc (.inr e),fun c _ hz=>?_,fun _ h=>.inl h⟩,⟨vs,h1,h2,fun g hg=>⟨by rw[hg];exact yg _ _ _,.inr hg⟩⟩,zLT _,fun c _ hc=>⟨?_,rfl⟩⟩
 ·by_cases e:u.ownBlock=some c
  ·rw[e,yg]at hz;cases hz
  ·rw[vt e]at hz;exact hz
 ·rw[vt fun e=>h3 c e hc];exact hc
theorem MZ{k:Nat}{r:GR α}{T:TypeId}{O O':zR}{w0 w:World}{u u':Value}{ys:List α}(hB:Base (FrS w0 u) O w0 O' w)(h:zo k r T (FrS w0 u) O' w u' ys):Appd w0 w u u' :=
 ⟨⟨hB.os,hB.tape,hB.output,hB.size,fun c hc hn=>hB.block c hc fun e=>by
   rcases e with e|e
   ·omega
   ·exact hn e.symm⟩,by
  obtain⟨vs,_,_,h3⟩:=h
  cases hu:u'.ownBlock with
  |none=>exact .inr fun g hg=>by cases hg
  |some g =>
   rcases(h3 g hu).2 with e|e
   ·exact .inr fun g' hg=>by cases hg;exact e
   ·exact .inl e.symm⟩
theorem U2{k:Nat}{r:GR α}{T:TypeId}{O O':zR}{w0 w:World}{u u' v:Value}{ys:List α}{ψ:Value->Value->Prop}(hB:Base (FrS w0 u) O w0 O' w)(h:zo k r T (FrS w0 u) O' w u' ys)(hk:k≠0)(hv:ψ v u'):AG r T O w0 u ys ψ (.returned v) w:=by
 refine⟨v,u',rfl,MZ hB h,?_,hv⟩;obtain⟨vs,h1,h2,h3⟩:=h;refine⟨vs,h1,h2.mono ⟨zLT _,fun c hc h0=>⟨?_,rfl⟩⟩⟩
 rw[vt fun e=>by rw[(h3 c e).1]at h0;exact hk h0]
 exact hB.zero c hc h0
theorem CY{k:Nat}{r:GR α}{T:TypeId}{B:Nat->Prop}{O:zR}{w:World}{u:Value}{xs ys:List α}(h:zo k r T B O w u xs){m:Int}{n:Nat}(hs:(sub xs 0 m).run n=some ys):zo k r T B O w (Mi u ys.length) ys:=by
 obtain⟨⟨_,h2',h3'⟩,h4'⟩:=jd hs;obtain⟨vs,h1,h2,h3⟩:=h;have hl:=h2.len
 have e4:ys=xs.take m.toNat:=by simpa using h4'.symm
 have e5:ys.length=m.toNat:=by rw[e4,zLm];omega
 refine⟨vs.take ys.length,Nj h1 (by omega),?_,fun g hg=>h3 g (by rw[<-hg,DW])⟩
 have e6:ys=xs.take ys.length:=by rw[e5];exact e4
 conv=>rhs;rw[e6]
 exact h2.take _
def rL:Value->Nat->Nat->Value
 |.slice a n c,lo,E=>.slice (if c=lo then a else a.map (·.add (lo * E))) (n-lo) (c-lo)
 |v,_,_=>v
section ops
variable {P:Program} {a:Act} {w:World} {d:Option Tmp} {T:TypeId} {pos:String} {aft:Array Edge} {g:Option (Nat×Bool)}
theorem AY{x l:Operand}{X e:TypeId}{r:GR α}{O:zR}{xs ys:List α}{n:Int}{k:IntKind}{m:Nat}{z sz by_ dd z' E by_'}(hT:Eng.Ty P X (.slice e) z sz by_)(he:Eng.Ty P e dd z' E by_')(hE:r.sz=E){u:Value}(hu:a.eval x=u)(hx:(rSl r).v O w u xs)(hl:a.eval l=.int k n)(hr:(sub xs n xs.length).run m=some ys) :
  Ok P ⟨d,.slice X x (some l) none none,T,pos,aft,g⟩ a w (SP.isv (rL u n.toNat E)).holds:=by
 obtain⟨⟨h1,h2,h3⟩,h4⟩:=jd hr;obtain⟨vs,s1,s2,s3⟩:=YB.1 hx;subst hE;have kA:=s2.len
 obtain⟨p,c,hu',hc⟩:=s1.slice;rw[hu']at hu;refine y8 (v:=rL u n.toNat r.sz) (w':=w) ?_ (Ext.refl w) rfl;simp[execOp,Instr.sliceAt,Instr.slice,Instr.sliceBounds,hu,hl,hT.gR,he.zu,gO h1 (show n<=(vs.length:Int) by omega),hu',rL]
end ops
theorem range_zero(zc:Array Value)(n:Nat):(Builtin.zeroCells zc n).toList=(List.replicate n zc.toList).flatten:=by
 simp only[Builtin.zeroCells,Array.toList_map,Array.toList_range]
 induction n with
 |zero=>simp
 |succ n ih =>
  rw[Nat.add_mul,Nat.one_mul,List.range_add,List.map_append,ih,List.replicate_succ',List.flatten_append]
  congr 1
  simp only[List.flatten_cons,List.flatten_nil,zLx,List.map_map];apply List.ext_getElem
  ·simp
  ·intro i h1 h2
   have hi:i<zc.size:=by simpa using h1
   simp[Nat.add_mod,Nat.mod_eq_of_lt hi,hi]
section tails
variable {P:Program} {a:Act} {w:World} {T:TypeId} {pos:String} {aft:Array Edge} {g:Option (Nat×Bool)} {K:Act->World->Prop} {Q:Exit->Act->World->Prop} {A:Nat->Prop}
theorem Ua{x:Operand}{t e E k:Nat}{m:Int}{nf:Nat}{r:GR α}(hr:r.fits)(hE:r.sz=E){O O0:zR}{w0:World}(tU:OkO O0 w0)(hB:Base A O0 w0 O w){B:Nat->Prop}(t8:OkB A w0 B){xs ys:List α}{u z:Value}{z0:α}{z1 s1 b1 dd b2}(hT:Eng.Ty P t (.slice e) z1 s1 b1)(he:Eng.Ty P e dd z E b2)(hx:a.eval x=rL u m.toNat E)(hO:zo k r e B O w u xs)(hk:k≠0)(hs:(sub xs m xs.length).run nf=some ys)(hz:∀O w,r.v O w z z0)
  (hK:∀w',zo k r e B O w' u (xs.take m.toNat++List.replicate (xs.length-m.toNat) z0)->Base A O0 w0 O w'->KX (some k) O w O w'->K (a.put none (.tuple #[])) w'):Oper.wp P ⟨none,.call ⟨.builtin .clear,#[x],#[t]⟩,T,pos,aft,g⟩ a w K Q:=by
 obtain⟨⟨h1',h2',_⟩,_⟩:=jd hs;have hlo:m.toNat<=xs.length:=by omega
 clear hs h1' h2';generalize m.toNat=lo at hx hK hlo;subst hE;have sT:=hO.ge
 have x4:=hO.tagged;have hO':=hO
 obtain⟨vs,h1,h2,h3⟩:=hO;have kA:=h2.len
 have hu:(underlying t).run P w=.ok (.slice e) w:=by simp[underlying,hT.u]
 have zsz:z.cells.size=r.sz:=r.ZT hr (hz O w);by_cases h0:xs.length-lo=0
 ·have e:xs.take lo++List.replicate (xs.length-lo) z0=xs:=by rw[h0,List.take_of_length_le (by omega)];simp
  rw[e]at hK;refine qx (v:=.tuple #[]) (w':=w) ?_ (hK w hO' hB ⟨zLT _,fun _ _ _=>⟨rfl,rfl⟩⟩)
  obtain⟨p,c,hu',hc⟩:=h1.slv.slice;have:vs.length-lo=0:=by omega
  cases p<;>by_cases aR:c=lo<;>simp[execOp,resolve,invoke,builtin,hx,hu',rL,Builtin.clear_,hu,this,aR]
 ·rcases h1.row.2 with ⟨_,h4⟩|⟨g,cap,cur,hu',oL,hg,cU,eP,tW,eQ⟩
  ·omega
  have aR:¬cap=lo:=by omega
  have hxv:rL u lo r.sz=.slice (some ⟨g,lo * r.sz,none⟩) (vs.length-lo) (cap-lo):=by
   rw[hu'];simp only[rL,zLs aR,Option.map_some,jw,Nat.zero_add]
  have hLl:(List.replicate (vs.length-lo) z.cells.toList).flatten.length=(vs.length-lo) * r.sz:=by simp[zsz]
  have hmul:vs.length * r.sz=lo * r.sz+(vs.length-lo) * r.sz:=by rw[<-Nat.add_mul];congr 1;omega
  have sX:vs.length * r.sz<=cap * r.sz:=Nat.mul_le_mul_right _ cU;have bR:∀v∈(List.replicate (vs.length-lo) z.cells.toList).flatten,v.oneCell'=true:=by
   intro v hv;obtain⟨l,hl,oO⟩:=List.mem_flatten.1 hv;rw[List.eq_of_mem_replicate hl]at oO;exact r.cells_one hr (hz O w) v oO
  obtain⟨w',cs',s1,s2,s3,s4,s5,s6,s7,s8,s9⟩:=kG (P:=P) (off:=lo * r.sz) (List.replicate (vs.length-lo) z.cells.toList).flatten 0 w cur bR hg (by rw[hLl,tW];omega)
  have h5:Appd w w' u u:=⟨⟨s5,s6,s7,by omega,fun c _ hc=>s9 c (fun e=>hc (by rw[hu',e];rfl))⟩,.inl rfl⟩
  have sU:KX (some k) O w O w':=⟨h5.by_.size,fun b hb iW=>⟨rfl,h5.by_.block b hb (fun e=>iW (by rw[x4 b e.symm]))⟩⟩
  have k0:=sU.keep (k:=0) (by simpa using hk.symm)
  have sB:=hB.size;have aP:=h5.by_.size
  have f8:∀x∈vs.take lo++List.replicate (vs.length-lo) z,x.cells.size=r.sz:=by
   intro x hx';rcases zLa.1 hx' with h|h
   ·exact h1.sz x (List.mem_of_mem_take h)
   ·rw[List.eq_of_mem_replicate h];exact zsz
  have hl':(vs.take lo++List.replicate (vs.length-lo) z).length=vs.length:=by simp;omega
  have aH:flat (vs.take lo++List.replicate (vs.length-lo) z)=cur.toList.take (lo * r.sz)++(List.replicate (vs.length-lo) z.cells.toList).flatten:=by
   have e1:flat (vs.take lo++List.replicate (vs.length-lo) z)=flat (vs.take lo)++flat (List.replicate (vs.length-lo) z):=by unfold flat;rw[List.flatMap_append]
   rw[e1,<-wJ h1.sz lo,<-eQ,List.take_take,Nat.min_eq_left (by omega)]
   congr 1
   unfold flat
   rw[List.flatMap_def,List.map_replicate]
  have hO2:OwnS w' 0 e r.sz u (vs.take lo++List.replicate (vs.length-lo) z):=by
   refine⟨f8,by rw[JD f8],.inr ⟨g,cap,cs',by rw[hu',hl'],oL,s2,by rw[hl'];exact cU,eP,by rw[s3,tW],?_⟩⟩
   rw[aH,hl'];apply List.ext_getElem?;intro j;have hcl':cur.toList.length=cap * r.sz:=by rw[Array.length_toList,tW]
   rw[List.getElem?_take,List.getElem?_append,zLm,hcl',Nat.min_eq_left (by omega)]
   have hj:=s4 j;rw[hLl,Nat.add_zero]at hj;by_cases ha:j<lo * r.sz
   ·rw[zLr (by omega),zLr ha,List.getElem?_take,zLr ha,Array.getElem?_toList,hj,zLs (by omega),Array.getElem?_toList]
   ·rw[zLs ha]
    by_cases hb:j<vs.length * r.sz
    ·rw[zLr hb,Array.getElem?_toList,hj,zLr (by omega)]
    ·rw[zLs hb,List.getElem?_eq_none (by rw[hLl];omega)]
  have iZ:yk r O w' (vs.take lo++List.replicate (vs.length-lo) z) (xs.take lo++List.replicate (xs.length-lo) z0):=by
   rw[kA];exact yk.append ((h2.mono k0).take lo) (yk.replicate (hz O w') _)
  refine qx (v:=.tuple #[]) (w':=w') ?_ (hK w' ⟨_,hO2,iZ,h3⟩ ?_ sU)
  ·obtain⟨n1,eU⟩:∃n1,vs.length-lo=n1+1:=⟨vs.length-lo-1,by omega⟩
   rw[eU]at hxv s1;rw[<-range_zero]at s1;simp[execOp,resolve,invoke,builtin,hx,hxv,Builtin.clear_,hu,he.kM,s1]
  ·exact⟨h5.by_.os.trans hB.os,h5.by_.tape.trans hB.tape,h5.by_.output.trans hB.output,by omega,fun b hb cW=>(h5.by_.block b (by omega) (fun e=>cW (t8.sub b (sT b e.symm).1))).trans (hB.block b hb cW),
    fun b hb'=>hB.ok b (by omega),hB.old,fun b _ ho=>by
     by_cases gF:b<w.heap.size
     ·exact hB.zero b gF ho
     ·exact tU b (by omega),hB.new⟩
end tails
end Go.Den
end
section
namespace Go.Den
open Go Go.RowKit Go.Eng Go.Lift
variable {α β γ δ:Type}
inductive AV
 |rd (t:Ty) (x:t.D)
 |pt (t:Ty) (x:t.D)
 |ob (k:Nat)
 |bx (k off:Nat)
 |ba (k off sz:Nat) (i:Int) (esz off2:Nat)
 |el (k:Nat) (i:Int) (esz off2:Nat)
 |pq (t:Ty) (x:t.D)
 |cl (f:FuncId) (a b:AV)
 |un
 |pr (a b:AV)
 |tp (l:AV)
 |ag (l:AV)
 |ex (v:Value)
 |nb (p e:Bool)
 |em (t:Ty)
 |sx (k lo esz:Nat)
 |px (k n:Nat)
 |yl
 |top
structure Cx where
 P:Program
 O:zR
 U:Nat->Value
 n:Nat
 ι:Nat->Nat
 A:Nat->Prop
 F:Nat->Prop
 ep:Nat
 Lp:Nat
def Cx.B(X:Cx)(nw:Bool):Nat->Prop:=match nw with
 |true=>X.F
 |false=>X.A
structure AVS where
 v:Value->Prop
 l:List Value->Prop
 c:List Value->Prop
def one(v:Value->Prop):AVS:=⟨v,fun _=>False,fun cs=>∃u,cs=[u]/\u.oneCell'=true/\v u⟩
def AV.sem(X:Cx)(w:World):AV->AVS
 |.rd t x=>⟨fun u=>(t.gr X.P).v X.O w u x,fun _=>False,fun cs=>(t.gr X.P).rel X.O w cs x⟩
 |.pt t x=>one fun u=>lL (t.gr X.P) X.O w u x/\0<t.sz
 |.ob k=>one fun u=>u=X.U k/\k<X.n/\u.oneCell'=true
 |.bx k off=>one fun u=>k<X.n/\∃b,X.U k=.pointer (some ⟨b,0,none⟩)/\u=.pointer (some ⟨b,off,none⟩)
 |.ba k off sz i esz off2=>one fun u=>k<X.n/\0<=i/\i.toNat * esz+esz<=sz/\∃b,X.U k=.pointer (some ⟨b,0,none⟩)/\u=.pointer (some ⟨b,off+i.toNat * esz+off2,none⟩)
 |.el k i esz off2=>one fun u=>k<X.n/\0<=i/\(∃p n c,X.U k=.slice p n c/\i<n)/\nV (X.U k) (i.toNat * esz+off2) u
 |.pq t x=>⟨fun u=>∃v,Yy w u v/\(t.gr X.P).v X.O w v x,fun _=>False,fun _=>False⟩
 |.cl f a b=>one fun u=>∃vs us,(a.sem X w).l vs/\(b.sem X w).l us/\u=.func (.func f) vs.toArray us.toArray
 |.un=>⟨fun _=>False,fun vs=>vs=[],fun cs=>cs=[]⟩
 |.pr a b=>⟨fun _=>False,fun vs=>∃v vs',vs=v::vs'/\(a.sem X w).v v/\(b.sem X w).l vs',fun cs=>∃c1 c2,cs=c1++c2/\(a.sem X w).c c1/\(b.sem X w).c c2⟩
 |.tp l=>⟨fun u=>∃vs,(l.sem X w).l vs/\u=.tuple vs.toArray,fun _=>False,fun _=>False⟩
 |.ag l=>⟨fun u=>∃cs,(l.sem X w).c cs/\u=.agg cs.toArray,fun _=>False,fun cs=>(l.sem X w).c cs⟩
 |.ex v=>⟨fun u=>u=v,fun _=>False,fun cs=>cs=v.cells.toList⟩
 |.em t=>one fun u=>∃p,u=.slice p 0 0/\(p=none\/∃b off,p=some ⟨b,off,none⟩)
 |.sx k lo esz=>one fun u=>u=rL (X.U k) lo esz/\k<X.n
 |.px k n=>one fun u=>(u=Mi (X.U k) n/\∃p l c,X.U k=.slice p l c/\n<=l)/\k<X.n
 |.yl=>one fun u=>u=.func (.yield X.Lp) #[] #[]
 |.nb p e=>⟨fun u=>∃b,u=.bool b/\(b=p->e=true),fun _=>False,fun _=>False⟩
 |.top=>⟨fun _=>True,fun _=>False,fun _=>False⟩
abbrev AV.holds(X:Cx)(w:World)(u:Value)(φ:AV):Prop:=(φ.sem X w).v u
def AV.zg:AV->Bool
 |.pq ..=>true
 |.pr a b=>a.zg || b.zg
 |.tp l=>l.zg
 |.ag l=>l.zg
 |.cl _ a b=>a.zg || b.zg
 |_=>false
structure Cx.le(X:Cx)(w:World)(X':Cx)(w':World):Prop where
 P:X'.P=X.P
 k:zb 0 X.O w X'.O w'
 U:∀k,k<X.n->X'.U k=X.U k
 n:X.n<=X'.n
 L:X'.Lp=X.Lp
theorem Cx.le_refl(X:Cx)(w:World):X.le w X w:=⟨rfl,zb.refl _ _ _,fun _ _=>rfl,zLT _,rfl⟩
theorem Cx.le_ext(X:Cx){w w':World}(h:Ext w w'):X.le w X w':=⟨rfl,zb.ext h,fun _ _=>rfl,zLT _,rfl⟩
theorem vL{p q:Value->Prop}(h:∀u,p u->q u):(∀u,(one p).v u->(one q).v u)/\(∀vs,(one p).l vs->(one q).l vs)/\(∀cs,(one p).c cs->(one q).c cs) :=
 ⟨h,fun _ h=>h,fun cs ⟨u,h1,h2,h3⟩=>⟨u,h1,h2,h u h3⟩⟩
theorem AV.mono{X X':Cx}{w w':World}(hX:X.le w X' w')(φ:AV)(hf:φ.zg=true->Ext w w'):(∀u,(φ.sem X w).v u->(φ.sem X' w').v u)/\(∀vs,(φ.sem X w).l vs->(φ.sem X' w').l vs)/\(∀cs,(φ.sem X w).c cs->(φ.sem X' w').c cs):=by
 induction φ with
 |rd t x =>
  refine⟨fun u h=>?_,fun _ h=>h,fun cs h=>?_⟩
  ·show (t.gr X'.P).v _ _ _ _;rw[hX.P];exact GR.y7 _ h hX.k
  ·show (t.gr X'.P).rel _ _ _ _;rw[hX.P];exact GR.mono _ hX.k h
 |pt t x =>
  refine vL fun u h=>?_
  have hs:0<(t.gr X.P).sz:=by rw[Ty.yh];exact h.2
  rw[hX.P];exact⟨h.1.keep hX.k hs (Ty.fits _ _),h.2⟩
 |ob k=>exact vL fun u h=>⟨by rw[h.1,hX.U k h.2.1],zLe h.2.1 hX.n,h.2.2⟩
 |bx k off =>
  refine vL fun u h=>?_
  obtain⟨h1,b,h2,h3⟩:=h;exact⟨zLe h1 hX.n,b,by rw[hX.U k h1];exact h2,h3⟩
 |ba k off sz i esz off2 =>
  refine vL fun u h=>?_
  obtain⟨h1,h2,h3,b,h4,h5⟩:=h;exact⟨zLe h1 hX.n,h2,h3,b,by rw[hX.U k h1];exact h4,h5⟩
 |el k i esz off2 =>
  refine vL fun u h=>?_
  obtain⟨h1,h2,h3,h4⟩:=h;exact⟨zLe h1 hX.n,h2,by rw[hX.U k h1];exact h3,by rw[hX.U k h1];exact h4⟩
 |pq t x =>
  refine⟨fun u h=>?_,fun _ h=>h,fun _ h=>h⟩
  obtain⟨v,h1,h2⟩:=h;refine⟨v,h1.ext (hf rfl),?_⟩;rw[hX.P];exact GR.y7 _ h2 hX.k
 |cl f a b iha ihb =>
  have iha:=iha fun h=>hf (by simp[AV.zg,h])
  have ihb:=ihb fun h=>hf (by simp[AV.zg,h])
  refine vL fun u h=>?_
  obtain⟨vs,us,h1,h2,h3⟩:=h;exact⟨vs,us,iha.2.1 _ h1,ihb.2.1 _ h2,h3⟩
 |un=>exact⟨fun _ h=>h,fun _ h=>h,fun _ h=>h⟩
 |pr a b iha ihb =>
  have iha:=iha fun h=>hf (by simp[AV.zg,h])
  have ihb:=ihb fun h=>hf (by simp[AV.zg,h])
  refine⟨fun _ h=>h,fun vs h=>?_,fun cs h=>?_⟩
  ·obtain⟨v,vs',h1,h2,h3⟩:=h
   exact⟨v,vs',h1,iha.1 _ h2,ihb.2.1 _ h3⟩
  ·obtain⟨c1,c2,h1,h2,h3⟩:=h
   exact⟨c1,c2,h1,iha.2.2 _ h2,ihb.2.2 _ h3⟩
 |tp l ih =>
  have ih:=ih hf;refine⟨fun u h=>?_,fun _ h=>h,fun _ h=>h⟩
  obtain⟨vs,h1,h2⟩:=h;exact⟨vs,ih.2.1 _ h1,h2⟩
 |ag l ih =>
  have ih:=ih hf;refine⟨fun u h=>?_,fun _ h=>h,fun cs h=>ih.2.2 _ h⟩
  obtain⟨cs,h1,h2⟩:=h;exact⟨cs,ih.2.2 _ h1,h2⟩
 |ex v=>exact⟨fun _ h=>h,fun _ h=>h,fun _ h=>h⟩
 |nb p e=>exact⟨fun _ h=>h,fun _ h=>h,fun _ h=>h⟩
 |em t=>exact⟨fun _ h=>h,fun _ h=>h,fun _ h=>h⟩
 |sx k lo esz=>exact vL fun u h=>⟨by rw[h.1,hX.U k h.2],zLe h.2 hX.n⟩
 |px k n=>exact vL fun u h=>⟨by rw[hX.U k h.2];exact h.1,zLe h.2 hX.n⟩
 |yl=>exact vL fun u h=>by rw[hX.L];exact h
 |top=>exact⟨fun _ h=>h,fun _ h=>h,fun _ h=>h⟩
theorem AV.ext{X:Cx}{w w' u}(φ:AV)(hE:Ext w w')(h:φ.holds X w u):φ.holds X w' u:=(φ.mono (X.le_ext hE) fun _=>hE).1 u h
theorem AV.le{X X':Cx}{w w' u}(φ:AV)(hf:φ.zg=false)(hX:X.le w X' w')(h:φ.holds X w u):φ.holds X' w' u:=(φ.mono hX fun h=>by rw[hf]at h;cases h).1 u h
inductive MV
 |sl (nw:Bool) (t:Ty) (T:TypeId) (xs:List t.D)
 |bx (nw:Bool) (c:AV) (T:TypeId)
 |fs (t:Ty) (xs:List t.D)
 |fb (t:Ty) (x:t.D)
 |fg (f:(t:Ty)->Option t.D)
 |mp (nw:Bool) (a b:Ty) (xs:List (a.D×b.D))
 |fm (a b:Ty) (xs:List (a.D×b.D))
 |dead
def MV.own:MV->Bool
 |.sl .. | .bx .. | .mp ..=>true
 |_=>false
def MV.holds(X:Cx)(w:World)(k:Nat):MV->Prop
 |.sl nw t T xs=>zo (X.ι k) (t.gr X.P) T (X.B nw) X.O w (X.U k) xs
 |.bx nw c T=>∃b cs,X.U k=.pointer (some ⟨b,0,none⟩)/\OwnB (X.ι k) (X.B nw) X.O w b cs T/\(c.sem X w).c cs.toList/\c.zg=false
 |.fs t xs=>(rSl (t.gr X.P)).v X.O w (X.U k) xs
 |.fb t x=>(KI (t.gr X.P)).v X.O w (X.U k) x
 |.fg f=>∀t x,f t=some x->(KI (t.gr X.P)).v X.O w (X.U k) x
 |.mp nw a b xs=>Z5 (X.ι k) (gX a) (b.gr X.P) (X.B nw) X.O w (X.U k) xs
 |.fm a b xs=>((Ty.mp a b).gr X.P).v X.O w (X.U k) xs
 |.dead=>True
theorem MV.le{X X':Cx}{w w':World}{k:Nat}(hX:X.le w X' w')(hk:k<X.n)(hι:X'.ι k=X.ι k)(hA:X'.A=X.A)(hF:X'.F=X.F)(m:MV)(h1:m.own=true->zb (X.ι k) X.O w X'.O w')(h:m.holds X w k):m.holds X' w' k:=by
 have hBB:X'.B=X.B:=by funext nw;cases nw<;>simp[Cx.B,hA,hF]
 cases m with
 |sl nw t T xs =>
  show zo _ _ _ _ _ _ _ _
  rw[hX.U k hk,hι,hX.P,hBB];exact zo.keep h hX.k (h1 rfl)
 |bx nw c T =>
  obtain⟨b,cs,h2,h3,h4,h5⟩:=h;refine⟨b,cs,by rw[hX.U k hk];exact h2,?_,(c.mono hX fun h=>by rw[h5]at h;cases h).2.2 _ h4,h5⟩
  rw[hι,hBB];exact h3.keep (h1 rfl)
 |fs t xs =>
  show (rSl _).v _ _ _ _
  rw[hX.U k hk,hX.P];exact GR.y7 _ h hX.k
 |fb t x =>
  show (KI _).v _ _ _ _
  rw[hX.U k hk,hX.P];exact GR.y7 _ h hX.k
 |fg f =>
  intro t x hx;rw[hX.U k hk,hX.P];exact GR.y7 _ (h t x hx) hX.k
 |mp nw a b xs =>
  show Z5 _ _ _ _ _ _ _ _
  rw[hX.U k hk,hι,hX.P,hBB];exact Z5.keep h hX.k (h1 rfl)
 |fm a b xs =>
  show ((Ty.mp a b).gr X'.P).v _ _ _ _
  rw[hX.U k hk,hX.P];exact GR.y7 _ h hX.k
 |dead=>trivial
abbrev LS:=List (Nat×Nat×AV)
abbrev MS:=List (Nat×Nat×MV)
def look{α:Type}:List (Nat×α)->Nat->Option α
 | [],_=>none
 |e::l,t=>bif Nat.beq e.1 t then some e.2 else look l t
def fresh(ep:Nat)(e:Nat×AV):Bool:=!e.2.zg || Nat.ble ep e.1
def Xi(L:LS)(X:Cx)(w:World)(a:Act):Prop:=∀t e,look L t=some e->fresh X.ep e=true->e.2.holds X w (a.get t)
def yD(M:MS)(X:Cx)(w:World):Prop:=∀k e,look M k=some e->e.2.holds X w k
abbrev Gd:=List (Nat×Bool)
structure RE where
 i:Nat
 d:Nat
 g:Gd
 φ:AV
abbrev RS':=List RE
def Zy:RS'->Nat->Option RE
 | [],_=>none
 |e::l,t=>bif Nat.beq e.d t then some e else Zy l t
def atR:RS'->Nat->Option RE
 | [],_=>none
 |e::l,i=>bif Nat.beq e.i i then some e else atR l i
def AV.bool?:AV->Option Bool
 |.rd .bool b=>some b
 |_=>none
def AV.bool(φ:AV):Bool:=φ.bool?.getD false
def AV.isBool(φ:AV):Bool:=φ.bool?.isSome
def Zk(R:RS')(g:Nat):Bool:=match atR R g with|some e=>e.φ.bool|none=>false
def vb(R:RS'):Gd->Prop
 | []=>True
 |c::G=>Zk R c.1=c.2/\vb R G
def UH(c:Nat×Bool):Gd->Bool
 | []=>false
 |e::G=>bif Nat.beq e.1 c.1 && (e.2 == c.2) then true else UH c G
def Mc:Gd->Gd->Bool
 | [],_=>true
 |c::G,H=>bif UH c H then Mc G H else false
theorem vb.mem{R:RS'}{c:Nat×Bool}:∀ {G:Gd},UH c G=true->vb R G->Zk R c.1=c.2
 | [],h,_=>by cases h
 |e::G,h,k=>by
  unfold UH at h
  cases hb:(Nat.beq e.1 c.1 && (e.2 == c.2)) with
  |true =>
   rw[zLR]at hb;have h1:=zLQ hb.1
   have h2:e.2=c.2:=by simpa using hb.2
   rw[<-h1,<-h2];exact k.1
  |false=>rw[hb]at h;exact vb.mem h k.2
theorem vb.sub{R:RS'}:∀ {G H:Gd},Mc G H=true->vb R H->vb R G
 | [],_,_,_=>trivial
 |c::G,H,h,k=>by
  unfold Mc at h
  cases hb:UH c H with
  |true=>rw[hb]at h;exact⟨vb.mem hb k,vb.sub h k⟩
  |false=>rw[hb]at h;cases h
def AV.ofC:Value->AV
 |.int k n=>.rd (.int k) n
 |.bool b=>.rd .bool b
 |.string s=>.rd .str (bs s)
 |v=>.ex v
theorem AV.wD(X:Cx)(w:World)(v:Value):(AV.ofC v).holds X w v:=by
 cases v<;>first|exact rfl|exact EX.2 rfl|exact j6.2 rfl|exact EW.2 (by rw[EF])
def rdO(ep:Nat)(L:LS)(R:RS')(G:Gd):Operand->Option AV
 |.tmp t=>match Zy R t with
  |some e=>bif Mc e.g G then some e.φ else none
  |none=>match look L t with
   |some e=>bif fresh ep e then some e.2 else none
   |none=>none
 |.const c=>some (AV.ofC c)
 |.func f=>some (.cl f .un .un)
 |.global _=>none
def C0(L:LS)(R:RS')(X:Cx)(w:World)(o:Oper)(a:Act):Prop :=
 ∀t,Yj o t=true->match Zy R t with
  |some e=>vb R e.g->e.φ.holds X w (a.get t)
  |none=>∀e,look L t=some e->fresh X.ep e=true->e.2.holds X w (a.get t)
def Wf:RS'->Prop
 | []=>True
 |e::R=>e.i=R.length/\Wf R
def OpS(X:Cx)(M:MS)(L:LS)(R:RS')(G:Gd)(o:Oper)(φ:AV):Prop :=
 ∀ {w:World} {a:Act},Wf R->OkO X.O w->yD M X w->C0 L R X w o a->vb R G->Ok X.P o a w (fun w v=>φ.holds X w v)
theorem Im{o:Oper}{t:Nat}(h:(.tmp t)∈o.op.operands):Yj o t=true:=by
 unfold Yj;rw[List.any_eq_true];exact⟨.tmp t,by simpa using h,by simp⟩
theorem mK{L:LS}{R:RS'}{G:Gd}{X:Cx}{w:World}{a:Act}{o:Oper}{x:Operand}{φ:AV}(h:rdO X.ep L R G x=some φ)(hx:x∈o.op.operands)(hk:C0 L R X w o a)(hc:vb R G):φ.holds X w (a.eval x):=by
 cases x with
 |tmp t =>
  have k:=hk t (Im hx);simp only[rdO]at h
  cases hl:Zy R t with
  |none =>
   rw[hl]at h k;simp only at h
   cases he:look L t with
   |none=>rw[he]at h;cases h
   |some e =>
    rw[he]at h;simp only at h
    cases hf:fresh X.ep e with
    |false=>rw[hf]at h;cases h
    |true=>rw[hf]at h;cases h;exact k e he hf
  |some e =>
   rw[hl]at h k;simp only[]at h k
   cases hs:Mc e.g G with
   |true=>rw[hs]at h;cases h;exact k (hc.sub hs)
   |false=>rw[hs]at h;cases h
 |const c=>cases h;exact AV.wD _ _ _
 |global g=>cases h
 |func f=>cases h;exact⟨[],[],rfl,rfl,rfl⟩
def AV.sps(X:Cx)(φ:AV):SP:=match φ.bool? with
 |some b=>.isv (.bool b)
 |none=>.pr (fun w v=>φ.holds X w v) (fun _ _ _ hE h=>φ.ext hE h)
theorem AV.ZV{φ:AV}{b:Bool}(h:φ.bool?=some b):φ=.rd .bool b:=by
 unfold AV.bool? at h;split at h
 ·cases h;rfl
 ·cases h
theorem AV.K4(X:Cx)(φ:AV)(w:World)(v:Value):(φ.sps X).holds w v↔φ.holds X w v:=by
 unfold AV.sps
 cases hb:φ.bool? with
 |some b=>rw[AV.ZV hb];exact j6.symm
 |none=>exact Iff.rfl
theorem AV.NJ(X:Cx)(φ:AV):(φ.sps X).vA=φ.bool:=by
 unfold AV.sps AV.bool;cases hb:φ.bool?<;>rfl
theorem AV.DL(X:Cx)(φ:AV):(φ.sps X).isBool=φ.isBool:=by
 unfold AV.sps AV.isBool;cases hb:φ.bool?<;>rfl
inductive RegS(X:Cx)(M:MS)(L:LS)(n:Nat):Nat->RS'->LS->List Oper->RS'->LS->List Oper->Prop
 |n {i R F tl}:RegS X M L n i R F tl R F tl
 |c {i R F o os R' F' tl φ d} (h:OpS X M L R [] o φ) (hs:RegS X M L n (i+1) (⟨i,d,[],φ⟩::R) ((d,n,φ)::F) os R' F' tl) (hd:o.dst=some d) (hg:o.guard=none):RegS X M L n i R F (o::os) R' F' tl
 |g {i R F o os R' F' tl φ d g want e} (h:vb R ((g,want)::e.g)->OpS X M L R ((g,want)::e.g) o φ) (hs:RegS X M L n (i+1) (⟨i,d,(g,want)::e.g,φ⟩::R) ((d,n,.top)::F) os R' F' tl)
   (hd:o.dst=some d) (hg:o.guard=some (g,want)) (he:atR R g=some e) (hb:e.φ.isBool=true):RegS X M L n i R F (o::os) R' F' tl
def phi(X:Cx)(R:RS'):List SP:=R.reverse.map fun e=>e.φ.sps X
theorem Km(X:Cx)(R:RS'):(phi X R).length=R.length:=by simp[phi]
theorem Wf.at{X:Cx}:∀ {R:RS'},Wf R->∀ {g e},atR R g=some e->g<R.length/\e.i=g/\(phi X R)[g]?=some (e.φ.sps X)
 | [],_,g,e,h=>by cases h
 |f::R,hw,g,e,h=>by
  unfold atR at h
  cases hb:Nat.beq f.i g with
  |true =>
   rw[hb]at h;cases h;have:=zLQ hb
   have h1:=hw.1;refine⟨by simp;omega,this,?_⟩
   rw[<-this,h1];simp[phi]
  |false =>
   rw[hb]at h;obtain⟨h1,h2,h3⟩:=Wf.at hw.2 h;refine⟨by simp;omega,h2,?_⟩
   simp only[phi,List.reverse_cons,List.map_append];rw[zLf (by simpa using h1)]
   exact h3
theorem Wf.Zk{X:Cx}{R:RS'}(hw:Wf R){g e}(h:atR R g=some e):Go.Den.Zk R g=((phi X R).map SP.vA).getD g false:=by
 obtain⟨h1,h2,h3⟩:=hw.at (X:=X) h;unfold Go.Den.Zk;rw[h,zLk,List.getElem?_map,h3];simp[AV.NJ]
theorem Wf.lt:∀ {R:RS'},Wf R->∀ {t e},Zy R t=some e->e.i<R.length/\atR R e.i=some e
 | [],_,t,e,h=>by cases h
 |f::R,hw,t,e,h=>by
  unfold Zy at h
  cases hb:Nat.beq f.d t with
  |true =>
   rw[hb]at h;cases h;refine⟨by have:=hw.1;simp;omega,?_⟩
   unfold atR;rw[zU,zLu rfl];rfl
  |false =>
   rw[hb]at h;obtain⟨h1,h2⟩:=Wf.lt hw.2 h;refine⟨by simp;omega,?_⟩
   unfold atR;rw[zU,zLt (by have:=hw.1;omega)]
   exact h2
theorem An{f:RE}{R:RS'}{g:Nat}(h:f.i≠g):Zk (f::R) g=Zk R g:=by
 have e:atR (f::R) g=atR R g:=by
  show (bif Nat.beq f.i g then some f else atR R g)=_
  rw[zU,zLt h];rfl
 unfold Zk;rw[e]
theorem vb.cons{f:RE}{R:RS'}:∀ {G:Gd},(∀c∈G,c.1≠f.i)->(vb (f::R) G↔vb R G)
 | [],_=>Iff.rfl
 |c::G,h=>by
  unfold vb;rw[An (fun e=>h c (by simp) e.symm),vb.cons (fun c hc=>h c (by simp[hc]))]
theorem Vv{os:List Oper}{i d:Nat}{o:Oper}(ho:os[i]?=some o)(hd:o.dst=some d)(t:Nat) :
  lw os (fun j=>Nat.blt j (i+1)) t=bif Nat.beq d t then some i else lw os (fun j=>Nat.blt j i) t:=by
 cases hb:Nat.beq d t with
 |true =>
  have:=zLQ hb;subst this;have h1:(fun j=>Nat.blt j (i+1))=(fun j=>Nat.blt j i || Nat.beq j i):=by
   funext j
   rw[zX,zX,zU];by_cases h:j<i<;>by_cases h2:j=i<;>simp[h,h2]<;>omega
  rw[h1];exact KO os 0 none (Nat.zero_le _) ⟨o,by simpa using ho,by simp[writes,hd]⟩ (fun j o' hj _ _=>by rw[zX,zLt (by omega)])
 |false =>
  refine X8 fun j o' ho' hw=>?_
  by_cases dG:j=i
  ·subst dG
   rw[ho]at ho';cases ho';simp only[writes,hd]at hw;rw[hb]at hw;cases hw
  ·rw[zX,zX]
   by_cases h:j<i
   ·rw[zLu h,zLu (by omega)]
   ·rw[zLt h,zLt (by omega)]
theorem RegS.pre{X M L n i R F os R' F' tl}(h:RegS X M L n i R F os R' F' tl):∃Y,R'=Y++R:=by
 induction h with
 |n=>exact⟨[],rfl⟩
 |c _ _ _ _ ih=>obtain⟨X,e⟩:=ih;exact⟨X++[_],by rw[e,zLl];rfl⟩
 |g _ _ _ _ _ _ ih=>obtain⟨X,e⟩:=ih;exact⟨X++[_],by rw[e,zLl];rfl⟩
theorem BP(X:Cx)(e:RE)(R:RS')(φs:List SP):phi X (e::R)++φs=phi X R++e.φ.sps X::φs:=by simp[phi]
theorem Gc(X:Cx)(Y:RS')(e:RE)(R:RS'):phi X (Y++e::R)=phi X R++(e.φ.sps X::phi X Y):=by simp[phi]
theorem R8:∀ {R:RS'},Wf R->∀ {g e},atR R g=some e->g<R.length
 | [],_,g,e,h=>by cases h
 |f::R,hw,g,e,h=>by
  unfold atR at h
  cases hb:Nat.beq f.i g with
  |true=>have:=zLQ hb;have h1:=hw.1;simp;omega
  |false=>rw[hb]at h;have:=R8 hw.2 h;simp;omega
theorem CN{f:RE}{R:RS'}(hw:Wf R){g e}(h:atR R g=some e)(hf:f.i=R.length):atR (f::R) g=some e:=by
 have:=R8 hw h;unfold atR;rw[zU,zLt (by omega)];exact h
theorem HT:∀ {Y R:RS'},Wf (Y++R)->∀ {g e},atR R g=some e->atR (Y++R) g=some e
 | [],_,_,_,_,h=>h
 |f::Y,R,hw,g,e,h=>CN hw.2 (HT hw.2 h) hw.1
structure RG(all:List Oper)(L:LS)(n:Nat)(cs:List Bool)(R:RS')(F:LS):Prop where
 wf:Wf R
 lw:∀t,lw all (fun j=>Nat.blt j R.length) t=(Zy R t).map RE.i
 act:∀g e,atR R g=some e->(act all cs g=true↔vb R e.g)
 gb:∀g e,atR R g=some e->∀c∈e.g,c.1<R.length
 f:∀t χ,look F t=some χ->(χ.1=n/\(χ.2=.top\/(∃e,Zy R t=some e/\e.g=[]/\e.φ=χ.2)))\/(Zy R t=none/\look L t=some χ)
theorem RG.step{all:List Oper}{L:LS}{n:Nat}{cs:List Bool}{R:RS'}{F:LS}(h:RG all L n cs R F){o:Oper}{d:Nat}{G:Gd}{φ ψ:AV}(ho:all[R.length]?=some o)(hd:o.dst=some d)
  (ha:Eng.act all cs R.length=true↔vb R G) (hG:∀c∈G,c.1<R.length) (hψ:ψ=.top\/(G=[]/\ψ=φ)):RG all L n cs (⟨R.length,d,G,φ⟩::R) ((d,n,ψ)::F):=by
 have hc:∀ {H:Gd},(∀c∈H,c.1<R.length)->(vb (⟨R.length,d,G,φ⟩::R) H↔vb R H):=fun hH=>vb.cons fun c hc=>by have:=hH c hc;show c.1≠R.length;omega
 refine⟨⟨rfl,h.wf⟩,fun t=>?_,fun g e hg=>?_,fun g e hg c hc'=>?_,fun t χ hχ=>?_⟩
 ·rw[zLZ,Vv ho hd,h.lw]
  show _=Option.map RE.i (bif Nat.beq d t then some _ else Zy R t)
  cases Nat.beq d t<;>rfl
 ·unfold atR at hg
  cases hb:Nat.beq R.length g with
  |true =>
   rw[hb]at hg;cases hg;rw[<-zLQ hb,hc hG];exact ha
  |false =>
   rw[hb]at hg;rw[hc (h.gb g e hg)];exact h.act g e hg
 ·unfold atR at hg
  cases hb:Nat.beq R.length g with
  |true=>rw[hb]at hg;cases hg;have:=hG c hc';simp;omega
  |false=>rw[hb]at hg;have:=h.gb g e hg c hc';simp;omega
 ·show (χ.1=n/\(χ.2=.top\/(∃e,(bif Nat.beq d t then some _ else Zy R t)=some e/\e.g=[]/\e.φ=χ.2)))\/((bif Nat.beq d t then some _ else Zy R t)=none/\look L t=some χ)
  unfold look at hχ
  cases hb:Nat.beq d t with
  |true =>
   simp only[hb]at hχ;cases hχ;rcases hψ with h1|⟨h1,h2⟩
   ·exact .inl ⟨rfl,.inl h1⟩
   ·exact .inl ⟨rfl,.inr ⟨_,rfl,h1,h2.symm⟩⟩
  |false =>
   simp only[hb]at hχ;exact h.f t χ hχ
theorem yD.ext{M X w w'}(hn:∀k e,look M k=some e->k<X.n)(h:yD M X w)(hE:Ext w w'):yD M X w':=fun k e hf=>MV.le (X.le_ext hE) (hn k e hf) rfl rfl rfl _ (fun _=>zb.ext hE) (h k e hf)
theorem Xi.ext{L X w w' a}(h:Xi L X w a)(hE:Ext w w'):Xi L X w' a:=fun t e hf hs=>e.2.ext hE (h t e hf hs)
section
variable {M:MS} {L:LS} {n:Nat} {all:List Oper} {X:Cx} {a:Act} {w:World} {N:Nat}
theorem RG.obl{Φ:List SP}{R:RS'}{F:LS}(h:RG all L n (Φ.map SP.vA) R F)(hp:∃Y,Φ=phi X R++Y)(hO:OkO X.O w)(cK:∀k e,look M k=some e->k<X.n)(hM:yD M X w)(hL:Xi L X w a){o:Oper}{G:Gd}{φ:AV}
  (ha:Eng.act all (Φ.map SP.vA) R.length=true↔vb R G) (hS:vb R G->OpS X M L R G o φ):zID X.P all Φ a w R.length o (φ.sps X):=by
 intro a' w' hE hK fP;have e:(φ.sps X).holds=fun w v=>φ.holds X w v:=by funext w v;exact propext (AV.K4 X φ w v)
 rw[e];have hG:=ha.1 fP
 refine hS hG h.wf (hO.ext hE) (hM.ext cK hE) (fun t ht=>?_) hG
 have k:=hK t ht;unfold Xh at k;rw[h.lw t]at k
 cases hl:Zy R t with
 |none =>
  rw[hl]at k;simp only[Option.map_none]at k |-;rw[k];exact fun e hφ hs=>e.2.ext hE (hL t e hφ hs)
 |some e =>
  rw[hl]at k;simp only[Option.map_some]at k |-;intro hc;obtain⟨h1,h2⟩:=h.wf.lt hl;obtain⟨_,_,h3⟩:=h.wf.at (X:=X) h2;obtain⟨Y,hX⟩:=hp;have h4:=k.1 ((h.act _ _ h2).2 hc)
  rw[hX,zLk,zLf (by rw[Km];exact h1),h3]at h4
  exact(AV.K4 X e.φ w' _).1 h4
theorem RG.zLH{cs:List Bool}{R:RS'}{o:Oper}(ho:all[R.length]?=some o)(hg:o.guard=none):Eng.act all cs R.length=true↔vb R [] :=
 ⟨fun _=>trivial,fun _=>Kg ho hg⟩
theorem RG.zLG{Φ:List SP}{R:RS'}{F:LS}(h:RG all L n (Φ.map SP.vA) R F)(hp:∃Y,Φ=phi X R++Y)(fA:zw N all=true){o:Oper}{g:Nat}{want:Bool}{e:RE}(ho:all[R.length]?=some o)(hg:o.guard=some (g,want))(he:atR R g=some e) :
  Eng.act all (Φ.map SP.vA) R.length=true↔vb R ((g,want)::e.g):=by
 obtain⟨Y,hX⟩:=hp;have hb:=h.wf.Zk (X:=X) he
 have gF:=(h.wf.at (X:=X) he).1;have e1:(Φ.map SP.vA).getD g false=Zk R g:=by
  rw[hb,hX,List.map_append,zLk,zLk,zLf (by simp[Km,gF])]
 rw[Kf (Zh fA) ho hg,e1,zLR,h.act g e he,beq_iff_eq];exact⟨fun ⟨h1,h2⟩=>⟨h2,h1⟩,fun ⟨h1,h2⟩=>⟨h2,h1⟩⟩
theorem RegS.zKo{Φ:List SP}(fA:zw N all=true)(hO:OkO X.O w)(cK:∀k e,look M k=some e->k<X.n)(hM:yD M X w)(hL:Xi L X w a):∀ {i R F os R' F' tl},RegS X M L n i R F os R' F' tl->Φ=phi X R'->R.length=i->(∀j,os[j]?=all[i+j]?)->RG all L n (Φ.map SP.vA) R F ->
  RG all L n (Φ.map SP.vA) R' F'/\(∃φs,Φ=phi X R++φs/\OblsS X.P all Φ a w i os φs tl)/\(∀j o g want,i<=j->j<R'.length->all[j]?=some o->o.guard=some (g,want)->∃e,atR R' g=some e/\e.φ.isBool=true):=by
 intro i R F os R' F' tl h
 induction h with
 |n=>exact fun hΦ hi x9 hR=>⟨hR,⟨[],by rw[hΦ];simp,.nil⟩,fun j o g want h1 h2=>by omega⟩
 | @c i R F o os R' F' tl φ d h hs hd hg ih =>
  intro hΦ hi x9 hR;subst hi;have ho:=(x9 0).symm
  simp only[List.getElem?_cons_zero,Nat.add_zero]at ho;obtain⟨Y,hX⟩:=hs.pre;have hp:∃Y,Φ=phi X R++Y:=⟨_,by rw[hΦ,hX];exact Gc X Y _ R⟩
  have ha:=RG.zLH (cs:=Φ.map SP.vA) ho hg;have f9:=hR.step ho hd (φ:=φ) (ψ:=φ) ha (by simp) (.inr ⟨rfl,rfl⟩)
  obtain⟨h1,⟨φs,e2,h2⟩,h3⟩:=ih hΦ rfl (fun j=>by have:=x9 (j+1);simp only[List.getElem?_cons_succ]at this;rw[this];congr 1;omega) f9
  refine⟨h1,⟨_::φs,by rw[e2,BP],.cons (hR.obl hp hO cK hM hL ha (fun _=>h)) h2⟩,fun j o' g' want' hj gF ho' hg'=>?_⟩
  by_cases hjj:j=R.length
  ·subst hjj
   rw[ho]at ho';cases ho';rw[hg]at hg';cases hg'
  ·exact h3 j o' g' want' (by omega) gF ho' hg'
 | @g i R F o os R' F' tl φ d g want e h hs hd hg he hb ih =>
  intro hΦ hi x9 hR;subst hi;have ho:=(x9 0).symm
  simp only[List.getElem?_cons_zero,Nat.add_zero]at ho;obtain⟨Y,hX⟩:=hs.pre;have hp:∃Y,Φ=phi X R++Y:=⟨_,by rw[hΦ,hX];exact Gc X Y _ R⟩
  have ha:=hR.zLG hp fA ho hg he;have f9:=hR.step ho hd (φ:=φ) (ψ:=.top) ha (fun c hc=>by rcases zLV.1 hc with rfl|hc;exact(hR.wf.at (X:=X) he).1;exact hR.gb _ _ he c hc) (.inl rfl)
  obtain⟨h1,⟨φs,e2,h2⟩,h3⟩:=ih hΦ rfl (fun j=>by have:=x9 (j+1);simp only[List.getElem?_cons_succ]at this;rw[this];congr 1;omega) f9
  refine⟨h1,⟨_::φs,by rw[e2,BP],.cons (hR.obl hp hO cK hM hL ha h) h2⟩,fun j o' g' want' hj gF ho' hg'=>?_⟩
  by_cases hjj:j=R.length
  ·subst hjj
   rw[ho]at ho';cases ho';rw[hg]at hg';cases hg';exact⟨_,by rw[hX];exact HT (hX ▸ h1.wf) (CN hR.wf he rfl),hb⟩
  ·exact h3 j o' g' want' (by omega) gF ho' hg'
theorem RG.start(cs:List Bool):RG all L n cs [] L:=by
 refine⟨trivial,fun t=>?_,fun _ _ h=>(nomatch h),fun _ _ h=>(nomatch h),fun t φ h=>.inr ⟨rfl,h⟩⟩
 cases h:Eng.lw all (fun j=>Nat.blt j ([]:RS').length) t with
 |none=>rfl
 |some i =>
  have:=(uh h).1;rw[zX]at this;simp at this
theorem RG.Xp{Φ:List SP}{R:RS'}{F:LS}(h:RG all L n (Φ.map SP.vA) R F)(hΦ:Φ=phi X R){a':Act}{w':World}(hE:Ext w w')(hL:Xi L X w a)(hK:∀t,Xh all Φ a R.length t w' (a'.get t)):Xi F X w' a':=by
 intro t χ hf hs;have k:=hK t
 unfold Xh at k;rw[h.lw t]at k;rcases h.f t χ hf with ⟨_,h1|⟨e,h1,h2,h3⟩⟩|⟨h1,h2⟩
 ·rw[h1];trivial
 ·rw[h1]at k
  simp only[Option.map_some]at k;obtain⟨h4,h5⟩:=h.wf.lt h1;obtain⟨_,_,h6⟩:=h.wf.at (X:=X) h5;have h7:=k.1 ((h.act _ _ h5).2 (by rw[h2];trivial))
  rw[hΦ,zLk,h6]at h7;rw[<-h3];exact(AV.K4 X e.φ w' _).1 h7
 ·rw[h1]at k
  simp only[Option.map_none]at k;rw[k];exact χ.2.ext hE (hL t χ h2 hs)
end
structure TI where
 dd:TypeDesc
 z:Value
 sz:Nat
 by_:Nat
 fl:List (Nat×Nat×Nat)
 τ:Ty
 eq:Nat
 kq:Bool
abbrev TE:=List (Nat×TI)
structure TI.ok(P:Program)(X:TypeId)(i:TI):Prop where
 ty:Eng.Ty P X i.dd i.z i.sz i.by_
 fl:∀f e,i.fl[f]?=some e->Fld P X f e.1 e.2.1 e.2.2
 pl:i.fl=[]\/Plc P X (i.fl.map (fun e=>(e.2.1,e.2.2+1))).toArray
 eq:i.eq≠0->EqT P X i.τ i.eq/\i.eq<=10000/\(i.τ.agg=true->P.eqGuardType P.depth X=false)
 key:i.kq=true->KeyB P X i.τ
def TOk(P:Program)(T:TE):Prop:=∀X i,look T X=some i->i.ok P X
structure FS where
 ps:Ty
 rs:Ty
 rk:List (Option TypeId)
 sem:ps.D->Comp rs.D
def EP(P:Program)(O:zR)(B:Nat)(w:World)(k:Option TypeId):(a:Ty)->Value->a.D->Prop:=fun a v y=>match k with
 |none=>(a.gr P).v O w v y
 |some T=>match a,y with
  |.sl e,y=>kx (e.gr P) T B O w v y
  |_,_=>False
def nN(k:Option TypeId)(v:Value):Option Nat:=match k with
 |some _=>v.ownBlock
 |none=>none
def K0:List (Option TypeId)->List Value->List Nat
 |k::ks,v::vs=>(nN k v).toList++K0 ks vs
 |_,_=>[]
def Y0(P:Program)(O:zR)(B:Nat)(w:World):List (Option TypeId)->(rs:Ty)->List Value->rs.D->Prop
 |k::ks,.cons a b,vs,y=>∃v vs',vs=v::vs'/\EP P O B w k a v y.1/\Y0 P O B w ks b vs' y.2/\∀g,nN k v=some g->g ∉ K0 ks vs'
 | [],.nil,vs,_=>vs=[]
 |_,_,_,_=>False
def FS.ok(P:Program)(f:FuncId)(s:FS):Prop :=
 FnOk P f/\∀O w,OkO O w->∀vs x,s.ps.args P O w vs x->∀n y,(s.sem x).run n=some y->Pure P f vs.toArray w (fun w' v=>∃rs,kP rs v/\Y0 P O w.heap.size w' s.rk s.rs rs y)
def ioT:List (Option TypeId)->Ty->Ty
 |some _::io,.cons (.box e) q=>.cons e (ioT io q)
 |none::io,.cons _ q=>ioT io q
 |_,_=>.nil
structure FM where
 ps:Ty
 io:List (Option TypeId)
 rs:Ty
 sem:ps.D->Comp ((ioT io ps).D×rs.D)
def MIn(P:Program)(O:zR)(w:World):List (Option TypeId)->(ps:Ty)->List Nat->List Value->ps.D->Prop
 |some T::io,.cons (.box e) q,bl,vs,x=>∃b bl' vs' cs,bl=b::bl'/\vs=.pointer (some ⟨b,0,none⟩)::vs'/\Own w b cs T/\O b≠0/\(∀c∈bl',O c≠O b)/\(e.gr P).rel O w cs.toList x.1/\MIn P O w io q bl' vs' x.2
 |none::io,.cons a q,bl,vs,x=>∃v vs',vs=v::vs'/\(a.gr P).v O w v x.1/\MIn P O w io q bl vs' x.2
 | [],.nil,bl,vs,_=>bl=[]/\vs=[]
 |_,_,_,_,_=>False
def D4(P:Program)(O:zR)(w:World):(io:List (Option TypeId))->(ps:Ty)->List Nat->(ioT io ps).D->Prop
 |some T::io,.cons (.box e) q,bl,y=>∃b bl' cs,bl=b::bl'/\Own w b cs T/\(e.gr P).rel O w cs.toList y.1/\D4 P O w io q bl' y.2
 |none::io,.cons _ q,bl,y=>D4 P O w io q bl y
 | [],.nil,bl,_=>bl=[]
 |_,_,_,_=>False
structure ButL(bl:List Nat)(w w':World):Prop where
 os:w'.os=w.os
 tape:w'.tape=w.tape
 output:w'.output=w.output
 size:w.heap.size<=w'.heap.size
 block:∀k,k<w.heap.size->k ∉ bl->w'.heap[k]?=w.heap[k]?
def FM.ok(P:Program)(f:FuncId)(s:FM):Prop :=
 FnOk P f/\∀O w,OkO O w->∀bl vs x,MIn P O w s.io s.ps bl vs x->∀n y,(s.sem x).run n=some y ->
  Calls P f vs.toArray w (fun e w'=>∃v rs,e=.returned v/\kP rs v/\s.rs.args P O w' rs y.2/\ButL bl w w'/\D4 P O w' s.io s.ps bl y.1)
abbrev ME:=FuncId->Option FM
def zLM(P:Program)(G:ME):Prop:=∀f s,G f=some s->s.ok P f
structure FO where
 e:Ty
 T:TypeId
 ps:Ty
 ret:Bool
 sem:List e.D->ps.D->Comp (List e.D)
def zEp(r:Bool)(u v u':Value):Prop:=match r with
 |true=>v=u'
 |false=>u'=u/\v=.tuple #[]
def FO.ok(P:Program)(f:FuncId)(s:FO):Prop :=
 FnOk P f/\∀O w,OkO O w->∀u xs,zAM (s.e.gr P) s.T O w u xs->∀vs z,s.ps.args P O w vs z->∀n ys,(s.sem xs z).run n=some ys ->
  Calls P f (u::vs).toArray w (AG (s.e.gr P) s.T O w u ys (zEp s.ret u))
abbrev OE:=FuncId->Option FO
def zLK(P:Program)(G:OE):Prop:=∀f s,G f=some s->s.ok P f
abbrev FE:=FuncId->Option FS
structure GS where
 ps:Ty
 t:Ty
 sem:ps.D->Comp (List t.D)
def GS.ok(P:Program)(f:FuncId)(s:GS):Prop :=
 FnOk P f/\∀O w,OkO O w->∀us x,s.ps.args P O w us x->∀n xs,(s.sem x).run n=some xs->∀L J Jx,Rng P L (s.t.args P) xs O w J Jx ->
  Calls P f (Value.func (.yield L) #[] #[]::us).toArray w fun e w''=>e=.returned (.tuple #[])/\((∃O'',J xs O'' w'')\/∃O'',Jx O'' w'')
abbrev QE:=FuncId->Option GS
def zLI(P:Program)(G:QE):Prop:=∀f s,G f=some s->s.ok P f
def FS.okN(P:Program)(f:FuncId)(s:FS):Prop :=
 FnOk P f/\∀O w,OkO O w->∀vs x,s.ps.args P O w vs x->∀n y,(s.sem x).run n=some y->Pure P f (.slice none 0 0::vs).toArray w (fun w' v=>∃rs,kP rs v/\Y0 P O w.heap.size w' s.rk s.rs rs y)
def zLL(P:Program)(G:FE):Prop:=∀f s,G f=some s->s.okN P f
def FOk(P:Program)(G:FE):Prop:=∀f s,G f=some s->s.ok P f
theorem DQ{P:Program}{O:zR}{B:Nat}{w:World}{k:Option TypeId}{a:Ty}{v:Value}{y:a.D}(h:EP P O B w k a v y)(hO:∀b,B<=b->O b=0):(a.gr P).v O w v y:=by
 unfold EP at h
 cases k with
 |none=>exact h
 |some T =>
  cases a<;>first|exact h.elim|skip
  exact kx.val h fun g hg=>hO g (h.ge g hg).1
theorem XF{P:Program}{O:zR}{B:Nat}{w:World}(hO:∀b,B<=b->O b=0):∀ {ks:List (Option TypeId)} {rs:Ty} {vs:List Value} {y:rs.D},Y0 P O B w ks rs vs y->rs.args P O w vs y
 |k::ks,.cons a b,vs,y,h=>by
  obtain⟨v,vs',h1,h2,h3,_⟩:=h;exact⟨v,vs',h1,DQ h2 hO,XF hO h3⟩
 | [],.nil,vs,_,h=>h
 | [],.int _,_,_,h | [],.bool,_,_,h | [],.str,_,_,h | [],.sl _,_,_,h | [],.cons ..,_,_,h | [],.arr ..,_,_,h | [],.box ..,_,_,h | [],.fn ..,_,_,h | [],.seq ..,_,_,h | [],.slo ..,_,_,h | [],.mp ..,_,_,h=>h.elim
 |_::_,.int _,_,_,h|_::_,.bool,_,_,h|_::_,.str,_,_,h|_::_,.sl _,_,_,h|_::_,.nil,_,_,h|_::_,.arr ..,_,_,h|_::_,.box ..,_,_,h|_::_,.fn ..,_,_,h|_::_,.seq ..,_,_,h|_::_,.slo ..,_,_,h|_::_,.mp ..,_,_,h=>h.elim
structure AS where
 v:(t:Ty)->Option t.D
 l:(t:Ty)->Option t.D
def AS.no:(t:Ty)->Option t.D:=fun _=>none
def Ty.prod:Ty->Bool
 |.nil=>true
 |.cons _ b=>b.prod
 |_=>false
def mid(post:(t:Ty)->Option t.D):(ta ps:Ty)->Option (ta.D->ps.D)
 |.nil,ps=>match ps.prod with
  |true=>match post ps with
   |some y=>some fun _=>y
   |none=>none
  |false=>none
 |.cons a b,.cons p q=>if h:a.beq p=true then match mid post b q with
   |some g=>some fun z=>(Ty.cast (Ty.J3 h) z.1,g z.2)
   |none=>none
  else none
 |_,_=>none
def pre(m:(ps:Ty)->Option (α->ps.D)):List ((t:Ty)->Option t.D)->(ps:Ty)->Option (α->ps.D)
 | [],ps=>m ps
 |f::fs,.cons p q=>match f p,pre m fs q with
  |some x,some g=>some fun z=>(x,g z)
  |_,_=>none
 |_,_=>none
def zAC(G:FE)(f:FuncId)(a:List ((t:Ty)->Option t.D))(b:(t:Ty)->Option t.D):(t:Ty)->Option t.D
 |.fn ta tr=>match ta.two && !a.isEmpty with
  |true=>none
  |false=>match G f with
   |none=>none
   |some s=>if h:s.rs.beq tr=true then match pre (mid b ta) a s.ps with
     |some g=>some fun z=>(Ty.J3 h) ▸ s.sem (g z)
     |none=>none
    else none
 |_=>none
def Ty.toN(a b:Ty)(x:a.D):Option b.D:=match a.to b x with
 |some y=>some y
 |none=>match b with
  |.slo e=>match a.to (.sl e) x with
   |some xs=>some (some (xs:List e.D))
   |none=>none
  |.cons e .nil=>match e.agg,a.to e x with
   |true,some y=>some (y,())
   |_,_=>none
  |_=>none
def asO(M:MS)(k:Nat)(t:Ty):Option t.D:=match look M k with
 |some (_,.fs t' xs)=>(Ty.sl t').toN t xs
 |some (_,.fm a b xs)=>(Ty.mp a b).toN t xs
 |_=>none
def asB(M:MS)(k:Nat)(t:Ty):Option t.D:=match look M k with
 |some (_,.fb t' x)=>(Ty.box t').to t x
 |some (_,.fg f)=>match t with
  |.box e=>f e
  |_=>none
 |_=>none
def asN:(t:Ty)->Option t.D
 |.nil=>some ()
 |.arr 0 e=>some ([]:List e.D)
 |_=>none
def asC(f g:(t:Ty)->Option t.D):(t:Ty)->Option t.D
 |.cons a b=>match f a,g b with
  |some x,some y=>some (x,y)
  |_,_=>none
 |.arr (n+1) e=>match f e,g (.arr n e) with
  |some x,some y=>some ((x:e.D)::(y:List e.D))
  |_,_=>none
 |_=>none
def AV.asv(G:FE)(M:MS):AV->((t:Ty)->Option t.D)×((t:Ty)->Option t.D)×List ((t:Ty)->Option t.D)
 |.rd t' x=>(fun t=>t'.toN t x,AS.no,[])
 |.ob k=>(asO M k,AS.no,[])
 |.bx k off=>(match off with|0=>asB M k|_=>AS.no,AS.no,[])
 |.ex v=>(fun t=>ofV t v,AS.no,[])
 |.ag l=>(fun t=>match t.agg with|true=>(l.asv G M).2.1 t|false=>none,AS.no,[])
 |.un=>(AS.no,asN,[])
 |.pr a b=>(AS.no,asC (a.asv G M).1 (b.asv G M).2.1,(a.asv G M).1::(b.asv G M).2.2)
 |.cl f a b=>(zAC G f (a.asv G M).2.2 (b.asv G M).2.1,AS.no,[])
 |.em t'=>(fun t=>(Ty.sl t').toN t ([]:List t'.D),AS.no,[])
 |.pt .. | .el .. | .ba .. | .pq .. | .tp _|.nb .. | .sx .. | .px .. | .yl|.top=>(AS.no,AS.no,[])
abbrev AV.asT(G:FE)(M:MS)(φ:AV)(t:Ty):Option t.D:=(φ.asv G M).1 t
theorem Wp{P:Program}{a b:Ty}{x:a.D}{y:b.D}(h:a.to b x=some y){O w u}(hu:(a.gr P).v O w u x):(b.gr P).v O w u y:=by
 obtain⟨e,h1⟩:=Ty.jL h;subst e;cases h1;exact hu
theorem lX{P:Program}{a b:Ty}{x:a.D}{y:b.D}(h:a.to b x=some y){O w cs}(hu:(a.gr P).rel O w cs x):(b.gr P).rel O w cs y:=by
 obtain⟨e,h1⟩:=Ty.jL h;subst e;cases h1;exact hu
theorem Uv{P:Program}{a b:Ty}{x:a.D}{y:b.D}(h:a.toN b x=some y){O w cs}(hu:(a.gr P).rel O w cs x):(b.gr P).rel O w cs y:=by
 unfold Ty.toN at h;split at h
 ·rename_i z hz;cases h;exact lX hz hu
 ·split at h
  ·rename_i e _ _
   split at h
   ·rename_i xs hx;cases h;exact lX (b:=.sl e) hx hu
   ·cases h
  ·split at h
   ·rename_i y _ hy;cases h;exact⟨cs,[],(zLx _).symm,lX hy hu,rfl⟩
   ·cases h
  ·cases h
theorem Hp{P:Program}{a b:Ty}{x:a.D}{y:b.D}(h:a.toN b x=some y){O w u}(hu:(a.gr P).v O w u x):(b.gr P).v O w u y:=by
 unfold Ty.toN at h;split at h
 ·rename_i z hz;cases h;exact Wp hz hu
 ·split at h
  ·rename_i e _ _
   split at h
   ·rename_i xs hx
    cases h
    obtain⟨cs,h1,h2⟩:=Wp (b:=.sl e) hx hu;exact⟨cs,h1,h2⟩
   ·cases h
  ·split at h
   ·rename_i y ha hy
    cases h
    obtain⟨cs,h1,h2⟩:=Wp hy hu;exact⟨cs,⟨cs,[],(zLx _).symm,h1,rfl⟩,by rw[h2,Ty.jF,ha];rfl⟩
   ·cases h
  ·cases h
theorem uR{P:Program}{t:Ty}{O w u}{x:t.D}(h:(t.gr P).v O w u x):(t.gr P).rel O w u.cells.toList x:=by
 obtain⟨cs,h1,_,h3⟩:=(t.gr P).cells (Ty.fits P t) h;rw[h3];exact h1
theorem wC{u:Value}(h:u.oneCell'=true):u.cells.toList=[u]:=by
 cases u<;>first|rfl|(simp[Value.oneCell']at h)
theorem zDr{P:Program}{post:(t:Ty)->Option t.D}{O w}{us:List Value}(hp:∀t x,t.prod=true->post t=some x->t.args P O w us x):∀ {ta ps:Ty} {g:ta.D->ps.D},mid post ta ps=some g->∀ {vs:List Value} {z:ta.D},ta.args P O w vs z->ps.args P O w (vs++us) (g z):=by
 intro ta
 induction ta with
 |nil =>
  intro ps g h vs z hz;simp only[mid]at h
  cases bS:ps.prod with
  |false=>rw[bS]at h;cases h
  |true =>
   rw[bS]at h;simp only at h
   cases hq:post ps with
   |none=>rw[hq]at h;cases h
   |some y =>
    rw[hq]at h;cases h;rw[show vs=[] from hz]
    exact hp _ _ bS hq
 |cons a b iha ihb =>
  intro ps g h vs z hz
  cases ps with
  |cons p q =>
   simp only[mid]at h;split at h
   ·rename_i hb
    cases hm:mid post b q with
    |none=>rw[hm]at h;cases h
    |some g' =>
     rw[hm]at h;cases h;obtain⟨v,vs',h1,h2,h3⟩:=hz;have e:=Ty.J3 hb
     subst e;exact⟨v,vs'++us,by rw[h1];rfl,h2,ihb hm h3⟩
   ·cases h
  |_=>simp[mid]at h
 |_=>intro ps g h vs z hz;exact hz.elim
theorem zBh{P:Program}{β:Type}{O w}{m:(ps:Ty)->Option (β->ps.D)}{z:β}{us:List Value}(hm:∀ps g,m ps=some g->ps.args P O w us (g z)):∀ {fs:List ((t:Ty)->Option t.D)} {ps:Ty} {g:β->ps.D},pre m fs ps=some g ->
  ∀ {vs:List Value},vs.length=fs.length->(∀(i:Nat) (f:(t:Ty)->Option t.D) (v:Value),fs[i]?=some f->vs[i]?=some v->∀t x,f t=some x->(t.gr P).v O w v x)->ps.args P O w (vs++us) (g z):=by
 intro fs
 induction fs with
 |nil =>
  intro ps g h vs hl _;have:vs=[]:=List.length_eq_zero_iff.1 hl
  subst this;exact hm _ _ h
 |cons f fs ih =>
  intro ps g h vs hl hv
  cases ps with
  |cons p q =>
   simp only[pre]at h;split at h
   ·rename_i x g' h1 h2
    cases h
    match vs,hl with
    |v::vs,hl =>
     refine⟨v,vs++us,rfl,hv 0 f v rfl rfl _ _ h1,ih h2 (by simpa using hl) fun i f' v' hf hv'=>hv (i+1) f' v' (by simpa using hf) (by simpa using hv')⟩
   ·cases h
  |_=>simp[pre]at h
theorem Zc(a b c:List Value):a.toArray++b.toArray++c.toArray=(a++(b++c)).toArray:=by simp
theorem WO{P:Program}{G:FE}(hG:FOk P G){f:FuncId}{a:List ((t:Ty)->Option t.D)}{b:(t:Ty)->Option t.D}{O w}{vs us:List Value}(hl:vs.length=a.length)
  (ha:∀O' w',zb 0 O w O' w'->∀(i:Nat) (f:(t:Ty)->Option t.D) (v:Value),a[i]?=some f->vs[i]?=some v->∀t x,f t=some x->(t.gr P).v O' w' v x) (hb:∀O' w',zb 0 O w O' w'->∀t x,t.prod=true->b t=some x->t.args P O' w' us x)
  {t:Ty} {F:t.D} (h:zAC G f a b t=some F):(t.gr P).v O w (.func (.func f) vs.toArray us.toArray) F:=by
 cases t with
 |fn ta tr =>
  simp only[zAC]at h
  cases h2:ta.two && !a.isEmpty with
  |true=>rw[h2]at h;cases h
  |false =>
  rw[h2]at h;simp only at h;have h0:ta.two=true->∃g cb,Value.func (.func f) vs.toArray us.toArray=.func (.func g) #[] cb/\(FnOk P f->FnOk P g):=by
   intro ht;rw[ht]at h2
   cases a with
   |cons a1 a2=>cases h2
   |nil =>
    cases vs with
    |cons v1 v2=>cases hl
    |nil=>exact⟨f,_,rfl,id⟩
  clear h2
  cases hg:G f with
  |none=>rw[hg]at h;cases h
  |some s =>
   rw[hg]at h;simp only at h;split at h
   ·rename_i hr
    cases hp:pre (mid b ta) a s.ps with
    |none=>rw[hp]at h;cases h
    |some g =>
     rw[hp]at h;cases h;obtain⟨h1,h2⟩:=hG f s hg;refine⟨[_],⟨_,rfl,⟨rfl,fun ht=>by obtain⟨g',cb,e1,e2⟩:=h0 ht;exact⟨g',cb,e1,e2 h1⟩⟩,fun O' w' hO hk xs z hz n y hy=>?_⟩,rfl⟩
     refine XW h1 ?_;rw[Zc];have fU:s.ps.args P O' w' (vs++(xs++us)) (g z):=zBh (P:=P) (m:=mid b ta) (z:=z) (us:=xs++us) (fun ps g' hm=>zDr (fun t x=>hb O' w' hk t x) hm hz) hp hl (ha O' w' hk)
     have e:=Ty.J3 hr;subst e;refine Pure.mono (h2 O' w' hO _ _ fU n y hy) fun w'' v _ hv=>?_
     obtain⟨rs,h3,h4⟩:=hv;exact⟨rs,h3,XF (fun b hb=>hO b hb) h4⟩
   ·cases h
 |_=>simp[zAC]at h
structure AsOk(X:Cx)(w:World)(p:((t:Ty)->Option t.D)×((t:Ty)->Option t.D)×List ((t:Ty)->Option t.D))(s:AVS):Prop where
 v:∀ {t x u},p.1 t=some x->s.v u->(t.gr X.P).v X.O w u x
 vc:∀ {t x cs},p.1 t=some x->s.c cs->(t.gr X.P).rel X.O w cs x
 l:∀ {t x vs},p.2.1 t=some x->t.prod=true->s.l vs->t.args X.P X.O w vs x
 lc:∀ {t x cs},p.2.1 t=some x->s.c cs->(t.gr X.P).rel X.O w cs x
 n:∀ {vs},s.l vs->vs.length=p.2.2.length
 e:∀ {vs},s.l vs->∀(i:Nat) (f:(t:Ty)->Option t.D) (v:Value),p.2.2[i]?=some f->vs[i]?=some v->∀t x,f t=some x->(t.gr X.P).v X.O w v x
theorem VM{P:Program}{t:Ty}{O w u}{x:t.D}(h:(t.gr P).v O w u x)(h1:u.oneCell'=true):(t.gr P).rel O w [u] x:=by
 have:=uR h;rwa[wC h1]at this
theorem AsOk.one{X:Cx}{w:World}{f:(t:Ty)->Option t.D}{q:Value->Prop}(h:∀t x u,f t=some x->q u->(t.gr X.P).v X.O w u x):AsOk X w (f,AS.no,[]) (one q) where
 v:=fun h1 h2=>h _ _ _ h1 h2
 vc:=fun h1 ⟨u,h2,h3,h4⟩=>by rw[h2];exact VM (h _ _ _ h1 h4) h3
 l:=fun h1=>nomatch h1
 lc:=fun h1=>nomatch h1
 n:=fun h=>h.elim
 e:=fun h=>h.elim
theorem AsOk.none{X:Cx}{w:World}{s:AVS}(h:∀vs,¬s.l vs):AsOk X w (AS.no,AS.no,[]) s where
 v:=fun h=>nomatch h
 vc:=fun h=>nomatch h
 l:=fun h=>nomatch h
 lc:=fun h=>nomatch h
 n:=fun h'=>zLh h' (h _)
 e:=fun h'=>zLh h' (h _)
theorem zBI{P:Program}{t:Ty}{O:zR}{w:World}{u:Value}(h:∃p,u=.slice p 0 0/\(p=none\/∃b off,p=some ⟨b,off,none⟩)):(rSl (t.gr P)).v O w u []:=by
 obtain⟨p,rfl,hp⟩:=h;refine YB.2 ⟨[],⟨p,0,rfl,by simp,by simp,.inl rfl⟩,trivial,fun h=>zLh rfl h⟩
theorem AV.jS{X:Cx}{G:FE}(hG:FOk X.P G){M:MS}(φ:AV):∀ {w:World},yD M X w->AsOk X w (φ.asv G M) (φ.sem X w):=by
 induction φ with
 |rd t' x =>
  intro w hM;exact⟨fun h1 h2=>Hp h1 h2,fun h1 h2=>Uv h1 h2,fun h=>(nomatch h),fun h=>(nomatch h),fun h=>h.elim,fun h=>h.elim⟩
 |ob k =>
  intro w hM;refine AsOk.one fun t x u h hu=>?_
  unfold asO at h;split at h
  ·rename_i st t' xs hk
   have:=hM k _ hk;rw[hu.1];exact Hp (a:=.sl t') h this
  ·rename_i st a b xs hk
   have:=hM k _ hk;rw[hu.1];exact Hp (a:=.mp a b) h this
  ·cases h
 |bx k off =>
  intro w hM
  cases off with
  |zero =>
   refine AsOk.one fun t x u h hu=>?_
   show _
   change asB M k t=some x at h
   unfold asB at h;split at h
   ·rename_i st t' y hk
    have:=hM k _ hk;obtain⟨_,b,h1,h2⟩:=hu;rw[h2,<-h1];exact Wp (a:=.box t') h this
   ·rename_i st f hk
    have:=hM k _ hk;obtain⟨_,b,h1,h2⟩:=hu;cases t<;>try cases h
    rw[h2,<-h1];exact this _ _ h
   ·cases h
  |succ n=>exact AsOk.none fun vs h=>h
 |ex v =>
  intro w hM;refine⟨fun h1 h2=>by rw[show _=v from h2];exact J8 _ h1 _ _,fun h1 h2=>by rw[show _=v.cells.toList from h2];exact uR (J8 _ h1 _ _),fun h=>(nomatch h),fun h=>(nomatch h),fun h=>h.elim,fun h=>h.elim⟩
 |ag l ih =>
  intro w hM;have ih:=ih hM
  refine⟨fun {t x u} h1 h2=>?_,fun {t x cs} h1 h2=>?_,fun h=>(nomatch h),fun h=>(nomatch h),fun h=>h.elim,fun h=>h.elim⟩
  ·change (match t.agg with|true=>(l.asv G M).2.1 t|false=>none)=some x at h1
   obtain⟨cs,h3,h4⟩:=h2
   cases ha:t.agg with
   |false=>rw[ha]at h1;cases h1
   |true =>
    rw[ha]at h1;exact⟨cs,ih.lc h1 h3,by rw[h4,Ty.jF,ha];rfl⟩
  ·change (match t.agg with|true=>(l.asv G M).2.1 t|false=>none)=some x at h1
   cases ha:t.agg with
   |false=>rw[ha]at h1;cases h1
   |true =>
    rw[ha]at h1;exact ih.lc h1 h2
 |un =>
  intro w hM;refine⟨fun h=>(nomatch h),fun h=>(nomatch h),fun {t x vs} h1 hp h2=>?_,fun {t x cs} h1 h2=>?_,fun h=>by rw[show _=[] from h];rfl,fun h i f v hf=>by cases hf⟩
  ·change asN t=some x at h1
   unfold asN at h1;split at h1
   ·exact h2
   ·cases hp
   ·cases h1
  ·change asN t=some x at h1
   unfold asN at h1;split at h1
   ·exact h2
   ·rename_i e;cases h1
    exact⟨rfl,h2⟩
   ·cases h1
 |pr a b iha ihb =>
  intro w hM;have iha:=iha hM
  have ihb:=ihb hM;refine⟨fun h=>(nomatch h),fun h=>(nomatch h),fun {t x vs} h1 hp h2=>?_,fun {t x cs} h1 h2=>?_,fun {vs} h=>?_,fun {vs} h i f v hf hv=>?_⟩
  ·change asC _ _ t=some x at h1
   unfold asC at h1;split at h1
   ·split at h1
    ·rename_i x1 y1 h3 h4
     cases h1
     obtain⟨v,vs',h5,h6,h7⟩:=h2;exact⟨v,vs',h5,iha.v h3 h6,ihb.l h4 hp h7⟩
    ·cases h1
   ·cases hp
   ·cases h1
  ·change asC _ _ t=some x at h1
   unfold asC at h1;split at h1
   ·split at h1
    ·rename_i x1 y1 h3 h4
     cases h1
     obtain⟨c1,c2,h5,h6,h7⟩:=h2;exact⟨c1,c2,h5,iha.vc h3 h6,ihb.lc h4 h7⟩
    ·cases h1
   ·split at h1
    ·rename_i x1 y1 h3 h4
     cases h1
     obtain⟨c1,c2,h5,h6,h7⟩:=h2;have h8:=ihb.lc h4 h7
     exact⟨zLi (· + 1) h8.1,c1,c2,h5,iha.vc h3 h6,h8.2⟩
    ·cases h1
   ·cases h1
  ·obtain⟨v,vs',h5,h6,h7⟩:=h
   rw[h5];simp[AV.asv,ihb.n h7]
  ·obtain⟨v',vs',h5,h6,h7⟩:=h
   subst h5
   cases i with
   |zero=>cases hf;cases hv;exact fun t x h=>iha.v h h6
   |succ i=>exact ihb.e h7 i f v (by simpa[AV.asv] using hf) (by simpa using hv)
 |cl f a b iha ihb =>
  intro w hM;refine AsOk.one fun t x u h hu=>?_
  obtain⟨vs,us,h1,h2,h3⟩:=hu;rw[h3];refine WO hG ((iha hM).n h1) (fun O' w' hk i f v hf hv t x hx=>?_) (fun O' w' hk t x hp hx=>?_) h
  ·exact GR.y7 _ ((iha hM).e h1 i f v hf hv t x hx) hk
  ·exact Ty.wP _ _ hk ((ihb hM).l hx hp h2)
 |pt t x=>intro w hM;exact AsOk.none fun vs h=>h
 |el k i esz off2=>intro w hM;exact AsOk.none fun vs h=>h
 |ba k off sz i esz off2=>intro w hM;exact AsOk.none fun vs h=>h
 |pq t x=>intro w hM;exact AsOk.none fun vs h=>h
 |tp l ih=>intro w hM;exact AsOk.none fun vs h=>h
 |nb p e=>intro w hM;exact AsOk.none fun vs h=>h
 |sx k lo esz=>intro w hM;exact AsOk.none fun vs h=>h
 |px k n=>intro w hM;exact AsOk.none fun vs h=>h
 |yl=>intro w hM;exact AsOk.none fun vs h=>h
 |em t' =>
  intro w hM;refine AsOk.one fun t x u h hu=>?_
  exact Hp (a:=.sl t') h (zBI hu)
 |top=>intro w hM;exact AsOk.none fun vs h=>h
def l6:MV->MV
 |.sl _ t T xs=>.fs t xs
 |.fs t xs=>.fs t xs
 |.fb t x=>.fb t x
 |.fg f=>.fg f
 |.fm a b xs=>.fm a b xs
 |.mp _ a b xs=>.fm a b xs
 |_=>.dead
def Ct:MS->MS
 | []=>[]
 |e::M=>(e.1,e.2.1,l6 e.2.2)::Ct M
def Rc(f:AV->(t:Ty)->Option t.D):MV->MV
 |.bx _ c _=>.fg (f c)
 |m=>l6 m
def H4(f:AV->(t:Ty)->Option t.D):MS->MS
 | []=>[]
 |e::M=>(e.1,e.2.1,Rc f e.2.2)::H4 f M
def Sv(G:FE)(M:MS):MS:=H4 (fun c=>(c.asv G (Ct M)).1) M
theorem tQ:∀ {M:MS} {k:Nat} {e:Nat×MV},look (Ct M) k=some e->∃m,look M k=some (e.1,m)/\e.2=l6 m
 | [],k,e,h=>by cases h
 |f::M,k,e,h=>by
  obtain⟨k0,st,m⟩:=f;simp only[Ct,look]at h |-
  cases hb:Nat.beq k0 k with
  |true=>rw[hb]at h;cases h;exact⟨m,rfl,rfl⟩
  |false=>rw[hb]at h;exact tQ h
theorem tO{f:AV->(t:Ty)->Option t.D}:∀ {M:MS} {k:Nat} {e:Nat×MV},look (H4 f M) k=some e->∃m,look M k=some (e.1,m)/\e.2=Rc f m
 | [],k,e,h=>by cases h
 |g::M,k,e,h=>by
  obtain⟨k0,st,m⟩:=g;simp only[H4,look]at h |-
  cases hb:Nat.beq k0 k with
  |true=>rw[hb]at h;cases h;exact⟨m,rfl,rfl⟩
  |false=>rw[hb]at h;exact tO h
def Cx.lent(X:Cx):Cx:={ X with O:=fun _=>0 }
theorem Cx.le_lent(X:Cx)(w:World):X.le w X.lent w:=⟨rfl,⟨zLT _,fun _ _ _=>⟨rfl,rfl⟩⟩,fun _ _=>rfl,zLT _,rfl⟩
theorem ZY{X:Cx}{w:World}{k:Nat}{m:MV}(h:m.holds X w k):(l6 m).holds X.lent w k:=by
 have sN:zb 0 X.O w (fun _=>0) w:=⟨zLT _,fun _ _ _=>⟨rfl,rfl⟩⟩
 cases m with
 |sl nw t T xs=>exact zo.W2 h
 |bx nw c T=>trivial
 |fs t xs=>exact GR.y7 _ h sN
 |fb t x=>exact GR.y7 _ h sN
 |fg f=>exact fun t x hx=>GR.y7 _ (h t x hx) sN
 |mp nw a b xs =>
  obtain⟨c,es,clock,h1,h2,h3,_⟩:=h;exact⟨_,.inr ⟨c,es,clock,rfl,h2,h3.mono sN,rfl⟩,h1⟩
 |fm a b xs=>exact GR.y7 _ h sN
 |dead=>trivial
theorem N2{X:Cx}{w:World}{M:MS}(h:yD M X w):yD (Ct M) X.lent w:=by
 intro k e he;obtain⟨m,h1,h2⟩:=tQ he;rw[h2];exact ZY (h k _ h1)
theorem Bh{X:Cx}{w:World}{G:FE}(hG:FOk X.P G){M:MS}(h:yD M X w):yD (Sv G M) X.lent w:=by
 intro k e he;obtain⟨m,h1,h2⟩:=tO he;have hh:=h k _ h1
 rw[h2]
 cases m with
 |bx nw c T =>
  intro t x hx;obtain⟨b,cs,g1,g2,g3,g4⟩:=hh;have g5:=(c.mono (X.le_lent w) fun hf=>by rw[g4]at hf;cases hf).2.2 _ g3
  have g6:=(AV.jS (X:=X.lent) hG c (N2 h)).vc hx g5;show (KI _).v _ _ (X.U k) _
  rw[g1];exact⟨_,⟨b,cs.toList,T,rfl,g2.own,rfl,g6⟩,rfl⟩
 |sl nw t T xs=>exact ZY (m:=.sl nw t T xs) hh
 |fs t xs=>exact ZY (m:=.fs t xs) hh
 |fb t x=>exact ZY (m:=.fb t x) hh
 |fg f=>exact ZY (m:=.fg f) hh
 |mp nw a b xs=>exact ZY (m:=.mp nw a b xs) hh
 |fm a b xs=>exact ZY (m:=.fm a b xs) hh
 |dead=>trivial
theorem AV.Z1{X:Cx}{G:FE}(hG:FOk X.P G){M:MS}{φ:AV}{w:World}(hM:yD M X w){t:Ty}{x:t.D}{u:Value}(h:φ.asT G M t=some x)(hu:φ.holds X w u):(t.gr X.P).v X.O w u x:=(AV.jS hG φ hM).v h hu
theorem je(a b:Nat):Nat.ble a b=decide (a<=b):=by
 cases h:Nat.ble a b with
 |true=>symm;simpa using Nat.le_of_ble_eq_true h
 |false=>rw[zLt];intro h';rw[Nat.ble_eq_true_of_le h']at h;cases h
def lK(a b:Bool):Bool:=match a,b with
 |true,true=>true
 |false,false=>true
 |_,_=>false
theorem Xo{a b:Bool}(h:lK a b=true):a=b:=by cases a<;>cases b<;>simp_all [lK]
def atT(sz:Nat)(ag:Bool):(t:Ty)->t.D->Bool->Nat->Option AV
 |.cons a b,x,q,off=>match q && (Nat.beq off 0 && (Nat.beq (a.sz+b.sz) sz && ag)) with
  |true=>some (.rd (.cons a b) x)
  |false=>match Nat.blt off a.sz with
   |true=>atT sz ag a x.1 true off
   |false=>atT sz ag b x.2 false (off-a.sz)
 |t,x,q,off=>match Nat.beq off 0 && (Nat.beq t.sz sz && lK t.agg ag) with
  |true=>some (.rd t x)
  |false=>none
def UX(P:Program)(t:Ty)(x:t.D)(off sz:Nat)(ag:Bool)(φ:AV):Prop :=
 ∃(t':Ty) (x':t'.D),φ=.rd t' x'/\t'.sz=sz/\t'.agg=ag/\∀ {O w cs},(t.gr P).rel O w cs x->∃c1 c2 c3,cs=c1++(c2++c3)/\c1.length=off/\(t'.gr P).rel O w c2 x'
theorem UX.self{P:Program}{t:Ty}{x:t.D}{off sz:Nat}{ag:Bool}(h0:Nat.beq off 0=true)(h1:t.sz=sz)(h2:t.agg=ag):UX P t x off sz ag (.rd t x) :=
 ⟨t,x,rfl,h1,h2,fun {O w cs} h=>⟨[],cs,[],by simp,by have:=zLQ h0;simp[this],h⟩⟩
theorem R7{P:Program}{sz:Nat}{ag:Bool}:∀ {t:Ty} {x:t.D} {q:Bool} {off:Nat} {φ:AV},atT sz ag t x q off=some φ->UX P t x off sz ag φ:=by
 intro t
 induction t with
 |cons a b iha ihb =>
  intro x q off φ h;simp only[atT]at h;split at h
  ·rename_i hc
   simp only[zLR]at hc;cases h;exact UX.self hc.2.1 (zLQ hc.2.2.1) (by rw[hc.2.2.2];rfl)
  ·split at h
   ·rename_i hb
    obtain⟨t',x',h1,h2,h3,h4⟩:=iha h;refine⟨t',x',h1,h2,h3,fun hr=>?_⟩
    obtain⟨c1,c2,e1,k1,k2⟩:=hr;obtain⟨d1,d2,d3,f1,f2,f3⟩:=h4 k1;exact⟨d1,d2,d3++c2,by rw[e1,f1];simp[zLl],f2,f3⟩
   ·rename_i hb
    obtain⟨t',x',h1,h2,h3,h4⟩:=ihb h;refine⟨t',x',h1,h2,h3,fun hr=>?_⟩
    obtain⟨c1,c2,e1,k1,k2⟩:=hr;obtain⟨d1,d2,d3,f1,f2,f3⟩:=h4 k2;refine⟨c1++d1,d2,d3,by rw[e1,f1,zLl],?_,f3⟩
    have hl:=(a.gr P).len k1;rw[Ty.yh]at hl;rw[zX]at hb;have hb':¬off<a.sz:=by simpa using hb
    rw[zLS,f2,hl];omega
 |_ =>
  intro x q off φ h;simp only[atT]at h;split at h
  ·rename_i hc
   simp only[zLR]at hc;cases h;exact UX.self hc.1 (zLQ hc.2.1) (Xo hc.2.2)
  ·cases h
def AV.sz:AV->Nat
 |.rd t _=>t.sz
 |.un=>0
 |.pr a b=>a.sz+b.sz
 |.ag l=>l.sz
 |.ex v=>v.cells.size
 |_=>1
theorem zFk{q:Value->Prop}{cs:List Value}(h:(one q).c cs):cs.length=1:=by obtain⟨u,h,_⟩:=h;rw[h];rfl
theorem AV.len{X:Cx}{w:World}(φ:AV):∀ {cs},(φ.sem X w).c cs->cs.length=φ.sz:=by
 induction φ with
 |rd t x=>intro cs h;have:=(t.gr X.P).len h;rwa[Ty.yh]at this
 |un=>intro cs h;rw[show cs=[] from h];rfl
 |pr a b iha ihb =>
  intro cs h;obtain⟨c1,c2,h1,h2,h3⟩:=h;rw[h1,zLS,iha h2,ihb h3];rfl
 |ag l ih=>intro cs h;exact ih h
 |ex v=>intro cs h;rw[show cs=v.cells.toList from h];simp[AV.sz]
 |tp l=>intro cs h;exact h.elim
 |top=>intro cs h;exact h.elim
 |nb p e=>intro cs h;exact h.elim
 |pq t x=>intro cs h;exact h.elim
 |_=>intro cs h;exact zFk h
def zEA:Value->Bool
 |.agg _=>true
 |_=>false
def atV(sz:Nat)(ag:Bool)(v:Value)(off:Nat):Option AV:=match Nat.ble (off+sz) v.cells.size with
 |false=>none
 |true=>match ag with
  |true=>some (.ex (.agg (v.cells.toList.drop off |>.take sz).toArray))
  |false=>match Nat.beq sz 1,v.cells[off]? with
   |true,some c=>match c.oneCell' with
    |true=>some (AV.ofC c)
    |false=>none
   |_,_=>none
def AV.lone:AV->Bool
 |.pt .. | .ob _|.bx .. | .ba .. | .el .. | .cl .. | .em _=>true
 |_=>false
def AV.at_(sz:Nat)(ag:Bool):AV->Bool->Nat->Option AV
 |.rd t x,q,off=>atT sz ag t x true off
 |.ag l,q,off=>match Nat.beq off 0 && (Nat.beq l.sz sz && ag) with
  |true=>some (.ag l)
  |false=>l.at_ sz ag false off
 |.pr a b,q,off=>match Nat.blt off a.sz with
  |true=>a.at_ sz ag true off
  |false=>b.at_ sz ag false (off-a.sz)
 |.ex v,q,off=>atV sz ag v off
 |φ,q,off=>match φ.lone && (Nat.beq off 0 && (Nat.beq sz 1 && !ag)) with
  |true=>some φ
  |false=>none
structure PartOf(X:Cx)(w:World)(cs:List Value)(off sz:Nat)(ag:Bool)(φ:AV):Prop where
 h:∃c1 c2 c3,cs=c1++(c2++c3)/\c1.length=off/\c2.length=sz/\(φ.sem X w).c c2/\(ag=false->sz=1)/\(φ.holds X w (yC ag c2))
theorem zHQ{X:Cx}{w:World}{t:Ty}{x:t.D}{cs:List Value}(h:(t.gr X.P).rel X.O w cs x):(AV.rd t x).holds X w (yC t.agg cs):=⟨cs,h,by rw[Ty.jF]⟩
theorem Rb{X:Cx}{w:World}{φ:AV}(hl:φ.lone=true){cs:List Value}(h:(φ.sem X w).c cs):cs.length=1/\φ.holds X w (yC false cs):=by
 cases φ<;>first|(cases hl;done)|(obtain⟨u,h1,h2,h3⟩:=h;subst h1;exact⟨rfl,h3⟩)
theorem zAo{X:Cx}{w:World}{c:Value}(h1:c.oneCell'=true):((AV.ofC c).sem X w).c [c]:=by
 cases c<;>first
  |exact rfl
  |(show [_]=[Value.string (str (bs _))];rw[EF])
  |(show [_]=(Value.cells _).toList;rw[wC h1])
theorem NK{l:List α}{off sz:Nat}(h:off+sz<=l.length):l=l.take off++((l.drop off).take sz++(l.drop off).drop sz)/\(l.take off).length=off/\((l.drop off).take sz).length=sz:=by
 refine⟨by rw[List.take_append_drop,List.take_append_drop],by rw[zLm];omega,by rw[zLm,List.length_drop];omega⟩
theorem R6{X:Cx}{w:World}{sz:Nat}{ag:Bool}{v:Value}{off:Nat}{φ:AV}(h:atV sz ag v off=some φ):PartOf X w v.cells.toList off sz ag φ:=by
 unfold atV at h;split at h
 ·cases h
 ·rename_i hb
  rw[je]at hb;have hb':off+sz<=v.cells.toList.length:=by simpa using hb
  obtain⟨e1,e2,e3⟩:=NK hb';split at h
  ·cases h
   exact⟨_,_,_,e1,e2,e3,by simp[AV.sem,Value.cells],by simp,rfl⟩
  ·split at h
   ·rename_i c hs hc
    split at h
    ·rename_i h1
     cases h
     have f8:=zLQ hs;subst f8;have e4:(v.cells.toList.drop off).take 1=[c]:=by
      have:v.cells.toList[off]?=some c:=by simpa using hc
      rw[List.drop_eq_getElem_cons (by omega)]
      simp only[List.take_succ_cons,List.take_zero];rw[zLv (by omega)]at this
      simpa using this
     refine⟨_,_,_,e1,e2,e3,by rw[e4];exact zAo h1,fun _=>rfl,?_⟩
     rw[e4];exact AV.wD X w c
    ·cases h
   ·cases h
theorem AV.IC{X:Cx}{w:World}{sz:Nat}{ag:Bool}(φ:AV):∀ {q:Bool} {off:Nat} {ψ:AV},φ.at_ sz ag q off=some ψ->∀ {cs},(φ.sem X w).c cs->PartOf X w cs off sz ag ψ:=by
 have lone_case:∀(φ:AV) {off:Nat} {ψ:AV},(match φ.lone && (Nat.beq off 0 && (Nat.beq sz 1 && !ag)) with|true=>some φ|false=>none)=some ψ->∀ {cs},(φ.sem X w).c cs->PartOf X w cs off sz ag ψ:=by
  intro φ off ψ h cs hc;split at h
  ·rename_i hl
   simp only[zLR]at hl;cases h;obtain⟨h1,h2⟩:=Rb hl.1 hc;have e1:=zLQ hl.2.1
   have e2:=zLQ hl.2.2.1;have e3:ag=false:=by have:=hl.2.2.2;simpa using this
   subst e1 e2 e3;exact⟨[],cs,[],by simp,rfl,h1,hc,fun _=>rfl,h2⟩
  ·cases h
 induction φ with
 |rd t x =>
  intro q off ψ h cs hc;obtain⟨t',x',h1,h2,h3,h4⟩:=R7 (P:=X.P) h;obtain⟨c1,c2,c3,e1,e2,e3⟩:=h4 hc;have hl:=(t'.gr X.P).len e3
  rw[Ty.yh,h2]at hl;refine⟨c1,c2,c3,e1,e2,hl,by rw[h1];exact e3,fun ha=>?_,by rw[h1,<-h3];exact zHQ e3⟩
  have:=Ty.fits X.P t' (by rw[Ty.jF,h3,ha])
  rw[Ty.yh,h2]at this;exact this
 |ag l ih =>
  intro q off ψ h cs hc;simp only[AV.at_]at h;split at h
  ·rename_i hb
   simp only[zLR]at hb;cases h;have e1:=zLQ hb.1
   have e2:=zLQ hb.2.1;obtain rfl:ag=true:=hb.2.2;subst e1;exact⟨[],cs,[],by simp,rfl,by rw[<-e2];exact AV.len l hc,hc,fun ha=>(nomatch ha),cs,hc,rfl⟩
  ·exact ih h hc
 |pr a b iha ihb =>
  intro q off ψ h cs hc;obtain⟨c1,c2,h1,h2,h3⟩:=hc;simp only[AV.at_]at h;split at h
  ·obtain⟨d1,d2,d3,e1,e2,e3⟩:=(iha h h2).h
   exact⟨d1,d2,d3++c2,by rw[h1,e1];simp[zLl],e2,e3⟩
  ·rename_i hb
   obtain⟨d1,d2,d3,e1,e2,e3⟩:=(ihb h h3).h;have hl:=AV.len a h2
   rw[zX]at hb;have hb':¬off<a.sz:=by simpa using hb
   exact⟨c1++d1,d2,d3,by rw[h1,e1,zLl],by rw[zLS,e2,hl];omega,e3⟩
 |ex v =>
  intro q off ψ h cs hc;rw[show cs=v.cells.toList from hc]
  exact R6 h
 |_=>intro q off ψ h;first|exact lone_case _ h|(simp[AV.at_,AV.lone]at h)
def UP:(t:Ty)->t.D->AV
 |.cons a b,x=>.pr (.rd a x.1) (UP b x.2)
 |_,_=>.un
def okE:Ty->Bool
 |.cons _ b=>okE b
 |.nil=>true
 |_=>false
def qy(q:Bool)(l:AV):AV:=match q with
 |true=>.ag l
 |false=>l
def Mh(ψ:AV)(sz:Nat)(ag:Bool):(t:Ty)->t.D->Bool->Nat->Option AV
 |.cons a b,x,q,off=>match q && (Nat.beq off 0 && (Nat.beq (a.sz+b.sz) sz && ag)) with
  |true=>some ψ
  |false=>match Nat.blt off a.sz with
   |true=>match okE b,Mh ψ sz ag a x.1 true off with
    |true,some a'=>some (qy q (.pr a' (UP b x.2)))
    |_,_=>none
   |false=>match Mh ψ sz ag b x.2 false (off-a.sz) with
    |some b'=>some (qy q (.pr (.rd a x.1) b'))
    |none=>none
 |t,x,q,off=>match Nat.beq off 0 && (Nat.beq t.sz sz && lK t.agg ag) with
  |true=>some ψ
  |false=>none
def AV.rM(ψ:AV)(sz:Nat)(ag:Bool):AV->Bool->Nat->Option AV
 |.rd t x,q,off=>Mh ψ sz ag t x true off
 |.ag l,q,off=>match Nat.beq off 0 && (Nat.beq l.sz sz && ag) with
  |true=>some ψ
  |false=>match AV.rM ψ sz ag l false off with
   |some l'=>some (.ag l')
   |none=>none
 |.pr a b,q,off=>match Nat.blt off a.sz with
  |true=>match AV.rM ψ sz ag a true off with
   |some a'=>some (.pr a' b)
   |none=>none
  |false=>match AV.rM ψ sz ag b false (off-a.sz) with
   |some b'=>some (.pr a b')
   |none=>none
 |.ex v,q,off=>match Nat.beq off 0 && (Nat.beq v.cells.size sz) with
  |true=>some ψ
  |false=>none
 |φ,q,off=>match φ.lone && (Nat.beq off 0 && (Nat.beq sz 1)) with
  |true=>some ψ
  |false=>none
theorem Et{X:Cx}{w:World}:∀ {t:Ty} {x:t.D} {cs},okE t=true->(t.gr X.P).rel X.O w cs x->((UP t x).sem X w).c cs:=by
 intro t
 induction t with
 |cons a b iha ihb =>
  intro x cs ho h;obtain⟨c1,c2,e1,k1,k2⟩:=h;exact⟨c1,c2,e1,k1,ihb ho k2⟩
 |nil=>intro x cs ho h;exact h
 |_=>intro x cs ho h;cases ho
def ZQ(X:Cx)(w:World)(ψ:AV)(off sz:Nat)(cs:List Value)(φ':AV):Prop :=
 off+sz<=cs.length/\∀ds,ds.length=sz->(ψ.sem X w).c ds->(φ'.sem X w).c (cs.take off++(ds++cs.drop (off+sz)))
theorem ZQ.self{X:Cx}{w:World}{ψ:AV}{off sz:Nat}{cs:List Value}(h0:Nat.beq off 0=true)(hl:cs.length=sz):ZQ X w ψ off sz cs ψ:=by
 have:=zLQ h0;subst this;refine⟨by omega,fun ds h1 h2=>?_⟩
 have:cs.drop (0+sz)=[]:=by rw[List.drop_eq_nil_iff];omega
 rw[this];simpa using h2
theorem ZQ.left{X:Cx}{w:World}{ψ:AV}{off sz:Nat}{c1 c2:List Value}{a b:AV}(h:ZQ X w ψ off sz c1 a)(hb:(b.sem X w).c c2):ZQ X w ψ off sz (c1++c2) (.pr a b):=by
 obtain⟨h1,h2⟩:=h;refine⟨by rw[zLS];omega,fun ds h3 h4=>⟨_,c2,?_,h2 ds h3 h4,hb⟩⟩
 rw[List.take_append_of_le_length (by omega),List.drop_append_of_le_length (by omega)]
 simp[zLl]
theorem ZQ.right{X:Cx}{w:World}{ψ:AV}{off sz n:Nat}{c1 c2:List Value}{a b:AV}(h:ZQ X w ψ (off-n) sz c2 b)(hn:c1.length=n)(ho:¬off<n)(ha:(a.sem X w).c c1):ZQ X w ψ off sz (c1++c2) (.pr a b):=by
 obtain⟨h1,h2⟩:=h;refine⟨by rw[zLS];omega,fun ds h3 h4=>⟨c1,_,?_,ha,h2 ds h3 h4⟩⟩
 rw[List.take_append,List.drop_append,List.take_of_length_le (by omega),List.drop_of_length_le (by omega:c1.length<=off+sz)]
 simp only[List.nil_append,zLl];rw[hn,show off+sz-n=off-n+sz by omega]
theorem nh{X:Cx}{w:World}{q:Bool}{l:AV}:((qy q l).sem X w).c=(l.sem X w).c:=by cases q<;>rfl
theorem ZQ.wrap{X:Cx}{w:World}{ψ:AV}{off sz:Nat}{cs:List Value}{l:AV}{q:Bool}(h:ZQ X w ψ off sz cs l):ZQ X w ψ off sz cs (qy q l):=by
 refine⟨h.1,fun ds h1 h2=>?_⟩
 rw[nh];exact h.2 ds h1 h2
theorem VF{X:Cx}{w:World}{ψ:AV}{sz:Nat}{ag:Bool}:∀ {t:Ty} {x:t.D} {q:Bool} {off:Nat} {φ':AV},Mh ψ sz ag t x q off=some φ'->∀ {cs},(t.gr X.P).rel X.O w cs x->ZQ X w ψ off sz cs φ':=by
 intro t
 induction t with
 |cons a b iha ihb =>
  intro x q off φ' h cs hc;have kA:=((Ty.cons a b).gr X.P).len hc
  rw[Ty.yh]at kA;obtain⟨c1,c2,e1,k1,k2⟩:=hc;have dY:=(a.gr X.P).len k1
  rw[Ty.yh]at dY;simp only[Mh]at h;split at h
  ·rename_i hb
   simp only[zLR]at hb;cases h;exact ZQ.self hb.2.1 (by rw[kA];exact zLQ hb.2.2.1)
  ·split at h
   ·split at h
    ·rename_i a' ho ha
     cases h
     rw[e1];exact((iha ha k1).left (Et ho k2)).wrap
    ·cases h
   ·rename_i hb
    rw[zX]at hb;split at h
    ·rename_i b' hb'
     cases h
     rw[e1];exact((ihb hb' k2).right (a:=.rd a x.1) dY (by simpa using hb) k1).wrap
    ·cases h
 |_ =>
  intro x q off φ' h cs hc;have kA:=(Ty.gr X.P _).len hc
  rw[Ty.yh]at kA;simp only[Mh]at h;split at h
  ·rename_i hb
   simp only[zLR]at hb;cases h;exact ZQ.self hb.1 (by rw[kA];exact zLQ hb.2.1)
  ·cases h
theorem AV.EY{X:Cx}{w:World}{ψ:AV}{sz:Nat}{ag:Bool}(φ:AV):∀ {q:Bool} {off:Nat} {φ':AV},AV.rM ψ sz ag φ q off=some φ'->∀ {cs},(φ.sem X w).c cs->ZQ X w ψ off sz cs φ':=by
 have lone_case:∀(φ:AV) {off:Nat} {φ':AV},(match φ.lone && (Nat.beq off 0 && (Nat.beq sz 1)) with|true=>some ψ|false=>none)=some φ'->∀ {cs},(φ.sem X w).c cs->ZQ X w ψ off sz cs φ':=by
  intro φ off φ' h cs hc;split at h
  ·rename_i hl
   simp only[zLR]at hl;cases h;exact ZQ.self hl.2.1 (by rw[(Rb hl.1 hc).1,zLQ hl.2.2])
  ·cases h
 induction φ with
 |rd t x=>intro q off φ' h cs hc;exact VF h hc
 |ag l ih =>
  intro q off φ' h cs hc;simp only[AV.rM]at h;split at h
  ·rename_i hb
   simp only[zLR]at hb;cases h;exact ZQ.self hb.1 (by rw[<-zLQ hb.2.1];exact AV.len l hc)
  ·split at h
   ·rename_i l' hl'
    cases h
    exact ih hl' hc
   ·cases h
 |pr a b iha ihb =>
  intro q off φ' h cs hc;obtain⟨c1,c2,h1,h2,h3⟩:=hc;rw[h1];simp only[AV.rM]at h;split at h
  ·split at h
   ·rename_i a' ha'
    cases h
    exact(iha ha' h2).left h3
   ·cases h
  ·rename_i hb
   rw[zX]at hb;split at h
   ·rename_i b' hb'
    cases h
    exact(ihb hb' h3).right (AV.len a h2) (by simpa using hb) h2
   ·cases h
 |ex v =>
  intro q off φ' h cs hc;simp only[AV.rM]at h;split at h
  ·rename_i hb
   simp only[zLR]at hb;cases h;refine ZQ.self hb.1 ?_;rw[show cs=v.cells.toList from hc,<-zLQ hb.2];simp
  ·cases h
 |_=>intro q off φ' h;first|exact lone_case _ h|(simp[AV.rM,AV.lone]at h)
inductive VR
 |no
 |tot (φ:AV)
 |par (t:Ty) (c:Comp t.D) (mk:t.D->AV)
def VOk(X:Cx)(w:World)(a:Act)(o:Oper):VR->Prop
 |.no=>True
 |.tot φ=>Ok X.P o a w (fun w v=>φ.holds X w v)
 |.par t c mk=>∀n y,c.run n=some y->Ok X.P o a w (fun w v=>(mk y).holds X w v)
def vI(k:IntKind)(m:Int):VR:=.tot (.rd (.int k) m)
def vB(b:Bool):VR:=.tot (.rd .bool b)
abbrev rdI(k:IntKind)(m:Int):AV:=.rd (.int k) m
abbrev rdB(b:Bool):AV:=.rd .bool b
abbrev rdS(s:vC):AV:=.rd .str s
section ops
variable {X:Cx} {w:World} {a:Act} {o:Oper} {d:Option Tmp} {T Y Z:TypeId} {pos:String} {aft:Array Edge} {g:Option (Nat×Bool)}
theorem XQ{k:IntKind}{m:Int}(h:Ok X.P o a w (SP.isv (.int k m)).holds):Ok X.P o a w (fun w v=>(rdI k m).holds X w v):=yU h fun _ _ _ h=>EX.2 h
theorem uL{b:Bool}(h:Ok X.P o a w (SP.isv (.bool b)).holds):Ok X.P o a w (fun w v=>(rdB b).holds X w v):=yU h fun _ _ _ h=>j6.2 h
theorem Ww{b:vC}(h:Ok X.P o a w (SP.isv (.string (str b))).holds):Ok X.P o a w (fun w v=>(rdS b).holds X w v):=yU h fun _ _ _ h=>EW.2 h
def AV.int?:AV->Option (IntKind×Int)
 |.rd (.int k) m=>some (k,m)
 |_=>none
def AV.Dw:AV->Option vC
 |.rd .str s=>some s
 |_=>none
theorem AV.MI{φ:AV}{p:IntKind×Int}(h:φ.int?=some p):φ=rdI p.1 p.2:=by
 unfold AV.int? at h;split at h
 ·cases h;rfl
 ·cases h
theorem AV.Ia{φ:AV}{p:vC}(h:φ.Dw=some p):φ=rdS p:=by
 unfold AV.Dw at h;split at h
 ·cases h;rfl
 ·cases h
theorem ZA{x:Operand}{φ:AV}(h:φ.holds X w (a.eval x)){p:IntKind×Int}(hp:φ.int?=some p):a.eval x=.int p.1 p.2:=by
 rw[AV.MI hp]at h;exact EX.1 h
theorem XL{x:Operand}{φ:AV}(h:φ.holds X w (a.eval x)){p:Bool}(hp:φ.bool?=some p):a.eval x=.bool p:=by
 rw[AV.ZV hp]at h;exact j6.1 h
theorem X6{x:Operand}{φ:AV}(h:φ.holds X w (a.eval x)){p:vC}(hp:φ.Dw=some p):a.eval x=.string (str p):=by
 rw[AV.Ia hp]at h;exact EW.1 h
def zJ(k:IntKind)(m n:Int):Int:=k.wrap (m+n)
def gQ(k:IntKind)(m n:Int):Int:=k.wrap (m-n)
def kV(k:IntKind)(m n:Int):Int:=k.wrap (m * n)
def Yc(k:IntKind)(m:Int):Int:=k.wrap (0-m)
def nU(k:IntKind)(m:Int):Int:=k.wrap m
def neI(m n:Int):Bool:=decide (m≠n)
def ltI(m n:Int):Bool:=decide (m<n)
def leI(m n:Int):Bool:=decide (m<=n)
def gtI(m n:Int):Bool:=decide (m > n)
def geI(m n:Int):Bool:=decide (m ≥ n)
def rP(m n:Int):Int:=max m n
def Hg(m n:Int):Int:=min m n
def neS(s t:vC):Bool:=decide (s≠t)
def neB(s t:Bool):Bool:=decide (s≠t)
def ntB(b:Bool):Bool:=!b
def zF(xs:List α):Int:=(xs.length:Int)
def sel(b:Bool)(x y:α):α:=bif b then x else y
def zHy(op:BinOp)(k:IntKind)(m n:Int):VR:=match op with
 |.add=>vI k (zJ k m n)
 |.sub=>vI k (gQ k m n)
 |.mul=>vI k (kV k m n)
 |.quo=>.par (.int k) (quo k m n) (.rd (.int k))
 |.rem=>.par (.int k) (rem m n) (.rd (.int k))
 |.and=>vI k (zIA k m n)
 |.or=>vI k (orB k m n)
 |.xor=>vI k (zHF k m n)
 |.andNot=>vI k (HV k m n)
 |.eql=>vB (eqI m n)
 |.neq=>vB (neI m n)
 |.lss=>vB (ltI m n)
 |.leq=>vB (leI m n)
 |.gtr=>vB (gtI m n)
 |.geq=>vB (geI m n)
 |_=>.no
theorem WZ{op:BinOp}{k:IntKind}{m n:Int}{x y:Operand}(hx:a.eval x=.int k m)(hy:a.eval y=.int k n):VOk X w a ⟨d,.binOp op Y x y Z,T,pos,aft,g⟩ (zHy op k m n):=by
 cases op with
 |add=>exact XQ (zDa hx hy)
 |sub=>exact XQ (zDM hx hy)
 |mul=>exact XQ (zDT hx hy)
 |and=>exact XQ (VT hx hy)
 |or=>exact XQ (zDL hx hy)
 |xor=>exact XQ (VS hx hy)
 |andNot=>exact XQ (Dd hx hy)
 |eql=>exact uL (Vf hx hy)
 |neq=>exact uL (VX hx hy)
 |lss=>exact uL (zDV hx hy)
 |leq=>exact uL (zDW hx hy)
 |gtr=>exact uL (zDX hx hy)
 |geq=>exact uL (zDY hx hy)
 |quo=>intro nf y h;obtain⟨h1,h2⟩:=U6 h;subst h2;exact XQ (zDQ hx hy h1)
 |rem=>intro nf y h;obtain⟨h1,h2⟩:=U5 h;subst h2;exact XQ (zDP hx hy h1)
 |_=>exact trivial
def zHN(k:IntKind)(m n:Int):Comp Int:=if 0<=n then Comp.pure (zHM k m n) else Comp.fail
def zHL(k:IntKind)(m n:Int):Comp Int:=if 0<=n then Comp.pure (zHK k m n) else Comp.fail
def zKs:BinOp->Bool
 |.shl|.shr=>true
 |_=>false
def S7(op:BinOp)(k:IntKind)(m n:Int):VR:=match op with
 |.shl=>.par (.int k) (zHN k m n) (.rd (.int k))
 |.shr=>.par (.int k) (zHL k m n) (.rd (.int k))
 |_=>.no
theorem Qe{op:BinOp}{k l:IntKind}{m n:Int}{x y:Operand}(hx:a.eval x=.int k m)(hy:a.eval y=.int l n):VOk X w a ⟨d,.binOp op Y x y Z,T,pos,aft,g⟩ (S7 op k m n):=by
 cases op<;>simp only[S7]<;>first
  |exact trivial
  |(intro nf y h;unfold zHN at h;split at h;exact XQ (by rw[<-run_pure h];exact VO hx hy ‹_›);cases h)
  |(intro nf y h;unfold zHL at h;split at h;exact XQ (by rw[<-run_pure h];exact VN hx hy ‹_›);cases h)
def zFO(op:BinOp)(s t:vC):VR:=match op with
 |.eql=>vB (eqS s t)
 |.neq=>vB (neS s t)
 |.add=>.par .str (cat s t) (.rd .str)
 |_=>.no
theorem WY{op:BinOp}{s t:vC}{x y:Operand}(hx:a.eval x=.string (str s))(hy:a.eval y=.string (str t)):VOk X w a ⟨d,.binOp op Y x y Z,T,pos,aft,g⟩ (zFO op s t):=by
 cases op<;>simp only[zFO]<;>first
  |exact trivial
  |exact uL (Nr hx hy)
  |exact uL (Nm hx hy)
  |(intro nf y h;exact Ww (Ns hx hy h))
def mX:TypeDesc->Bool
 |.bool=>true
 |_=>false
def zFP(T:TE)(Y:TypeId)(op:BinOp)(s t:Bool):VR:=match look T Y with
 |none=>.no
 |some i=>match mX i.dd with
  |false=>.no
  |true=>match op with
   |.eql=>vB (eqB s t)
   |.neq=>vB (neB s t)
   |_=>.no
theorem Dk{d:TypeDesc}(h:mX d=true):d=.bool:=by cases d<;>first|rfl|cases h
theorem Wb{TT:TE}(hT:TOk X.P TT){op:BinOp}{s t:Bool}{x y:Operand}(hx:a.eval x=.bool s)(hy:a.eval y=.bool t):VOk X w a ⟨d,.binOp op Y x y Z,T,pos,aft,g⟩ (zFP TT Y op s t):=by
 unfold zFP
 cases hl:look TT Y with
 |none=>trivial
 |some i =>
  simp only
  cases hb:mX i.dd with
  |false=>trivial
  |true =>
   have:=(hT Y i hl).ty;rw[Dk hb]at this;cases op<;>first|exact trivial|exact uL (Vg this hx hy)|exact uL (VY this hx hy)
def zEl(T:TE)(op:BinOp)(Y:TypeId):Option AV->Option AV->VR
 |some φ,some ψ=>match φ.int?,ψ.int? with
  |some p,some q=>match zKs op with
   |true=>S7 op p.1 p.2 q.2
   |false=>match Hh p.1 q.1 with
    |true=>zHy op p.1 p.2 q.2
    |false=>.no
  |_,_=>match φ.Dw,ψ.Dw with
   |some s,some t=>zFO op s t
   |_,_=>match φ.bool?,ψ.bool? with
    |some s,some t=>zFP T Y op s t
    |_,_=>.no
 |_,_=>.no
def ZK(X:Cx)(w:World)(a:Act)(rd:Operand->Option AV)(l:Array Operand):Prop:=∀x φ,x∈l->rd x=some φ->φ.holds X w (a.eval x)
theorem Uq{TT:TE}(hT:TOk X.P TT){rd:Operand->Option AV}{op:BinOp}{x y:Operand}(H:ZK X w a rd (Op.operands (.binOp op Y x y Z))):VOk X w a ⟨d,.binOp op Y x y Z,T,pos,aft,g⟩ (zEl TT op Y (rd x) (rd y)):=by
 cases h1:rd x with
 |none=>trivial
 |some φ =>
  cases h2:rd y with
  |none=>trivial
  |some ψ =>
   have k1:=H x φ (by simp[Op.operands]) h1
   have k2:=H y ψ (by simp[Op.operands]) h2
   simp only[zEl];split
   ·rename_i p q e1 e2
    have f1:=ZA k1 e1;have f2:=ZA k2 e2
    split
    ·exact Qe f1 f2
    ·split
     ·rename_i hk
      rw[<-Xn hk]at f2;exact WZ f1 f2
     ·trivial
   ·split
    ·rename_i s t e1 e2
     exact WY (X6 k1 e1) (X6 k2 e2)
    ·split
     ·rename_i s t e1 e2
      exact Wb hT (XL k1 e1) (XL k2 e2)
     ·trivial
def vUn(op:UnOp):Option AV->VR
 |some φ=>match op with
  |.not=>match φ.bool? with
   |some b=>vB (ntB b)
   |none=>.no
  |.neg=>match φ.int? with
   |some p=>vI p.1 (Yc p.1 p.2)
   |none=>.no
  |_=>.no
 |none=>.no
theorem zBO{rd:Operand->Option AV}{op:UnOp}{x:Operand}(H:ZK X w a rd (Op.operands (.unOp op Y x))):VOk X w a ⟨d,.unOp op Y x,T,pos,aft,g⟩ (vUn op (rd x)):=by
 cases h1:rd x with
 |none=>trivial
 |some φ =>
  have k1:=H x φ (by simp[Op.operands]) h1
  cases op<;>simp only[vUn]<;>try exact trivial
  ·split
   ·rename_i p e;exact XQ (zDS (ZA k1 e))
   ·trivial
  ·split
   ·rename_i p e;exact uL (zDR (XL k1 e))
   ·trivial
def W6:TypeDesc->Option IntKind
 |.int k=>some k
 |_=>none
theorem mY{d:TypeDesc}{k:IntKind}(h:W6 d=some k):d=.int k:=by cases d<;>first|(cases h;rfl)|cases h
def SK(T:TE)(Y Z:TypeId):Option AV->VR
 |some φ=>match φ.int?,look T Y,look T Z with
  |some p,some i,some j=>match W6 i.dd,W6 j.dd with
   |some k,some l=>match Hh k p.1 with
    |true=>vI l (nU l p.2)
    |false=>.no
   |_,_=>.no
  |_,_,_=>.no
 |none=>.no
theorem Mx{TT:TE}(hT:TOk X.P TT){rd:Operand->Option AV}{x:Operand}(H:ZK X w a rd (Op.operands (.convert Y Z x))):VOk X w a ⟨d,.convert Y Z x,T,pos,aft,g⟩ (SK TT Y Z (rd x)):=by
 cases h1:rd x with
 |none=>trivial
 |some φ =>
  have k1:=H x φ (by simp[Op.operands]) h1
  simp only[SK];split
  ·rename_i p i j e1 e2 e3
   split
   ·rename_i k l e4 e5
    split
    ·rename_i hk
     have hk:=Xn hk;have t1:=(hT Y i e2).ty
     have t2:=(hT Z j e3).ty;rw[mY e4]at t1;rw[mY e5]at t2;subst hk;exact XQ (Nw t1 t2 (ZA k1 e1))
    ·trivial
   ·trivial
  ·trivial
theorem Ms{rd:Operand->Option AV}{x:Operand}{φ:AV}(h:rd x=some φ)(H:ZK X w a rd (Op.operands (.move x))):VOk X w a ⟨d,.move x,T,pos,aft,g⟩ (.tot φ) :=
 y8 (v:=a.eval x) (w':=w) (by simp[execOp]) (Ext.refl _) (H x φ (by simp[Op.operands]) h)
theorem C6{rd:Operand->Option AV}{x:Operand}{φ:AV}(h:rd x=some φ)(H:ZK X w a rd (Op.operands (.assign x))):VOk X w a ⟨d,.assign x,T,pos,aft,g⟩ (.tot φ) :=
 y8 (v:=a.eval x) (w':=w) (by simp[execOp]) (Ext.refl _) (H x φ (by simp[Op.operands]) h)
def vMM(mx:Bool):Option AV->Option AV->VR
 |some φ,some ψ=>match φ.int?,ψ.int? with
  |some p,some q=>match Hh p.1 q.1 with
   |true=>match mx with
    |true=>vI p.1 (rP p.2 q.2)
    |false=>vI p.1 (Hg p.2 q.2)
   |false=>.no
  |_,_=>.no
 |_,_=>.no
theorem Ug{rd:Operand->Option AV}{x y:Operand}(H:ZK X w a rd (Op.operands (.call ⟨.builtin .max,#[x,y],#[Y,Z]⟩))):VOk X w a ⟨d,.call ⟨.builtin .max,#[x,y],#[Y,Z]⟩,T,pos,aft,g⟩ (vMM true (rd x) (rd y)):=by
 cases h1:rd x with
 |none=>trivial
 |some φ =>
  cases h2:rd y with
  |none=>trivial
  |some ψ =>
   have k1:=H x φ (by simp[Op.operands,Call.operands]) h1
   have k2:=H y ψ (by simp[Op.operands,Call.operands]) h2
   simp only[vMM];split
   ·rename_i p q e1 e2
    split
    ·rename_i hk;have hk:=Xn hk
     have f2:=ZA k2 e2;rw[<-hk]at f2;exact XQ (VP (ZA k1 e1) f2)
    ·trivial
   ·trivial
theorem Uf{rd:Operand->Option AV}{x y:Operand}(H:ZK X w a rd (Op.operands (.call ⟨.builtin .min,#[x,y],#[Y,Z]⟩))):VOk X w a ⟨d,.call ⟨.builtin .min,#[x,y],#[Y,Z]⟩,T,pos,aft,g⟩ (vMM false (rd x) (rd y)):=by
 cases h1:rd x with
 |none=>trivial
 |some φ =>
  cases h2:rd y with
  |none=>trivial
  |some ψ =>
   have k1:=H x φ (by simp[Op.operands,Call.operands]) h1
   have k2:=H y ψ (by simp[Op.operands,Call.operands]) h2
   simp only[vMM];split
   ·rename_i p q e1 e2
    split
    ·rename_i hk;have hk:=Xn hk
     have f2:=ZA k2 e2;rw[<-hk]at f2;exact XQ (zDU (ZA k1 e1) f2)
    ·trivial
   ·trivial
def slD:TypeDesc->Option TypeId
 |.slice e=>some e
 |_=>none
theorem kj{d:TypeDesc}{k:TypeId}(h:slD d=some k):d=.slice k:=by cases d<;>first|(cases h;rfl)|cases h
def arD:TypeDesc->Option (Nat×TypeId)
 |.array n e=>some (n,e)
 |_=>none
theorem E3{d:TypeDesc}{k:Nat×TypeId}(h:arD d=some k):d=.array k.1 k.2:=by cases d<;>first|(cases h;rfl)|cases h
def Hb(M:MS):AV->Option ((t:Ty)×List t.D)
 |.rd (.sl t) xs=>some ⟨t,xs⟩
 |.em t=>some ⟨t,[]⟩
 |.ob k=>match look M k with
  |some (_,.fs t xs)=>some ⟨t,xs⟩
  |_=>none
 |.ex (.slice none 0 _)=>none
 |_=>none
theorem qe{M:MS}(hM:yD M X w){φ:AV}{u:Value}(hu:φ.holds X w u){p:(t:Ty)×List t.D}(h:Hb M φ=some p):(rSl (p.1.gr X.P)).v X.O w u p.2:=by
 unfold Hb at h;split at h
 ·cases h;exact hu
 ·cases h;exact zBI hu
 ·split at h
  ·rename_i k _ st t xs hk
   cases h
   have:=hM k _ hk;rw[hu.1];exact this
  ·cases h
 ·cases h
 ·cases h
def uH(M:MS):AV->Option (Nat×TypeId×(t:Ty)×List t.D)
 |.ob k=>match look M k with
  |some (_,.sl _ t T xs)=>some (k,T,⟨t,xs⟩)
  |_=>none
 |_=>none
theorem Ja{M:MS}(hM:yD M X w){φ:AV}{u:Value}(hu:φ.holds X w u){p:Nat×TypeId×(t:Ty)×List t.D}(h:uH M φ=some p):(∃nw,zo (X.ι p.1) (p.2.2.1.gr X.P) p.2.1 (X.B nw) X.O w u p.2.2.2)/\u=X.U p.1/\p.1<X.n:=by
 unfold uH at h;split at h
 ·split at h
  ·rename_i k _ st nw t T xs hk
   cases h
   have:=hM k _ hk;refine⟨⟨nw,?_⟩,hu.1,hu.2.1⟩;rw[hu.1];exact this
  ·cases h
 ·cases h
def qb(M:MS):AV->Option (TypeId×(t:Ty)×List t.D)
 |.sx k lo esz=>match look M k with
  |some (_,.sl _ t T xs)=>match Nat.beq esz t.sz with
   |true=>some (T,⟨t,xs.drop lo⟩)
   |false=>none
  |_=>none
 |_=>none
theorem U0{w:World}{E:Nat}{u:Value}{vs:List Value}(h:SlV w E u vs)(m:Nat):SlV w E (rL u m E) (vs.drop m):=by
 have h':=h;obtain⟨p,c,h1,h2,h3,h4⟩:=h;subst h1;by_cases hm:m<=vs.length
 ·exact SlV.drop h' hm
 ·have e:vs.drop m=[]:=List.drop_eq_nil_of_le (by omega)
  refine⟨_,c-m,by rw[e];simp only[rL];congr 1;simp;omega,by rw[e];simp,by rw[e];simp,.inl e⟩
theorem qD{M:MS}(hM:yD M X w){φ:AV}{u:Value}(hu:φ.holds X w u){p:TypeId×(t:Ty)×List t.D}(h:qb M φ=some p):Rd (p.2.1.gr X.P) X.O w u p.2.2:=by
 unfold qb at h;split at h
 ·split at h
  ·rename_i k lo esz _ st nw t T xs hk
   split at h
   ·rename_i hs
    cases h
    have hm:zo _ _ _ _ _ _ _ _:=hM k _ hk;obtain⟨vs,g1,g2⟩:=hm.rd;rw[hu.1,zLQ hs,<-Ty.yh X.P t];exact⟨vs.drop lo,U0 g1 lo,g2.drop lo⟩
   ·cases h
  ·cases h
 ·cases h
def Mj(φ:AV):Bool:=match φ with
 |.ex (.slice none 0 0)=>true
 |_=>false
theorem mR{φ:AV}(h:Mj φ=true):φ=.ex (.slice none 0 0):=by
 unfold Mj at h;split at h
 ·rfl
 ·cases h
def zEf(T:TE)(M:MS)(Y:TypeId):Option AV->VR
 |some φ=>match look T Y with
  |none=>.no
  |some i=>match slD i.dd with
   |some e=>match Hb M φ with
    |some p=>vI .i64 (zF p.2)
    |none=>match uH M φ with
     |some p=>vI .i64 (zF p.2.2.2)
     |none=>match qb M φ with
      |some p=>vI .i64 (zF p.2.2)
      |none=>match Mj φ with
       |true=>vI .i64 (zF ([]:List Unit))
       |false=>.no
   |none=>match φ.Dw,i.dd with
    |some s,.string=>vI .i64 (zF s)
    |_,_=>.no
 |none=>.no
theorem Ui{TT:TE}(hT:TOk X.P TT){M:MS}(hM:yD M X w){rd:Operand->Option AV}{x:Operand}(H:ZK X w a rd (Op.operands (.call ⟨.builtin .len,#[x],#[Y]⟩))):VOk X w a ⟨d,.call ⟨.builtin .len,#[x],#[Y]⟩,T,pos,aft,g⟩ (zEf TT M Y (rd x)):=by
 cases h1:rd x with
 |none=>trivial
 |some φ =>
  have k1:=H x φ (by simp[Op.operands,Call.operands]) h1
  simp only[zEf];split
  ·trivial
  ·rename_i i hi
   have ht:=(hT Y i hi).ty;split
   ·rename_i e he
    rw[kj he]at ht;split
    ·rename_i p hp
     exact XQ (ug ht rfl (Cm (qe hM k1 hp)))
    ·split
     ·rename_i p hp
      exact XQ (ug ht rfl (Ja hM k1 hp).1.choose_spec.rd)
     ·split
      ·rename_i p hp
       exact XQ (ug ht rfl (qD hM k1 hp))
      ·split
       ·rename_i hn
        rw[mR hn]at k1;have k1:a.eval x=.slice none 0 0:=k1
        have hx:(rSl (zHR:GR Unit)).v X.O w (a.eval x) []:=by rw[k1];exact uc _ _ _ _
        exact XQ (ug ht rfl (Cm hx))
       ·trivial
   ·split
    ·rename_i s hs hd
     rw[hd]at ht;exact XQ (Nn ht (X6 k1 hs))
    ·trivial
def zHG(M:MS)(φ:AV)(j:TI)(n:Option (IntKind×Int)):VR:=match uH M φ,n with
 |some p,some n=>match Nat.beq p.2.2.1.sz j.sz with
  |true=>.par .nil ((sub p.2.2.2 n.2 (zF p.2.2.2)).bind fun _=>Comp.pure ()) fun _=>.sx p.1 n.2.toNat j.sz
  |false=>.no
 |_,_=>.no
def zHH(M:MS)(φ:AV)(j:TI)(n:Option (IntKind×Int)):VR:=match uH M φ,n with
 |some p,some n=>match Nat.beq p.2.2.1.sz j.sz with
  |true=>.par .nil ((sub p.2.2.2 0 n.2).bind fun _=>Comp.pure ()) fun _=>.px p.1 n.2.toNat
  |false=>.no
 |_,_=>.no
def D8(T:TE)(M:MS)(Y:TypeId)(rd:Operand->Option AV):Option AV->Option Operand->Option Operand->VR
 |some φ,l,h=>match look T Y with
  |none=>.no
  |some i=>match slD i.dd with
   |some e=>match look T e,Hb M φ with
    |some j,some p=>match Nat.beq p.1.sz j.sz with
     |true=>match l,h with
      |none,some h=>match (rd h).bind AV.int? with
       |some n=>.par (.sl p.1) (sub p.2 0 n.2) (.rd (.sl p.1))
       |none=>.no
      |some l,none=>match (rd l).bind AV.int? with
       |some n=>.par (.sl p.1) (sub p.2 n.2 (zF p.2)) (.rd (.sl p.1))
       |none=>.no
      |some l,some h=>match (rd l).bind AV.int?,(rd h).bind AV.int? with
       |some m,some n=>.par (.sl p.1) (sub p.2 m.2 n.2) (.rd (.sl p.1))
       |_,_=>.no
      |none,none=>.no
     |false=>.no
    |some j,none=>match l,h with
     |some l,none=>zHG M φ j ((rd l).bind AV.int?)
     |none,some h=>zHH M φ j ((rd h).bind AV.int?)
     |_,_=>.no
    |_,_=>.no
   |none=>match φ.Dw,i.dd with
    |some s,.string=>match l,h with
     |none,some h=>match (rd h).bind AV.int? with
      |some n=>.par .str (sub s 0 n.2) (.rd .str)
      |none=>.no
     |some l,none=>match (rd l).bind AV.int? with
      |some n=>.par .str (sub s n.2 (zF s)) (.rd .str)
      |none=>.no
     |some l,some h=>match (rd l).bind AV.int?,(rd h).bind AV.int? with
      |some m,some n=>.par .str (sub s m.2 n.2) (.rd .str)
      |_,_=>.no
     |none,none=>.no
    |_,_=>.no
 |none,_,_=>.no
theorem vM{rd:Operand->Option AV}{l:Array Operand}(H:ZK X w a rd l){x:Operand}(hx:x∈l){p:IntKind×Int}(h:(rd x).bind AV.int?=some p):a.eval x=.int p.1 p.2:=by
 cases h1:rd x with
 |none=>rw[h1]at h;cases h
 |some φ=>rw[h1]at h;exact ZA (H x φ hx h1) h
theorem IQ{TT:TE}(hT:TOk X.P TT){M:MS}(hM:yD M X w){rd:Operand->Option AV}{x:Operand}{l h:Option Operand}(H:ZK X w a rd (Op.operands (.slice Y x l h none))):VOk X w a ⟨d,.slice Y x l h none,T,pos,aft,g⟩ (D8 TT M Y rd (rd x) l h):=by
 cases h1:rd x with
 |none=>trivial
 |some φ =>
  have k1:=H x φ (by simp[Op.operands]) h1
  simp only[D8];split
  ·trivial
  ·rename_i i hi
   have ht:=(hT Y i hi).ty;split
   ·rename_i e he
    rw[kj he]at ht;split
    ·rename_i j p hj hp
     have hj':=(hT e j hj).ty;have hv:=qe hM k1 hp
     split
     ·rename_i hs
      have hs':(p.1.gr X.P).sz=j.sz:=by rw[Ty.yh];exact zLQ hs
      cases l<;>cases h<;>simp only<;>try trivial
      ·split
       ·rename_i n hn
        intro nf y hy;exact Aa ht hj' hs' rfl hv (vM H (by simp[Op.operands]) hn) hy
       ·trivial
      ·split
       ·rename_i n hn
        intro nf y hy;exact AZ ht hj' hs' rfl hv (vM H (by simp[Op.operands]) hn) hy
       ·trivial
      ·split
       ·rename_i m n hm hn
        intro nf y hy;exact pg ht hj' hs' rfl hv (vM H (by simp[Op.operands]) hm) (vM H (by simp[Op.operands]) hn) hy
       ·trivial
     ·trivial
    ·rename_i j hj aS
     have hj':=(hT e j hj).ty;split
     ·rename_i l0
      unfold zHG;split
      ·rename_i p n hp hn
       split
       ·rename_i hs
        have hs':(p.2.2.1.gr X.P).sz=j.sz:=by rw[Ty.yh];exact zLQ hs
        obtain⟨⟨nw,f1⟩,f2,f3⟩:=Ja hM k1 hp;intro nf y hy;obtain⟨ys,eV,_⟩:=run_bind hy;refine yU (AY ht hj' hs' rfl f1.W2 (vM H (by simp[Op.operands]) hn) eV) fun w' v hE hv=>⟨?_,f3⟩
        rw[show v=_ from hv,<-f2]
       ·trivial
      ·trivial
     ·rename_i h0
      unfold zHH;split
      ·rename_i p n hp hn
       split
       ·rename_i hs
        have hs':(p.2.2.1.gr X.P).sz=j.sz:=by rw[Ty.yh];exact zLQ hs
        obtain⟨⟨nw,f1⟩,f2,f3⟩:=Ja hM k1 hp;intro nf y hy;obtain⟨ys,eV,_⟩:=run_bind hy;have hr:=jd eV
        obtain⟨vs,g1,g2,_⟩:=f1;obtain⟨ad,cap,g3,_⟩:=g1.slv;have kA:=g2.len
        have i6:ys.length=n.2.toNat:=by
         have e4:ys=p.2.2.2.take n.2.toNat:=by simpa using hr.2.symm
         rw[e4,zLm];omega
        refine yU (Yv ht hj' hs' rfl (zo.W2 ⟨vs,g1,g2,‹_›⟩) (vM H (by simp[Op.operands]) hn) eV) fun w' v hE hv=>⟨⟨?_,ad,_,cap,by rw[<-f2];exact g3,by omega⟩,f3⟩
        rw[show v=_ from hv,<-f2,i6]
       ·trivial
      ·trivial
     ·trivial
    ·trivial
   ·split
    ·rename_i s hs hd
     rw[hd]at ht;have hv:=X6 k1 hs
     cases l<;>cases h<;>simp only<;>try trivial
     ·split
      ·rename_i n hn
       intro nf y hy;exact Ww (pj ht hv (vM H (by simp[Op.operands]) hn) hy)
      ·trivial
     ·split
      ·rename_i n hn
       intro nf y hy;exact Ww (ph ht hv (vM H (by simp[Op.operands]) hn) hy)
      ·trivial
     ·split
      ·rename_i m n hm hn
       intro nf y hy;exact Ww (rI ht hv (vM H (by simp[Op.operands]) hm) (vM H (by simp[Op.operands]) hn) hy)
      ·trivial
    ·trivial
end ops
def zAA(r:GR α)(x:α):GR Unit:=⟨r.agg,r.sz,fun O w cs _=>r.rel O w cs x,fun h=>r.len h,fun h=>r.one h,fun hk h=>r.mono hk h⟩
section ops
variable {X:Cx} {w:World} {a:Act} {o:Oper} {d:Option Tmp} {T Y Z:TypeId} {pos:String} {aft:Array Edge} {g:Option (Nat×Bool)}
theorem qM{b:Nat}{cs:Array Value}{T':TypeId}{off:Nat}{c1 c2 c3:List Value}{ag:Bool}(hO:Own w b cs T')(e1:cs.toList=c1++(c2++c3))(e2:c1.length=off)(h1:ag=false->c2.length=1)(ho:∀c∈c2,c.oneCell'=true) :
  Yy w (.pointer (some ⟨b,off,none⟩)) (yC ag c2):=by
 refine⟨b,off,rfl,fun j hj=>?_⟩
 rw[jr h1 ho]at hj |-;rw[hO.cell,<-Array.getElem?_toList,e1];simp only[List.size_toArray]at hj;rw[zLg (by omega),zLf (by omega)]
 simp[<-e2]
def UU(M:MS)(k:Nat):Option AV:=match look M k with
 |some (_,.bx _ c _)=>some c
 |_=>none
theorem E1{M:MS}(hM:yD M X w){k:Nat}{c:AV}(h:UU M k=some c):∃T' nw b cs,X.U k=.pointer (some ⟨b,0,none⟩)/\OwnB (X.ι k) (X.B nw) X.O w b cs T'/\(c.sem X w).c cs.toList:=by
 unfold UU at h;split at h
 ·rename_i st nw c' T' hk
  cases h
  obtain⟨b,cs,h1,h2,h3,_⟩:=hM k _ hk;exact⟨T',nw,b,cs,h1,h2,h3⟩
 ·cases h
def Wx(t:Ty)(i:TI):Bool:=lK t.agg (vO i.dd) && Nat.beq t.sz i.sz
theorem Gi{t:Ty}{i:TI}(h:Wx t i=true)(P:Program):vO i.dd=(t.gr P).agg/\(t.gr P).sz=i.sz:=by
 unfold Wx at h;rw[zLR]at h;exact⟨by rw[Ty.jF];exact(Xo h.1).symm,by rw[Ty.yh];exact zLQ h.2⟩
def Dx(M:MS):AV->Option ((t:Ty)×t.D)
 |.pt t x=>some ⟨t,x⟩
 |.pq t x=>some ⟨t,x⟩
 |.rd (.box t) x=>some ⟨t,x⟩
 |.bx k off=>match off with
  |0=>match look M k with
   |some (_,.fb t x)=>some ⟨t,x⟩
   |_=>none
  |_=>none
 |_=>none
theorem Q2{M:MS}(hM:yD M X w){φ:AV}{u:Value}(hu:φ.holds X w u){p:(t:Ty)×t.D}(h:Dx M φ=some p):∃v,Yy w u v/\(p.1.gr X.P).v X.O w v p.2:=by
 unfold Dx at h;split at h
 ·cases h;exact hu.1.ptr
 ·cases h;exact hu
 ·cases h;exact tJ (Ty.fits _ _) hu
 ·split at h
  ·split at h
   ·rename_i k _ _ st t x hk
    cases h
    have:=hM k _ hk;obtain⟨_,b,h1,h2⟩:=hu;rw[h2,<-h1];exact tJ (Ty.fits _ _) this
   ·cases h
  ·cases h
 ·cases h
def ptZ(M:MS):AV->Option ((t:Ty)×t.D)
 |.pq t x=>none
 |φ=>Dx M φ
theorem zFi{M:MS}(hM:yD M X w){φ:AV}{u:Value}(hu:φ.holds X w u){p:(t:Ty)×t.D}(h:ptZ M φ=some p):lL (p.1.gr X.P) X.O w u p.2:=by
 have h':Dx M φ=some p:=by
  unfold ptZ at h;split at h
  ·cases h
  ·exact h
 have hq:∀t x,φ≠.pq t x:=fun t x e=>by subst e;cases h
 unfold Dx at h';split at h'
 ·cases h';exact hu.1
 ·rename_i t x;exact zLh rfl (hq t x)
 ·cases h';exact wV (Ty.fits _ _) hu
 ·split at h'
  ·split at h'
   ·rename_i k _ _ st t x hk
    cases h'
    have:=hM k _ hk;obtain⟨_,b,h1,h2⟩:=hu;rw[h2,<-h1];exact wV (Ty.fits _ _) this
   ·cases h'
  ·cases h'
 ·cases h'
def SI(T:TE)(M:MS)(Y:TypeId):Option AV->VR
 |some φ=>match look T Y with
  |none=>.no
  |some i=>match Dx M φ with
   |some p=>match Wx p.1 i with
    |true=>.tot (.rd p.1 p.2)
    |false=>.no
   |none=>match φ with
    |.bx k off=>match UU M k with
     |some c=>match c.at_ i.sz (vO i.dd) true off with
      |some ψ=>.tot ψ
      |none=>.no
     |none=>.no
    |_=>.no
 |none=>.no
theorem Mv{TT:TE}(hT:TOk X.P TT){M:MS}(hM:yD M X w){rd:Operand->Option AV}{x:Operand}(H:ZK X w a rd (Op.operands (.load Y x))):VOk X w a ⟨d,.load Y x,T,pos,aft,g⟩ (SI TT M Y (rd x)):=by
 cases h1:rd x with
 |none=>trivial
 |some φ =>
  have k1:=H x φ (by simp[Op.operands]) h1
  simp only[SI];split
  ·trivial
  ·rename_i i hi
   have ht:=(hT Y i hi).ty;split
   ·rename_i p hp
    split
    ·rename_i ho
     obtain⟨e1,e2⟩:=Gi ho X.P;exact zBj (Ty.fits _ _) ht e1 e2 rfl (Q2 hM k1 hp)
    ·trivial
   ·split
    ·rename_i k off bH
     split
     ·rename_i c hc
      split
      ·rename_i ψ hψ
       obtain⟨T',nw,b,cs,e1,e2,e3⟩:=E1 hM hc;obtain⟨c1,c2,c3,f1,f2,f3,f4,f5,f6⟩:=(AV.IC c hψ e3).h;obtain⟨_,b',e4,e5⟩:=k1;rw[e1]at e4;cases e4
       cases sW:vO i.dd with
       |true =>
        rw[sW]at f6;exact yU (Ab ht sW e5 e2.own f1 f2 f3) fun w' v hE hv=>by rw[show v=_ from hv];exact ψ.ext hE f6
       |false =>
        have hl:c2.length=1:=by rw[f3];exact f5 sW
        match c2,hl with
        | [v0],_ =>
         rw[sW]at f6;have:cs[off]?=some v0:=by
          rw[<-Array.getElem?_toList,f1,zLg (by omega)]
          simp[<-f2]
         exact yU (Dg ht sW e5 e2.own this) fun w' v hE hv=>by rw[show v=_ from hv];exact ψ.ext hE f6
      ·trivial
     ·trivial
    ·trivial
 /-! fields -/
def zAI:AV->Option ((t:Ty)×t.D)
 |.rd t x=>some ⟨t,x⟩
 |_=>none
theorem Wc{φ:AV}{p:(t:Ty)×t.D}(h:zAI φ=some p):φ=.rd p.1 p.2:=by
 unfold zAI at h;split at h
 ·cases h;rfl
 ·cases h
def zEi(T:TE)(M:MS)(Y:TypeId)(f:Nat):Option AV->VR
 |some φ=>match look T Y with
  |none=>.no
  |some i=>match i.fl[f]? with
   |none=>.no
   |some e=>match look T e.1 with
    |none=>.no
    |some j=>match Dx M φ with
     |some p=>match (atT (e.2.2+1) (vO j.dd) p.1 p.2 true e.2.1).bind zAI,p.1.agg with
      |some q,true=>match ptZ M φ with
       |some _=>.tot (.pt q.1 q.2)
       |none=>.tot (.pq q.1 q.2)
      |_,_=>.no
     |none=>match φ with
      |.bx k off=>.tot (.bx k (off+e.2.1))
      |.ba k off sz m esz off2=>.tot (.ba k off sz m esz (off2+e.2.1))
      |.el k m esz off2=>.tot (.el k m esz (off2+e.2.1))
      |_=>.no
 |none=>.no
theorem zBT{t:Ty}{x:t.D}{off sz:Nat}{ag:Bool}{q:(t:Ty)×t.D}(h:(atT sz ag t x true off).bind zAI=some q) :
  q.1.sz=sz/\q.1.agg=ag/\∀ {O w cs},(t.gr X.P).rel O w cs x->∃c1 c2 c3,cs=c1++(c2++c3)/\c1.length=off/\(q.1.gr X.P).rel O w c2 q.2:=by
 cases h1:atT sz ag t x true off with
 |none=>rw[h1]at h;cases h
 |some φ =>
  rw[h1]at h;have e:=Wc h
  obtain⟨t',x',e1,e2,e3,e4⟩:=R7 (P:=X.P) h1;rw[e]at e1;obtain⟨t2,x2⟩:=q;cases e1;exact⟨e2,e3,e4⟩
theorem zBg{M:MS}{φ:AV}{p q:(t:Ty)×t.D}(h:Dx M φ=some p)(h2:ptZ M φ=some q):q=p:=by
 unfold ptZ at h2;split at h2
 ·cases h2
 ·rw[h]at h2;cases h2;rfl
theorem Ul{TT:TE}(hT:TOk X.P TT){M:MS}(hM:yD M X w){rd:Operand->Option AV}{x:Operand}{f:Nat}(H:ZK X w a rd (Op.operands (.fieldAddr Y x f))):VOk X w a ⟨d,.fieldAddr Y x f,T,pos,aft,g⟩ (zEi TT M Y f (rd x)):=by
 cases h1:rd x with
 |none=>trivial
 |some φ =>
  have k1:=H x φ (by simp[Op.operands]) h1
  simp only[zEi];split
  ·trivial
  ·rename_i i hi
   split
   ·trivial
   ·rename_i e he
    have hF:=(hT Y i hi).fl f e he;split
    ·trivial
    ·rename_i j hj
     split
     ·rename_i p hp
      split
      ·rename_i q hq sW
       obtain⟨e1,e2,e3⟩:=zBT (X:=X) hq;have hs:0<(q.1.gr X.P).sz:=by rw[Ty.yh,e1];omega
       have hSag:(p.1.gr X.P).agg=true:=by rw[Ty.jF];exact sW
       split
       ·rename_i p' hp'
        have:=zBg hp hp';subst this;have hz:=zFi hM k1 hp'
        refine yU (Nq (S:=zAA (p'.1.gr X.P) p'.2) (r:=zAA (q.1.gr X.P) q.2) (p:=fun u=>u) (y:=()) hSag hs (Ty.fits X.P q.1) (fun {O w cs u} h=>e3 h) hF rfl hz) fun w' v hE hv=>?_
        exact⟨hv,by rw[<-Ty.yh X.P];exact hs⟩
       ·have hz:=Q2 hM k1 hp
        exact VQ (S:=zAA (p.1.gr X.P) p.2) (r:=zAA (q.1.gr X.P) q.2) (p:=fun u=>u) (y:=()) hSag (Ty.fits X.P q.1) (fun {O w cs u} h=>e3 h) hF rfl hz
      ·trivial
     ·split
      ·rename_i k off
       obtain⟨h2,b,h3,h4⟩:=k1;exact yU (ku hF h4) fun w' v hE hv=>⟨h2,b,h3,hv⟩
      ·rename_i k off sz m esz off2
       obtain⟨h2,h3,h4,b,h5,h6⟩:=k1;exact yU (ku hF h6) fun w' v hE hv=>⟨h2,h3,h4,b,h5,by rw[show v=_ from hv,Nat.add_assoc]⟩
      ·rename_i k m esz off2
       obtain⟨h2,h3,h4,b,h5,h6⟩:=k1;exact yU (ku hF h6) fun w' v hE hv=>⟨h2,h3,h4,b,h5,by rw[show v=_ from hv,Nat.add_assoc]⟩
      ·trivial
end ops
def Ty.closed:Ty->Bool
 |.int _|.bool|.str|.nil=>true
 |.cons a b=>a.closed && b.closed
 |.arr _ e=>e.closed
 |_=>false
theorem XV{P:Program}:∀ {t:Ty},t.closed=true->∀ {O O' w w' cs} {x:t.D},(t.gr P).rel O w cs x->(t.gr P).rel O' w' cs x
 |.int _,_,_,_,_,_,_,_,h=>h
 |.bool,_,_,_,_,_,_,_,h=>h
 |.str,_,_,_,_,_,_,_,h=>h
 |.nil,_,_,_,_,_,_,_,h=>h
 |.cons a b,hc,O,O',w,w',cs,x,⟨c1,c2,h,h1,h2⟩=>by
  simp only[Ty.closed,zLR]at hc;exact⟨c1,c2,h,XV hc.1 h1,XV hc.2 h2⟩
 |.arr n e,hc,O,O',w,w',cs,x,⟨h1,h2⟩=>by
  refine⟨h1,?_⟩;have:∀ {xs:List e.D} {cs},jf (e.gr P) O w cs xs->jf (e.gr P) O' w' cs xs:=by
   intro xs
   induction xs with
   |nil=>intro cs h;exact h
   |cons y ys ih=>intro cs ⟨c1,c2,h,h1,h2⟩;exact⟨c1,c2,h,XV (t:=e) hc h1,ih h2⟩
  exact this h2
theorem XO{P:Program}{t:Ty}(hc:t.closed=true){O O' w w' u}{x:t.D}(h:(t.gr P).v O w u x):(t.gr P).v O' w' u x:=by
 obtain⟨cs,h1,h2⟩:=h;exact⟨cs,XV hc h1,h2⟩
def inb(n:Nat)(m:Int):Comp Unit:=if 0<=m/\m<n then Comp.pure () else Comp.fail
theorem GP{n:Nat}{m:Int}{k:Nat}{u:Unit}(h:(inb n m).run k=some u):0<=m/\m<n:=by
 unfold inb at h;split at h
 ·assumption
 ·cases h
theorem jf.split{r:GR α}{O w}:∀ {xs:List α} {cs},jf r O w cs xs->∀(i:Nat) (y:α),xs[i]?=some y->∃c1 c2 c3,cs=c1++(c2++c3)/\c1.length=i * r.sz/\c2.length=r.sz/\r.rel O w c2 y/\∀z d2,r.rel O w d2 z->jf r O w (c1++(d2++c3)) (xs.set i z)
 | [],cs,_,i,y,h=>by simp at h
 |x::xs,cs,⟨c1,c2,h1,h2,h3⟩,0,y,h=>by
  simp at h;subst h;exact⟨[],c1,c2,by simp[h1],by simp,r.len h2,h2,fun z d2 hz=>⟨d2,c2,by simp,hz,h3⟩⟩
 |x::xs,cs,⟨c1,c2,h1,h2,h3⟩,i+1,y,h=>by
  simp at h;obtain⟨d1,d2,d3,e1,e2,e3,e4,e5⟩:=jf.split h3 i y h;refine⟨c1++d1,d2,d3,by rw[h1,e1,zLl],by rw[zLS,r.len h2,e2,Nat.add_mul];omega,e3,e4,fun z f2 hz=>?_⟩
  exact⟨c1,_,by rw[zLl],h2,e5 z f2 hz⟩
section ops
variable {X:Cx} {w:World} {a:Act} {o:Oper} {d:Option Tmp} {T Y Z:TypeId} {pos:String} {aft:Array Edge} {g:Option (Nat×Bool)}
def zFR:AV->Option (Nat×(t:Ty)×List t.D)
 |.rd (.arr n t) xs=>some (n,⟨t,xs⟩)
 |_=>none
theorem HU{φ:AV}{p:Nat×(t:Ty)×List t.D}(h:zFR φ=some p):φ=.rd (.arr p.1 p.2.1) p.2.2:=by
 unfold zFR at h;split at h
 ·cases h;rfl
 ·cases h
def Hm(G:FE)(M:MS)(n:Nat)(t:Ty)(φ:AV):Option (Nat×(t:Ty)×List t.D):=match zFR φ with
 |some q=>some q
 |none=>match (φ.asv G M).1 (.arr n t) with
  |some xs=>some (n,⟨t,(xs:List t.D)⟩)
  |none=>none
theorem SB{G:FE}(hG:FOk X.P G){M:MS}(hM:yD M X w){n:Nat}{t:Ty}{φ:AV}{p:Nat×(t:Ty)×List t.D}(h:Hm G M n t φ=some p){cs:List Value}(hc:(φ.sem X w).c cs):p.2.2.length=p.1/\jf (p.2.1.gr X.P) X.O w cs p.2.2:=by
 unfold Hm at h;split at h
 ·rename_i q hq;cases h
  rw[HU hq]at hc;exact hc
 ·split at h
  ·rename_i xs hx;cases h
   exact(AV.jS hG φ hM).vc hx hc
  ·cases h
theorem zEZ{G:FE}(hG:FOk X.P G){M:MS}(hM:yD M X w){n:Nat}{t:Ty}{φ:AV}{p:Nat×(t:Ty)×List t.D}(h:Hm G M n t φ=some p){u:Value}(hu:φ.holds X w u):∃cs,(p.2.2.length=p.1/\jf (p.2.1.gr X.P) X.O w cs p.2.2)/\u=.agg cs.toArray:=by
 unfold Hm at h;split at h
 ·rename_i q hq;cases h
  rw[HU hq]at hu;obtain⟨cs,h1,h2⟩:=hu;exact⟨cs,h1,h2⟩
 ·split at h
  ·rename_i xs hx;cases h
   obtain⟨cs,h1,h2⟩:=(AV.jS hG φ hM).v hx hu;exact⟨cs,h1,h2⟩
  ·cases h
def zEg(T:TE)(G:FE)(M:MS)(wr:Bool)(Y:TypeId):Option AV->Option (IntKind×Int)->VR
 |some φ,some m=>match look T Y with
  |none=>.no
  |some i=>match slD i.dd with
   |some e=>match look T e with
    |none=>.no
    |some j=>match Hb M φ with
     |some p=>match Nat.beq p.1.sz j.sz && Nat.blt 0 p.1.sz with
      |true=>.par p.1 (idx p.2 m.2) (.pt p.1)
      |false=>.no
     |none=>match uH M φ with
      |some p=>match Nat.beq p.2.2.1.sz j.sz && Nat.beq p.2.1 e with
       |true=>match wr with
        |false=>.par p.2.2.1 (idx p.2.2.2 m.2) (.pq p.2.2.1)
        |true=>.par .nil (inb p.2.2.2.length m.2) fun _=>.el p.1 m.2 j.sz 0
       |false=>.no
      |none=>match qb M φ,wr with
       |some p,false=>match Nat.beq p.2.1.sz j.sz with
        |true=>.par p.2.1 (idx p.2.2 m.2) (.pq p.2.1)
        |false=>.no
       |_,_=>.no
   |none=>match arD i.dd with
    |none=>.no
    |some ne=>match look T ne.2 with
     |none=>.no
     |some j=>match Nat.beq i.sz (ne.1 * j.sz) with
      |false=>.no
      |true=>match φ with
       |.bx k off=>match UU M k with
        |none=>.no
        |some c=>match (c.at_ i.sz true true off).bind (Hm G M ne.1 j.τ) with
         |none=>.no
         |some q=>match Nat.beq q.2.1.sz j.sz && Nat.beq q.1 ne.1 with
          |false=>.no
          |true=>match wr with
           |false=>.par q.2.1 (idx q.2.2 m.2) (.pq q.2.1)
           |true=>.par .nil (inb ne.1 m.2) fun _=>.ba k off i.sz m.2 j.sz 0
       |.rd (.box (.arr n t)) xs=>match Nat.beq t.sz j.sz && Nat.beq n ne.1,wr with
        |true,false=>.par t (idx (xs:List t.D) m.2) (.pq t)
        |_,_=>.no
       |_=>.no
 |_,_=>.no
theorem Uj{TT:TE}(hT:TOk X.P TT){G:FE}(hG:FOk X.P G){M:MS}(hM:yD M X w){rd:Operand->Option AV}{x y:Operand}{wr:Bool}(H:ZK X w a rd (Op.operands (.indexAddr Y x y))):VOk X w a ⟨d,.indexAddr Y x y,T,pos,aft,g⟩ (zEg TT G M wr Y (rd x) ((rd y).bind AV.int?)):=by
 cases h1:rd x with
 |none=>trivial
 |some φ =>
  cases h2:(rd y).bind AV.int? with
  |none=>trivial
  |some m =>
   have k1:=H x φ (by simp[Op.operands]) h1
   have k2:=vM H (by simp[Op.operands]) h2
   simp only[zEg];split
   ·trivial
   ·rename_i i hi
    have ht:=(hT Y i hi).ty;split
    ·rename_i e he
     rw[kj he]at ht;split
     ·trivial
     ·rename_i j hj
      have hj':=(hT e j hj).ty;split
      ·rename_i p hp
       split
       ·rename_i hs
        rw[zLR]at hs;have aW:(p.1.gr X.P).sz=j.sz:=by rw[Ty.yh];exact zLQ hs.1
        have aP:0<p.1.sz:=by have:=hs.2;rw[zX]at this;simpa using this
        intro nf y' hy;exact yU (Np (by rw[Ty.yh];exact aP) (Ty.fits _ _) ht hj' aW rfl (qe hM k1 hp) k2 hy) fun w' v hE hv=>⟨hv,aP⟩
       ·trivial
      ·split
       ·rename_i p hp
        split
        ·rename_i hs
         rw[zLR]at hs;have aW:(p.2.2.1.gr X.P).sz=j.sz:=by rw[Ty.yh];exact zLQ hs.1
         have cY:p.2.1=e:=zLQ hs.2;obtain⟨⟨nw,f1⟩,f2,f3⟩:=Ja hM k1 hp
         cases wr with
         |false =>
          intro nf y' hy;exact Gg (r:=p.2.2.1.gr X.P) ht hj' aW rfl f1.rd k2 hy
         |true =>
          intro nf y' hy;have hm:=GP hy
          rw[cY]at f1;refine yU (Dc aW ht hj' rfl f1 k2 hm) fun w' v hE hv=>?_
          refine⟨f3,hm.1,?_,by rw[<-f2];exact hv⟩
          obtain⟨vs,g1,g2,_⟩:=f1;obtain⟨ad,cap,g3,_⟩:=g1.slv;refine⟨ad,vs.length,cap,by rw[<-f2];exact g3,?_⟩
          rw[g2.len];exact hm.2
        ·trivial
       ·split
        ·rename_i p hp
         split
         ·rename_i hs
          have aW:(p.2.1.gr X.P).sz=j.sz:=by rw[Ty.yh];exact zLQ hs
          intro nf y' hy;exact Gg (r:=p.2.1.gr X.P) ht hj' aW rfl (qD hM k1 hp) k2 hy
         ·trivial
        ·trivial
    ·split
     ·trivial
     ·rename_i ne fC
      rw[E3 fC]at ht;split
      ·trivial
      ·rename_i j hj
       have hj':=(hT ne.2 j hj).ty;split
       ·trivial
       ·rename_i f8
        have f8:=zLQ f8;split
        ·rename_i k off
         split
         ·trivial
         ·rename_i c hc
          split
          ·trivial
          ·rename_i q hq
           split
           ·trivial
           ·rename_i hb
            rw[zLR]at hb;have tC:=zLQ hb.1
            have aT:=zLQ hb.2;obtain⟨T',nw,b,cs,e1,e2,e3⟩:=E1 hM hc;obtain⟨h3,b',e4,e5⟩:=k1;rw[e1]at e4;cases e4
            cases bT:c.at_ i.sz true true off with
            |none=>rw[bT]at hq;cases hq
            |some ψ =>
             rw[bT]at hq;obtain⟨c1,c2,c3,f1,f2,f3,f4,f5,f6⟩:=(AV.IC c bT e3).h;obtain⟨l1,l2⟩:=SB hG hM hq f4
             cases wr with
             |false =>
              intro nf y' hy;obtain⟨m0,m1⟩:=Jb hy;obtain⟨d1,d2,d3,g1,g2,g3,g4,_⟩:=jf.split l2 _ _ m1;have gF:=(zLX.1 m1).1
              have hz:(q.2.1.gr X.P).sz=j.sz:=by rw[Ty.yh,tC]
              refine yU (X4 ht hj' e5 k2 m0 (by rw[l1,aT]at gF;omega)) fun w' v hE hv=>?_
              rw[show v=_ from hv]
              have tW:cs.toList=(c1++d1)++(d2++(d3++c3)):=by rw[f1,g1];simp[zLl]
              refine⟨yC (q.2.1.gr X.P).agg d2,?_,GR.Jz _ ⟨d2,g4,rfl⟩ hE⟩;refine Yy.ext (qM e2.own tW ?_ (fun sW=>?_) ((q.2.1.gr X.P).one g4)) hE
              ·rw[zLS,f2,g2,hz]
              ·rw[g3];exact Ty.fits X.P q.2.1 sW
             |true =>
              intro nf y' hy;have hm:=GP hy
              refine yU (X4 ht hj' e5 k2 hm.1 hm.2) fun w' v hE hv=>⟨h3,hm.1,?_,b,e1,hv⟩
              rw[f8];have:m.2.toNat+1<=ne.1:=by omega
              calc m.2.toNat * j.sz+j.sz=(m.2.toNat+1) * j.sz:=by rw[Nat.add_mul,Nat.one_mul]
               _<=ne.1 * j.sz:=Nat.mul_le_mul_right _ this
        ·rename_i n t xs
         split
         ·rename_i hb
          rw[zLR]at hb;have tC:=zLQ hb.1
          have aT:=zLQ hb.2;obtain⟨cs0,⟨b,cs,T',e1,e2,_,l1,l2⟩,e3⟩:=k1;rw[e1]at e3;have e5:a.eval x=.pointer (some ⟨b,0,none⟩):=e3
          intro nf y' hy;obtain⟨m0,m1⟩:=Jb hy;obtain⟨d1,d2,d3,g1,g2,g3,g4,_⟩:=jf.split l2 _ _ m1;have gF:=(zLX.1 m1).1
          have hz:(t.gr X.P).sz=j.sz:=by rw[Ty.yh,tC]
          refine yU (X4 ht hj' e5 k2 m0 (by rw[l1,aT]at gF;omega)) fun w' v hE hv=>?_
          rw[show v=_ from hv]
          refine⟨yC (t.gr X.P).agg d2,?_,GR.Jz _ ⟨d2,g4,rfl⟩ hE⟩;refine Yy.ext (qM e2 (c1:=d1) (c3:=d3) (by rw[<-g1]) ?_ (fun sW=>?_) ((t.gr X.P).one g4)) hE
          ·rw[Nat.zero_add,g2,hz]
          ·rw[g3];exact Ty.fits X.P t sW
         ·trivial
        ·trivial
def D9(T:TE)(G:FE)(M:MS)(Y:TypeId):Option AV->Option (IntKind×Int)->VR
 |some φ,some m=>match look T Y with
  |none=>.no
  |some i=>match arD i.dd with
   |some ne=>match look T ne.2 with
    |none=>.no
    |some j=>match Hm G M ne.1 j.τ φ with
    |none=>.no
    |some q=>match Nat.beq q.1 ne.1 && Wx q.2.1 j with
     |true=>.par q.2.1 (idx q.2.2 m.2) (.rd q.2.1)
     |false=>.no
   |none=>match φ.Dw,i.dd with
    |some s,.string=>.par (.int .u8) (Qu s m.2) (.rd (.int .u8))
    |_,_=>.no
 |_,_=>.no
theorem IU{TT:TE}(hT:TOk X.P TT){G:FE}(hG:FOk X.P G){M:MS}(hM:yD M X w){rd:Operand->Option AV}{x y:Operand}(H:ZK X w a rd (Op.operands (.index Y x y))):VOk X w a ⟨d,.index Y x y,T,pos,aft,g⟩ (D9 TT G M Y (rd x) ((rd y).bind AV.int?)):=by
 cases h1:rd x with
 |none=>trivial
 |some φ =>
  cases h2:(rd y).bind AV.int? with
  |none=>trivial
  |some m =>
   have k1:=H x φ (by simp[Op.operands]) h1
   have k2:=vM H (by simp[Op.operands]) h2
   simp only[D9];split
   ·trivial
   ·rename_i i hi
    have ht:=(hT Y i hi).ty;split
    ·rename_i ne fC
     rw[E3 fC]at ht;split
     ·trivial
     rename_i j hj;split
     ·trivial
     ·rename_i q hq
      have hj':=(hT ne.2 j hj).ty;split
      ·rename_i hb
       rw[zLR]at hb;have tC:=zLQ hb.1
       obtain⟨sW,f8⟩:=Gi hb.2 X.P;obtain⟨cs,⟨l1,l2⟩,l3⟩:=zEZ hG hM hq k1;intro nf y' hy;obtain⟨m0,m1⟩:=Jb hy;obtain⟨d1,d2,d3,g1,g2,g3,g4,_⟩:=jf.split l2 _ _ m1;have gF:=(zLX.1 m1).1
       have hm:m.2<ne.1:=by rw[l1,tC]at gF;omega
       have e3:a.eval x=.agg cs.toArray:=l3;have hA2:(part ne.2 cs.toArray (m.2.toNat * j.sz)).run X.P w=.ok (yC (q.2.1.gr X.P).agg d2) w:=by
        rw[f8]at g2 g3;simp only[part,Sem.run_bind,hj'.YL,Result.andThen,hj'.zu];rw[sW]
        cases hg:(q.2.1.gr X.P).agg with
        |true =>
         simp only[if_true,yC,Sem.run_bind,hj'.zu,Result.andThen,Sem.run_pure]
         congr 2
         rw[g1];simp only[List.extract_toArray,List.extract_eq_take_drop]
         congr 1
         rw[<-g2,List.drop_left,Nat.add_sub_cancel_left,List.take_append_of_le_length (by omega),List.take_of_length_le (by omega)]
        |false =>
         have h1:=Ty.fits X.P q.2.1 hg;rw[f8]at h1;have hl:d2.length=1:=by omega
         match d2,hl with
         | [v0],_ =>
          have:cs.toArray[m.2.toNat * j.sz]?=some v0:=by
           rw[List.getElem?_toArray,g1,<-g2];simp
          simp[this,yC]
       refine y8 (v:=yC (q.2.1.gr X.P).agg d2) (w':=w) ?_ (Ext.refl w) ⟨d2,g4,rfl⟩;simp[execOp,Instr.index,asIntOf,k2,e3,ht.gR,hj'.zu,m0,hm,hA2]
      ·trivial
    ·split
     ·rename_i s hs hd
      rw[hd]at ht;intro nf y' hy;exact XQ (Db ht (X6 k1 hs) k2 hy)
     ·trivial
def zEq:(r:Ty)->r.D->AV
 |.cons a b,y=>.pr (.rd a y.1) (zEq b y.2)
 |_,_=>.un
def Cg:(r:Ty)->r.D->AV
 |.nil,_=>.top
 |.cons a .nil,y=>.rd a y.1
 |r,y=>.tp (zEq r y)
theorem zBc{r:Ty}{vs:List Value}{y:r.D}(h:r.args X.P X.O w vs y):((zEq r y).sem X w).l vs:=by
 induction r generalizing vs with
 |cons a b iha ihb =>
  obtain⟨v,vs',h1,h2,h3⟩:=h;exact⟨v,vs',h1,h2,ihb h3⟩
 |nil=>exact h
 |_=>exact h.elim
theorem uY{r:Ty}{vs:List Value}{v:Value}{y:r.D}(h:r.args X.P X.O w vs y)(ht:kP vs v):(Cg r y).holds X w v:=by
 cases r with
 |nil=>trivial
 |cons a b =>
  obtain⟨v1,bI,h1,h2,h3⟩:=h;subst h1;have ht:v=tup (v1::bI):=by
   rcases ht with e|e
   ·cases e
   ·exact e
  cases b with
  |nil =>
   rw[show bI=[] from h3]at ht
   rw[ht];exact h2
  |cons c e =>
   obtain⟨v2,vs2,h4,h5,h6⟩:=h3;subst h4;refine⟨v1::v2::vs2,⟨v1,_,rfl,h2,v2,vs2,rfl,h5,zBc h6⟩,ht⟩
  |_=>exact h3.elim
 |_=>exact h.elim
def Xf:List ((t:Ty)->Option t.D)->(ps:Ty)->Option ps.D
 | [],.nil=>some ()
 |f::fs,.cons p q=>match f p,Xf fs q with
  |some x,some y=>some (x,y)
  |_,_=>none
 |_,_=>none
theorem kO{P:Program}{O:zR}:∀ {fs:List ((t:Ty)->Option t.D)} {ps:Ty} {x:ps.D},Xf fs ps=some x->∀ {vs:List Value},vs.length=fs.length ->
  (∀(i:Nat) (f:(t:Ty)->Option t.D) (v:Value),fs[i]?=some f->vs[i]?=some v->∀t x,f t=some x->(t.gr P).v O w v x)->ps.args P O w vs x
 | [],.nil,x,h,vs,hl,_=>List.length_eq_zero_iff.1 hl
 |f::fs,.cons p q,x,h,vs,hl,hv=>by
  simp only[Xf]at h;split at h
  ·rename_i x1 y1 h1 h2
   cases h
   match vs,hl with
   |v::vs,hl =>
    exact⟨v,vs,rfl,hv 0 f v rfl rfl _ _ h1,kO h2 (by simpa using hl) fun i f' v' hf hv'=>hv (i+1) f' v' (by simpa using hf) (by simpa using hv')⟩
  ·cases h
 | [],.int _,_,h,_,_,_ | [],.bool,_,h,_,_,_ | [],.str,_,h,_,_,_ | [],.sl _,_,h,_,_,_ | [],.cons ..,_,h,_,_,_ | [],.arr ..,_,h,_,_,_ | [],.box ..,_,h,_,_,_ | [],.fn ..,_,h,_,_,_ | [],.seq ..,_,h,_,_,_ | [],.slo ..,_,h,_,_,_ | [],.mp ..,_,h,_,_,_=>by cases h
 |_::_,.int _,_,h,_,_,_|_::_,.bool,_,h,_,_,_|_::_,.str,_,h,_,_,_|_::_,.sl _,_,h,_,_,_|_::_,.nil,_,h,_,_,_|_::_,.arr ..,_,h,_,_,_|_::_,.box ..,_,h,_,_,_|_::_,.fn ..,_,h,_,_,_|_::_,.seq ..,_,h,_,_,_|_::_,.slo ..,_,h,_,_,_|_::_,.mp ..,_,h,_,_,_=>by cases h
def jB(rd:Operand->Option AV):List Operand->Option (List AV)
 | []=>some []
 |x::xs=>match rd x,jB rd xs with
  |some φ,some l=>some (φ::l)
  |_,_=>none
theorem jT{rd:Operand->Option AV}:∀ {xs:List Operand} {l:List AV},jB rd xs=some l->l.length=xs.length
 | [],l,h=>by cases h;rfl
 |x::xs,l,h=>by
  simp only[jB]at h;split at h
  ·rename_i φ l' h1 h2;cases h;simp[jT h2]
  ·cases h
theorem ZW{rd:Operand->Option AV}:∀ {xs:List Operand} {l:List AV},jB rd xs=some l->∀(i:Nat) (φ:AV),l[i]?=some φ->∃x,xs[i]?=some x/\rd x=some φ
 | [],l,h,i,φ,hi=>by cases h;simp at hi
 |x::xs,l,h,i,φ,hi=>by
  simp only[jB]at h;split at h
  ·rename_i ψ l' h1 h2
   cases h
   cases i with
   |zero=>simp at hi;subst hi;exact⟨x,rfl,h1⟩
   |succ i=>simp at hi;simpa using ZW h2 i φ hi
  ·cases h
def rA(G:FE)(M:MS)(rs:Ty):MS:=match rs.closed with
 |true=>Sv G M
 |false=>M
def SM(G:FE)(M:MS)(rd:Operand->Option AV)(x:Operand)(xs:List Operand):VR:=match rd x,jB rd xs with
 |some φ,some l=>match φ with
  |.cl f a b=>match G f with
   |none=>.no
   |some s=>match Xf ((a.asv G (rA G M s.rs)).2.2++(l.map (fun φ=>φ.asT G (rA G M s.rs))++(b.asv G (rA G M s.rs)).2.2)) s.ps with
    |some z=>.par s.rs (s.sem z) (Cg s.rs)
    |none=>.no
  |.rd (.fn ta tr) F=>match Xf (l.map (fun φ=>φ.asT G (rA G M tr))) ta with
   |some z=>.par tr (F z) (Cg tr)
   |none=>.no
  |_=>.no
 |_,_=>.no
theorem KN{x:Operand}{xs:Array Operand}{ts:Array TypeId}{args:Array Value}{u:Value}{φ:World->Value->Prop}(hu:a.eval x=u)(ha:xs.map a.eval=args)(h:IK X.P u args w φ) :
  Ok X.P ⟨d,.call ⟨.value x,xs,ts⟩,T,pos,aft,g⟩ a w φ:=by
 intro K Q hK;obtain⟨f,ys,h1,h2⟩:=h;have hr:(execOp a.eval ⟨d,.call ⟨.value x,xs,ts⟩,T,pos,aft,g⟩).run X.P w=.ok (.enter f ys) w:=by
  simp only[execOp,resolve,ha,hu];exact h1
 unfold Oper.wp;rw[hr];refine Calls.mono h2 fun e w' he=>?_
 obtain⟨v,rfl,hE,hv⟩:=he;exact hK v w' hE hv
theorem Kc{G:FE}(hG:FOk X.P G){M:MS}(hM:yD M X w){rd:Operand->Option AV}{xs:List Operand}{l:List AV}(hl:jB rd xs=some l)(H:∀x φ,x∈xs->rd x=some φ->φ.holds X w (a.eval x)) :
  ∀(i:Nat) (f:(t:Ty)->Option t.D) (v:Value),(l.map (fun φ=>φ.asT G M))[i]?=some f->(xs.map a.eval)[i]?=some v->∀t x,f t=some x->(t.gr X.P).v X.O w v x:=by
 intro i f v hf hv t x hx;rw[List.getElem?_map,Option.map_eq_some_iff]at hf hv;obtain⟨φ,h1,h2⟩:=hf;obtain⟨y,h3,h4⟩:=hv;obtain⟨y',h5,h6⟩:=ZW hl i φ h1;rw[h3]at h5;cases h5;subst h2 h4;exact AV.Z1 hG hM hx (H y φ (zLW h3) h6)
theorem Y6{α' β':Type}{R:α'->β'->Prop}{l1 l2:List α'}{m1 m2:List β'}(hl:m1.length=l1.length)(h1:∀(i:Nat) f v,l1[i]?=some f->m1[i]?=some v->R f v)(h2:∀(i:Nat) f v,l2[i]?=some f->m2[i]?=some v->R f v) :
  ∀(i:Nat) f v,(l1++l2)[i]?=some f->(m1++m2)[i]?=some v->R f v:=by
 intro i f v hf hv;by_cases h:i<l1.length
 ·rw[zLf h]at hf
  rw[zLf (by omega)]at hv
  exact h1 i f v hf hv
 ·rw[zLg (by omega)]at hf
  rw[zLg (by omega),hl]at hv
  exact h2 _ f v hf hv
theorem wk{P:Program}:∀ {t:Ty},t.closed=true->∀ {O O' w w' vs} {x:t.D},t.args P O w vs x->t.args P O' w' vs x
 |.cons a b,hc,O,O',w,w',vs,x,⟨v,vs',h,h1,h2⟩=>by
  simp only[Ty.closed,zLR]at hc;exact⟨v,vs',h,XO hc.1 h1,wk hc.2 h2⟩
 |.nil,_,_,_,_,_,_,_,h=>h
 |.int _,_,_,_,_,_,_,_,h|.bool,_,_,_,_,_,_,_,h|.str,_,_,_,_,_,_,_,h|.sl _,_,_,_,_,_,_,_,h|.arr ..,_,_,_,_,_,_,_,h|.box ..,_,_,_,_,_,_,_,h|.fn ..,_,_,_,_,_,_,_,h|.seq ..,_,_,_,_,_,_,_,h|.slo ..,_,_,_,_,_,_,_,h|.mp ..,_,_,_,_,_,_,_,h=>h.elim
theorem Bj{G:FE}(hG:FOk X.P G){M:MS}(hM:yD M X w)(hO:OkO X.O w)(rs:Ty):∃Xl:Cx,Xl.P=X.P/\yD (rA G M rs) Xl w/\OkO Xl.O w/\X.le w Xl w/\∀ {w' vs} {y:rs.D},rs.args X.P Xl.O w' vs y->rs.args X.P X.O w' vs y:=by
 unfold rA
 cases hc:rs.closed with
 |true=>exact⟨X.lent,rfl,Bh hG hM,fun _ _=>rfl,X.le_lent w,fun h=>wk hc h⟩
 |false=>exact⟨X,rfl,hM,hO,X.le_refl w,fun h=>h⟩
theorem AV.self{X X':Cx}{w:World}(hX:X.le w X' w)(φ:AV):(∀u,(φ.sem X w).v u->(φ.sem X' w).v u)/\(∀vs,(φ.sem X w).l vs->(φ.sem X' w).l vs)/\(∀cs,(φ.sem X w).c cs->(φ.sem X' w).c cs):=φ.mono hX fun _=>Ext.refl _
theorem My{G:FE}(hG:FOk X.P G){M:MS}(hM:yD M X w)(hO:OkO X.O w){rd:Operand->Option AV}{x:Operand}{xs:Array Operand}{ts:Array TypeId}(H:ZK X w a rd (Op.operands (.call ⟨.value x,xs,ts⟩))):VOk X w a ⟨d,.call ⟨.value x,xs,ts⟩,T,pos,aft,g⟩ (SM G M rd x xs.toList):=by
 unfold SM;split
 ·rename_i φ l h1 h2
  have k1:=H x φ (by simp[Op.operands,Call.operands]) h1
  have kA:=jT h2;have xB:(xs.map a.eval)=(xs.toList.map a.eval).toArray:=by rw[<-Array.toList_map]
  have fD:=fun (rs:Ty) (Xl:Cx) (e1:Xl.P=X.P) (e2:yD (rA G M rs) Xl w) (e3:X.le w Xl w)=>Kc (X:=Xl) (a:=a) (by rw[e1];exact hG) e2 h2 fun y ψ hy hψ=>((AV.self e3 ψ).1 _ (H y ψ (by have hy':y∈xs:=Array.mem_toList_iff.1 hy;simp[Op.operands,Call.operands,hy']) hψ))
  split
  ·rename_i f ca cb
   split
   ·trivial
   ·rename_i s hs
    split
    ·rename_i z hz
     intro nf y hy;obtain⟨Xl,l1,l2,l3,l4,l5⟩:=Bj hG hM hO s.rs;obtain⟨vs,us,e1,e2,e3⟩:=k1;have hGl:FOk Xl.P G:=by rw[l1];exact hG
     have A:=AV.jS hGl ca l2;have B:=AV.jS hGl cb l2
     have e1':=(AV.self l4 ca).2.1 _ e1;have e2':=(AV.self l4 cb).2.1 _ e2
     obtain⟨f1,f2⟩:=hG f s hs;refine KN e3 xB (XW f1 ?_);rw[Zc];have n1:=A.n e1'
     have n2:=B.n e2';have fU:s.ps.args Xl.P Xl.O w (vs++(xs.toList.map a.eval++us)) z:=kO hz (by simp[n1,n2,kA]) (Y6 (R:=fun f v=>∀t x,f t=some x->(t.gr Xl.P).v Xl.O w v x) n1 (A.e e1') (Y6 (by simp[kA]) (fD s.rs Xl l1 l2 l4) (B.e e2')))
     rw[l1]at fU;refine Pure.mono (f2 Xl.O w l3 _ _ fU nf y hy) fun w'' v hE hv=>?_
     obtain⟨rs,h3,h4⟩:=hv;exact uY (l5 (XF (fun b hb=>l3 b hb) h4)) h3
    ·trivial
  ·rename_i ta tr F
   split
   ·rename_i z hz
    intro nf y hy;obtain⟨Xl,l1,l2,l3,l4,l5⟩:=Bj hG hM hO tr;obtain⟨cs,⟨u,e1,e2,e3⟩,e4⟩:=k1;have hu:a.eval x=u:=by rw[e4,e1];rfl
    have fU:ta.args Xl.P Xl.O w (xs.toList.map a.eval) z:=kO hz (by simp[kA]) (fD tr Xl l1 l2 l4)
    rw[l1]at fU;refine KN hu xB ?_;obtain⟨ff,ys,g1,g2⟩:=e3 Xl.O w l3 l4.k _ _ fU nf y hy;refine⟨ff,ys,g1,Pure.mono g2 fun w'' v hE hv=>?_⟩
    obtain⟨rs,h3,h4⟩:=hv;exact uY (l5 h4) h3
   ·trivial
  ·trivial
 ·trivial
end ops
end Go.Den
end
section
namespace Go.Lift
open Go Go.RowKit Go.Eng
variable {α β γ δ ε:Type}
def zFU(k:Nat)(B:Nat->Prop)(O:zR)(w:World)(b:Nat)(T:TypeId)(r:GR α)(x:α):Prop:=∃cs,OwnB k B O w b cs.toArray T/\r.rel O w cs x
theorem zFU.ext{k:Nat}{B:Nat->Prop}{O:zR}{w w':World}{b:Nat}{T:TypeId}{r:GR α}{x:α}(h:zFU k B O w b T r x)(hE:Ext w w'):zFU k B O w' b T r x:=by
 obtain⟨cs,h1,h2⟩:=h;exact⟨cs,h1.ext hE,r.mono (zb.ext hE) h2⟩
section
variable {P:Program} {a:Act} {w:World} {T:TypeId} {pos:String} {aft:Array Edge} {g0:Option (Nat×Bool)} {K:Act->World->Prop} {Q:Exit->Act->World->Prop} {A:Nat->Prop} {ops:Array Oper} {rest:List Oper}
end
theorem Base.rel{A:Nat->Prop}{O Oc:zR}{w0 w:World}(h:Base A O w0 Oc w)(r:GR α){cs:List Value}{x:α}(hr:r.rel Oc w cs x):r.rel O w cs x:=r.mono ⟨zLT _,fun b hb ho=>⟨h.zero b hb ho,rfl⟩⟩ hr
inductive ResAt(P:Program)(a:Act)(w:World):ResultVar->Value->Prop
 |tmp {t:Nat} {v:Value} (h:a.get t=v):ResAt P a w (.tmp t) v
 |agg {t X b X':Nat} {cs:Array Value} {dd z sz by_} (h:a.get t=.pointer (some ⟨b,0,none⟩)) (hT:Ty P X dd z sz by_) (hd:vO dd=true) (hs:cs.size=sz) (hO:Own w b cs X'):ResAt P a w (.cell t X) (.agg cs)
 |one {t X b X':Nat} {v:Value} {dd z sz by_} (h:a.get t=.pointer (some ⟨b,0,none⟩)) (hT:Ty P X dd z sz by_) (hd:vO dd=false) (hO:Own w b #[v] X'):ResAt P a w (.cell t X) v
def lZ(a:Act):ResultVar->Sem Value
 |.tmp t=>pure (a.tmps.getD t undef)
 |.cell c t=>do loadVar t (<-asAddr (a.tmps.getD c undef))
theorem ResAt.run{P:Program}{a:Act}{w:World}{r:ResultVar}{v:Value}(h:ResAt P a w r v):(lZ a r).run P w=.ok v w:=by
 cases h with
 |tmp h =>
  have e1:a.tmps.getD _ undef=v:=h;simp only[zLn]at e1;simp[lZ,e1]
 | @agg t X b X' cs dd z sz by_ h hT hd hs hO =>
  subst hs;have e1:a.tmps.getD t undef=.pointer (some ⟨b,0,none⟩):=h
  simp only[zLn]at e1;simp[lZ,e1,asAddr,loadVar,hT.YL,hd,hT.zu,_root_.Go.Eng.run_loadCells (P:=P) (w:=w) (b:=b) (off:=0) (cs:=cs) (fun j _=>by rw[hO.cell];simp)]
 | @one t X b X' v dd z sz by_ h hT hd hO =>
  have e1:a.tmps.getD t undef=.pointer (some ⟨b,0,none⟩):=h;simp only[zLn]at e1;have hc:w.cell? ⟨b,0,none⟩=some v:=by rw[hO.cell];rfl
  simp[lZ,e1,asAddr,loadVar,hT.YL,hd,hc]
section
variable {P:Program} {a:Act} {w:World} {T:TypeId} {pos:String} {aft:Array Edge} {g:Option (Nat×Bool)} {d:Option Tmp}
end
theorem pk{P:Program}{a:Act}{w:World}{d:Option Tmp}{T:TypeId}{pos:String}{aft:Array Edge}{g:Option (Nat×Bool)}{X e n k:Nat}{z sz by_ dd z' by_'}(hT:Ty P X (.array n e) z sz by_)(he:Ty P e dd z' k by_'){parts:Array (Nat×Operand)}{uJ:List (Nat×Value)}(hv:parts.toList.map (fun p=>(p.1,a.eval p.2))=uJ){zc out:List Value}(hz:z.cells=zc.toArray)(hf:Fill (fun i=>some (i * k,k)) zc uJ out){v:Value}(hev:.agg out.toArray=v) :
  Ok P ⟨d,.build X parts,T,pos,aft,g⟩ a w (SP.isv v).holds:=by
 subst hev;refine zl ?_;have e1:(parts.map fun (i,x)=>(i,a.eval x)).toList=uJ:=by rw[<-hv];simp
 simp only[execOp,Instr.build,Sem.run_bind,hT.kM,hT.gR,Result.andThen,he.zu,e1,hf.run z.cells (by rw[hz])]
 simp
end Go.Lift
end
section
namespace Go.Den
open Go Go.RowKit Go.Eng Go.Lift
variable {α β γ δ:Type}
def AV.IA:AV->Bool
 |.rd .. | .pt .. | .ob _|.bx .. | .ba .. | .el .. | .cl .. | .ag _|.ex _=>true
 |_=>false
theorem AV.v_c{X:Cx}{w:World}{φ:AV}(hc:φ.IA=true){u:Value}(h:φ.holds X w u):(φ.sem X w).c u.cells.toList:=by
 have one_case:∀ {q:Value->Prop},q u->u.oneCell'=true->(one q).c u.cells.toList:=fun hq h1=>⟨u,wC h1,h1,hq⟩
 cases φ with
 |rd t x=>exact uR h
 |pt t x =>
  refine one_case h ?_;obtain⟨⟨b,off,v,h1,_⟩,_⟩:=h;rw[h1];rfl
 |ob k=>exact one_case h h.2.2
 |bx k off=>exact one_case h (by obtain⟨_,b,_,h2⟩:=h;rw[h2];rfl)
 |ba k off sz i esz off2=>exact one_case h (by obtain⟨_,_,_,b,_,h2⟩:=h;rw[h2];rfl)
 |el k i esz off2=>exact one_case h (by obtain⟨_,_,_,b,_,h2⟩:=h;rw[h2];rfl)
 |cl f a b=>exact one_case h (by obtain⟨_,_,_,_,h2⟩:=h;rw[h2];rfl)
 |ag l =>
  obtain⟨cs,h1,h2⟩:=h;rw[h2];show (l.sem X w).c cs.toArray.toList;exact h1
 |ex v=>rw[show u=v from h];rfl
 |_=>cases hc
section ops
variable {X:Cx} {w:World} {a:Act} {o:Oper} {d:Option Tmp} {T Y Z:TypeId} {pos:String} {aft:Array Edge} {g:Option (Nat×Bool)}
def p7(T:TE)(z:Value):Nat->List (Nat×Nat×Nat)->Option AV
 |at_,[]=>match Nat.beq at_ z.cells.size with
  |true=>some .un
  |false=>none
 |at_,(ft,off,s)::l=>match look T ft with
  |none=>none
  |some i=>match Nat.beq off at_ with
   |false=>none
   |true=>match atV (s+1) (vO i.dd) z off,p7 T z (at_+(s+1)) l with
    |some φ,some r=>some (.pr φ r)
    |_,_=>none
theorem tw{TT:TE}{z:Value}:∀ {l:List (Nat×Nat×Nat)} {n:Nat} {φ:AV},p7 TT z n l=some φ->(φ.sem X w).c (z.cells.toList.drop n)
 | [],n,φ,h=>by
  simp only[p7]at h;split at h
  ·rename_i hb
   cases h
   have:=zLQ hb;show _=[]
   rw[List.drop_eq_nil_iff,this];simp
  ·cases h
 |(ft,off,s)::l,n,φ,h=>by
  simp only[p7]at h;split at h
  ·cases h
  ·split at h
   ·cases h
   ·rename_i hb
    have hb:=zLQ hb;subst hb;split at h
    ·rename_i ψ r h1 h2
     cases h
     obtain⟨c1,c2,c3,e1,e2,e3,e4,_⟩:=(R6 (X:=X) (w:=w) h1).h;refine⟨c2,z.cells.toList.drop (off+(s+1)),?_,e4,tw h2⟩;rw[e1,<-e2,List.drop_left,<-e3,<-zLl,<-zLS,List.drop_left]
    ·cases h
def Mg(rd:Operand->Option AV)(pl:Nat->Option (Nat×Nat×Bool)):List (Nat×Operand)->AV->Option AV
 | [],φ=>some φ
 |(f,x)::l,φ=>match rd x,pl f with
  |some ψ,some (off,n,ag)=>match ψ.IA && Nat.beq ψ.sz n with
   |true=>match AV.rM ψ n ag φ true off with
    |some φ'=>Mg rd pl l φ'
    |none=>none
   |false=>none
  |_,_=>none
theorem mL{rd:Operand->Option AV}{pl:Nat->Option (Nat×Nat×Bool)}:∀ {l:List (Nat×Operand)} {φ φ':AV},Mg rd pl l φ=some φ'->(∀p φ,p∈l->rd p.2=some φ->φ.holds X w (a.eval p.2))->∀ {cs:List Value},(φ.sem X w).c cs ->
  ∃out,Fill (fun i=>(pl i).map fun e=>(e.1,e.2.1)) cs (l.map (fun p=>(p.1,a.eval p.2))) out/\(φ'.sem X w).c out
 | [],φ,φ',h,H,cs,hc=>by
  simp only[Mg]at h;cases h;exact⟨cs,.nil,hc⟩
 |(f,x)::l,φ,φ',h,H,cs,hc=>by
  simp only[Mg]at h;split at h
  ·rename_i ψ off n ag h1 h2
   split at h
   ·rename_i hb
    rw[zLR]at hb;split at h
    ·rename_i φ1 h3
     have hv:=AV.v_c hb.1 (H (f,x) ψ (by simp) h1)
     have hn:=AV.len ψ hv;rw[zLQ hb.2]at hn;obtain⟨g1,g2⟩:=AV.EY φ h3 hc;have g3:=g2 _ hn hv
     obtain⟨out,g4,g5⟩:=mL h (fun p φ hp=>H p φ (by simp[hp])) g3
     refine⟨out,.cons (vs:=(a.eval x).cells.toList) (off:=off) (n:=n) (by simp[h2]) (by simp) hn g1 ?_,g5⟩
     unfold ZI;rw[hn];exact g4
    ·cases h
   ·cases h
  ·cases h
def agD(T:TE)(X:TypeId):Bool:=match look T X with
 |some i=>vO i.dd
 |none=>false
def flA(e k:Nat):Nat->Nat->List (Nat×Nat×Nat)
 |0,_=>[]
 |n+1,off=>(e,off,k)::flA e k n (off+(k+1))
def AV.whole:AV->Bool
 |.ag _=>true
 |.rd t _=>t.agg
 |.ex v=>zEA v
 |_=>false
theorem GA{φ:AV}(hw:φ.whole=true){cs:List Value}(h:(φ.sem X w).c cs):φ.holds X w (.agg cs.toArray):=by
 cases φ<;>first|(cases hw;done)|skip
 ·exact⟨cs,h,by rw[Ty.jF];simp only[AV.whole]at hw;rw[hw];rfl⟩
 ·exact⟨cs,h,rfl⟩
 ·rename_i v
  cases v<;>first|(cases hw;done)|skip
  show Value.agg _=Value.agg _
  rw[show cs=_ from h];simp[Value.cells]
def ifW(φ:AV):VR:=match φ.whole with
 |true=>.tot φ
 |false=>.no
def zHX(i:TI)(ps:List (Nat×Operand)):Bool:=match i.dd with
 |.struct fs=>match fs.toList,ps,i.z.cells.toList with
  | [],[],[]=>true
  |_,_,_=>false
 |_=>false
def EB(T:TE)(rd:Operand->Option AV)(Y:TypeId)(ps:List (Nat×Operand)):VR:=match look T Y with
 |none=>.no
 |some i=>match i.fl with
  |e::l=>match p7 T i.z 0 (e::l) with
   |some φ=>match Mg rd (fun f=>((e::l)[f]?).map fun e=>(e.2.1,e.2.2+1,agD T e.1)) ps (.ag φ) with
    |some ψ=>ifW ψ
    |none=>.no
   |none=>.no
  | []=>match arD i.dd with
   |none=>match zHX i ps with
    |true=>.tot (.rd .nil ())
    |false=>.no
   |some ne=>match look T ne.2 with
    |none=>.no
    |some j=>match j.sz with
     |0=>.no
     |k+1=>match p7 T i.z 0 (flA ne.2 k ne.1 0) with
      |some φ=>match Mg rd (fun f=>some (f * (k+1),k+1,vO j.dd)) ps (.ag φ) with
       |some ψ=>ifW ψ
       |none=>.no
      |none=>.no
theorem tL{ps:Array (Nat×Operand)}{p:Nat×Operand}(hp:p∈ps.toList):p.2∈(ps.toList.map (·.2)).toArray:=by
 simp only[List.mem_toArray,List.mem_map];exact⟨p,hp,rfl⟩
theorem IW{TT:TE}(hT:TOk X.P TT){rd:Operand->Option AV}{ps:Array (Nat×Operand)}(H:ZK X w a rd (Op.operands (.build Y ps))):VOk X w a ⟨d,.build Y ps,T,pos,aft,g⟩ (EB TT rd Y ps.toList):=by
 have H':∀p φ,p∈ps.toList->rd p.2=some φ->φ.holds X w (a.eval p.2):=fun p φ hp h=>H p.2 φ (tL hp) h
 unfold EB;split
 ·trivial
 ·rename_i i hi
  have fA:=hT Y i hi;split
  ·rename_i e l he
   split
   ·rename_i φ hφ
    split
    ·rename_i ψ hψ
     unfold ifW
     ·split
      ·rename_i hw
       have hz:=tw (X:=X) (w:=w) hφ;rw[List.drop_zero]at hz;obtain⟨out,h1,h2⟩:=mL hψ H' (φ:=.ag φ) hz;have hP:Plc X.P Y (i.fl.map (fun e=>(e.2.1,e.2.2+1))).toArray:=by
        rcases fA.pl with h|h
        ·rw[he]at h;cases h
        ·exact h
       refine yU (Iw hP fA.ty rfl (zc:=i.z.cells.toList) (by simp) (out:=out) ?_ rfl) fun w' v hE hv=>?_
       ·rw[he]
        have:(fun (j:Nat)=>((List.map (fun (e:Nat×Nat×Nat)=>(e.2.1,e.2.2+1)) (e::l)).toArray)[j]?)=(fun (j:Nat)=>Option.map (fun (e:Nat×Nat×Bool)=>(e.1,e.2.1)) (Option.map (fun (e:Nat×Nat×Nat)=>(e.2.1,e.2.2+1,agD TT e.1)) (e::l)[j]?)):=by
         funext j
         rw[List.getElem?_toArray,List.getElem?_map,Option.map_map];rfl
        rw[this];exact h1
       ·rw[show v=_ from hv]
        exact ψ.ext hE (GA hw h2)
      ·trivial
    ·trivial
   ·trivial
  ·split
   ·split
    ·rename_i hn
     unfold zHX at hn;split at hn
     ·rename_i fs dZ
      split at hn
      ·rename_i h1 h2 h3
       have hfs0:fs=#[]:=Array.ext' (by simpa using h1)
       have bS:ps=#[]:=Array.ext' (by simpa using h2)
       have aA:i.z.cells=#[]:=Array.ext' (by simpa using h3)
       have ht:=fA.ty;rw[dZ,hfs0]at ht;subst bS;intro K Q hK;have fI:(execOp a.eval ⟨d,.build Y #[],T,pos,aft,g⟩).run X.P w=.ok (.value (.agg #[])) w:=by
        simp[execOp,Instr.build,ht.gR,ht.kM,aA,Instr.fill]
       unfold Oper.wp;rw[fI];exact hK _ _ (Ext.refl w) ⟨[],rfl,rfl⟩
      ·cases hn
     ·cases hn
    ·trivial
   ·rename_i ne fC
    split
    ·trivial
    ·rename_i j hj
     split
     ·trivial
     ·rename_i k hk
      split
      ·rename_i φ hφ
       split
       ·rename_i ψ hψ
        unfold ifW
        ·split
         ·rename_i hw
          have ht:=fA.ty;rw[E3 fC]at ht;have ht':=(hT ne.2 j hj).ty
          rw[hk]at ht';have hz:=tw (X:=X) (w:=w) hφ
          rw[List.drop_zero]at hz;obtain⟨out,h1,h2⟩:=mL hψ H' (φ:=.ag φ) hz;refine yU (pk ht ht' rfl (zc:=i.z.cells.toList) (by simp) (out:=out) h1 rfl) fun w' v hE hv=>?_
          rw[show v=_ from hv]
          exact ψ.ext hE (GA hw h2)
         ·trivial
       ·trivial
      ·trivial
def elts(G:FE)(M:MS)(t:Ty)(rd:Operand->Option AV):Nat->List (Nat×Operand)->Option (List t.D)
 |_,[]=>some []
 |k,(i,x)::l=>match Nat.beq i k,rd x with
  |true,some φ=>match φ.asT G M t,elts G M t rd (k+1) l with
   |some y,some ys=>some (y::ys)
   |_,_=>none
  |_,_=>none
theorem HD{G:FE}(hG:FOk X.P G){M:MS}(hM:yD M X w){t:Ty}{rd:Operand->Option AV}:∀ {ps:List (Nat×Operand)} {k:Nat} {ys:List t.D},elts G M t rd k ps=some ys->(∀p φ,p∈ps->rd p.2=some φ->φ.holds X w (a.eval p.2)) ->
  ∃vs,Parts a k ps vs/\yk (t.gr X.P) X.O w vs ys
 | [],k,ys,h,H=>by cases h;exact⟨[],.nil,trivial⟩
 |(i,x)::l,k,ys,h,H=>by
  simp only[elts]at h;split at h
  ·rename_i φ hb h1
   split at h
   ·rename_i y ys' h2 h3
    cases h
    have:=zLQ hb;subst this;obtain⟨vs,e1,e2⟩:=HD hG hM h3 fun p φ hp=>H p φ (by simp[hp])
    exact⟨_::vs,.cons rfl e1,AV.Z1 hG hM h2 (H (i,x) φ (by simp) h1),e2⟩
   ·cases h
  ·cases h
def Ha(T:TE)(G:FE)(M:MS)(rd:Operand->Option AV)(Y:TypeId)(n:Nat)(ps:List (Nat×Operand)):Option (TypeId×(t:Ty)×List t.D):=match look T Y with
 |none=>none
 |some i=>match slD i.dd with
  |none=>none
  |some e=>match look T e with
   |none=>none
   |some j=>match elts G M j.τ rd 0 ps with
    |none=>none
    |some ys=>match Nat.blt 0 j.sz && (Nat.beq j.τ.sz j.sz && (Nat.beq ys.length n && Nat.ble (n * j.sz) 16777216)) with
     |true=>some (e,⟨j.τ,ys⟩)
     |false=>none
theorem tA{P:Program}{a:Act}{w:World}{d:Option Tmp}{T X e E:Nat}{pos:String}{aft:Array Edge}{g:Option (Nat×Bool)}{z sz by_ dd z' by_'}(hT:Eng.Ty P X (.slice e) z sz by_)(he:Eng.Ty P e dd z' E by_') :
  Ok P ⟨d,.buildSlice X 0 #[],T,pos,aft,g⟩ a w (fun w v=>∃p,v=.slice p 0 0/\(p=none\/∃b off,p=some ⟨b,off,none⟩)):=by
 intro K Q hK;refine y8 (v:=.slice (some ⟨w.heap.size,0,none⟩) 0 0) (w':=w.alloc (.cells #[] e)) ?_ (Ext.alloc _ _) ⟨_,rfl,.inr ⟨_,_,rfl⟩⟩ K Q hK;simp[execOp,Instr.buildSlice,hT.gR,he.zu,newRow,Instr.fill]
 congr 2
 exact Array.ext' (by simp)
theorem Uh{TT:TE}(hT:TOk X.P TT){G:FE}{M:MS}{rd:Operand->Option AV}{q:TypeId×(t:Ty)×List t.D}(h:Ha TT G M rd Y 0 []=some q) :
  Ok X.P ⟨d,.buildSlice Y 0 #[],T,pos,aft,g⟩ a w (fun w v=>∃p,v=.slice p 0 0/\(p=none\/∃b off,p=some ⟨b,off,none⟩)):=by
 unfold Ha at h;split at h
 ·cases h
 ·rename_i i hi
  have ht:=(hT Y i hi).ty;split at h
  ·cases h
  ·rename_i e he
   rw[kj he]at ht;split at h
   ·cases h
   ·rename_i j hj
    exact tA ht (hT e j hj).ty
theorem GB{TT:TE}(hT:TOk X.P TT){G:FE}(hG:FOk X.P G){M:MS}(hM:yD M X w)(hO:OkO X.O w){rd:Operand->Option AV}{n:Nat}{ps:Array (Nat×Operand)}(H:ZK X w a rd (Op.operands (.buildSlice Y n ps))){q:TypeId×(t:Ty)×List t.D}(h:Ha TT G M rd Y n ps.toList=some q) :
  Ok X.P ⟨d,.buildSlice Y n ps,T,pos,aft,g⟩ a w (SP.Wv (q.2.1.gr X.P) q.1 w.heap.size X.O q.2.2).holds:=by
 have H':∀p φ,p∈ps.toList->rd p.2=some φ->φ.holds X w (a.eval p.2):=fun p φ hp h=>H p.2 φ (tL hp) h
 unfold Ha at h;split at h
 ·cases h
 ·rename_i i hi
  have ht:=(hT Y i hi).ty;split at h
  ·cases h
  ·rename_i e he
   rw[kj he]at ht;split at h
   ·cases h
   ·rename_i j hj
    have ht':=(hT e j hj).ty;split at h
    ·cases h
    ·rename_i ys sP
     split at h
     ·rename_i hb
      cases h
      simp only[zLR]at hb;obtain⟨b1,b2,b3,b4⟩:=hb;rw[zX]at b1;have b1:0<j.sz:=by simpa using b1
      have b2:=zLQ b2;have b3:=zLQ b3
      have b4:=Nat.le_of_ble_eq_true b4;obtain⟨vs,e1,e2⟩:=HD hG hM sP H';obtain⟨E,hE⟩:∃E,j.sz=E+1:=⟨j.sz-1,by omega⟩
      rw[hE]at ht' b4;exact u7 (Ty.fits X.P _) (by rw[Ty.yh,b2,hE]) hO ht ht' (zLT _) e1 e2 (by rw[e2.len,b3]) b4
     ·cases h
def SJ(T:TE)(G:FE)(M:MS)(rd:Operand->Option AV)(Y:TypeId)(n:Nat)(ps:List (Nat×Operand)):VR:=match Ha T G M rd Y n ps with
 |some q=>match n,ps with
  |0,[]=>.tot (.em q.2.1)
  |_,_=>.tot (.rd (.sl q.2.1) q.2.2)
 |none=>.no
theorem Mw{TT:TE}(hT:TOk X.P TT){G:FE}(hG:FOk X.P G){M:MS}(hM:yD M X w)(hO:OkO X.O w){rd:Operand->Option AV}{n:Nat}{ps:Array (Nat×Operand)}(H:ZK X w a rd (Op.operands (.buildSlice Y n ps))) :
  VOk X w a ⟨d,.buildSlice Y n ps,T,pos,aft,g⟩ (SJ TT G M rd Y n ps.toList):=by
 unfold SJ;split
 ·rename_i q hq
  split
  ·rename_i bS
   have e:ps=#[]:=Array.ext' (by simpa using bS)
   subst e;exact Uh hT hq
  ·exact yU (GB hT hG hM hO H hq) fun w' v hE hv=>kx.val hv fun g hg=>hO g (hv.ge g hg).1
 ·trivial
def Wy:AV->Nat->Option AV
 |.pr a _,0=>some a
 |.pr _ b,n+1=>Wy b n
 |_,_=>none
theorem Vj:∀ {l:AV} {n:Nat} {φ:AV},Wy l n=some φ->∀ {vs},(l.sem X w).l vs->∃v,vs[n]?=some v/\φ.holds X w v:=by
 intro l
 induction l with
 |pr a b iha ihb =>
  intro n φ h vs hv;obtain⟨v,vs',h1,h2,h3⟩:=hv
  cases n with
  |zero=>cases h;exact⟨v,by rw[h1];rfl,h2⟩
  |succ n=>obtain⟨v',e1,e2⟩:=ihb h h3;exact⟨v',by rw[h1];simpa using e1,e2⟩
 |_=>intro n φ h;cases n<;>cases h
def zHI(n:Nat):Option AV->VR
 |some (.tp l)=>match Wy l n with
  |some φ=>.tot φ
  |none=>.no
 |_=>.no
theorem Um{rd:Operand->Option AV}{x:Operand}{n:Nat}(H:ZK X w a rd (Op.operands (.extract x n))):VOk X w a ⟨d,.extract x n,T,pos,aft,g⟩ (zHI n (rd x)):=by
 cases h1:rd x with
 |none=>trivial
 |some φ =>
  have k1:=H x φ (by simp[Op.operands]) h1
  cases φ<;>try exact trivial
  rename_i l;show VOk _ _ _ _ (match Wy l n with|some φ=>VR.tot φ|none=>.no)
  split
  ·rename_i φ hφ
   obtain⟨vs,e1,e2⟩:=k1;obtain⟨v,e3,e4⟩:=Vj hφ e1;exact y8 (v:=v) (w':=w) (by simp[execOp,Instr.extract,e2,e3]) (Ext.refl _) e4
  ·trivial
def prL:List AV->AV
 | []=>.un
 |φ::l=>.pr φ (prL l)
theorem EZ{rd:Operand->Option AV}:∀ {xs:List Operand} {l:List AV},jB rd xs=some l->(∀x φ,x∈xs->rd x=some φ->φ.holds X w (a.eval x))->((prL l).sem X w).l (xs.map a.eval)
 | [],l,h,H=>by cases h;rfl
 |x::xs,l,h,H=>by
  simp only[jB]at h;split at h
  ·rename_i φ l' h1 h2
   cases h
   exact⟨_,_,rfl,H x φ (by simp) h1,EZ h2 fun y ψ hy=>H y ψ (by simp[hy])⟩
  ·cases h
def zEh(rd:Operand->Option AV)(f:FuncId)(xs ys:List Operand):VR:=match jB rd xs,jB rd ys with
 |some l,some m=>.tot (.cl f (prL l) (prL m))
 |_,_=>.no
theorem Uk{rd:Operand->Option AV}{f:FuncId}{xs ys:Array Operand}(H:ZK X w a rd (Op.operands (.makeFunc (.func f) xs ys))):VOk X w a ⟨d,.makeFunc (.func f) xs ys,T,pos,aft,g⟩ (zEh rd f xs.toList ys.toList):=by
 unfold zEh;split
 ·rename_i l m h1 h2
  refine yU (wY rfl rfl) fun w' v hE hv=>?_
  have k1:=EZ (X:=X) (w:=w) (a:=a) h1 fun x φ hx h=>H x φ (by simp only[Op.operands,Array.mem_append];exact .inl (Array.mem_toList_iff.1 hx)) h
  have k2:=EZ (X:=X) (w:=w) (a:=a) h2 fun x φ hx h=>H x φ (by simp only[Op.operands,Array.mem_append];exact .inr (Array.mem_toList_iff.1 hx)) h
  refine AV.ext _ hE ?_;exact⟨_,_,k1,k2,by rw[show v=_ from hv,<-Array.toList_map,<-Array.toList_map]⟩
 ·trivial
def SD(G:FE)(M:MS)(b:Bool):Option AV->Option AV->VR
 |some φ,some ψ=>match φ with
  |.rd t x=>match ψ.asT G M t with
   |some y=>.tot (.rd t (sel b x y))
   |none=>.no
  |_=>.no
 |_,_=>.no
theorem Mq{G:FE}(hG:FOk X.P G){M:MS}(hM:yD M X w){b:Bool}{c x y:Operand}{rx ry:Option AV}(hc:a.eval c=.bool b)(hx:∀φ,rx=some φ->b=true->φ.holds X w (a.eval x))(hy:∀φ,ry=some φ->b=false->φ.holds X w (a.eval y)):VOk X w a ⟨d,.pick c x y,T,pos,aft,g⟩ (SD G M b rx ry):=by
 unfold SD;split
 ·rename_i φ ψ
  split
  ·rename_i t u
   split
   ·rename_i v hv
    cases b with
    |true=>exact y8 (v:=a.eval x) (w':=w) (by simp[execOp,hc,asBool]) (Ext.refl _) (hx _ rfl rfl)
    |false=>exact y8 (v:=a.eval y) (w':=w) (by simp[execOp,hc,asBool]) (Ext.refl _) (AV.Z1 hG hM hv (hy _ rfl rfl))
   ·trivial
  ·trivial
 ·trivial
end ops
inductive CQ
 |r (t:Ty) (T:TypeId)
 |p (t:Ty) (T:TypeId)
 |o (t:Ty) (T' T:TypeId)
 |s (T:TypeId)
def CR:List CQ->Type
 | []=>Unit
 |.r t _::l=>t.D×CR l
 |_::l=>CR l
def CB:List CQ->Type
 | []=>Unit
 |.r _ _::l=>CB l
 |.p t _::l=>t.D×CB l
 |.o t _ _::l=>List t.D×CB l
 |.s _::l=>CB l
abbrev Ku(bl:List Nat):List Value:=bl.map fun b=>.pointer (some ⟨b,0,none⟩)
def Cnt(P:Program)(f:FuncId)(us:List Value)(O:zR)(w:World)(G:Nat->Prop):(l:List CQ)->CR l->CB l->List Nat->List Nat->List Nat->List Value->Prop
 | [],_,_,bl,ts,σs,vs=>bl=[]/\ts=[]/\σs=[]/\vs=[]
 |.r t T::l,x,y,bl,ts,σs,vs=>∃b bl' τ ts' cs,bl=b::bl'/\ts=τ::ts'/\Own w b cs T/\O b=τ/\(t.gr P).rel O w cs.toList x.1/\Cnt P f us O w G l x.2 y bl' ts' σs vs
 |.p t T::l,x,y,bl,ts,σs,vs=>∃b bl' τ ts' cs,bl=b::bl'/\ts=τ::ts'/\Own w b cs T/\O b=τ/\(t.gr P).rel O w cs.toList y.1/\Cnt P f us O w G l x y.2 bl' ts' σs vs
 |.o t T' T::l,x,y,bl,ts,σs,vs=>∃b bl' τ ts' σ σs' u vs',bl=b::bl'/\ts=τ::ts'/\σs=σ::σs'/\vs=u::vs'/\u.oneCell'=true/\Own w b #[u] T/\O b=τ/\zo σ (t.gr P) T' G O w u y.1/\Cnt P f us O w G l x y.2 bl' ts' σs' vs'
 |.s T::l,x,y,bl,ts,σs,vs=>∃b bl' τ ts',bl=b::bl'/\ts=τ::ts'/\Own w b #[.func (.func f) #[] us.toArray] T/\O b=τ/\Cnt P f us O w G l x y bl' ts' σs vs
structure KeepK(W:Nat->Prop)(O:zR)(w:World)(O':zR)(w':World):Prop where
 os:w'.os=w.os
 tape:w'.tape=w.tape
 output:w'.output=w.output
 size:w.heap.size<=w'.heap.size
 block:∀b,b<w.heap.size->¬W b->w'.heap[b]?=w.heap[b]?
 tag:∀b,b<w.heap.size->¬W b->O' b=O b
 nz:∀b,b<w.heap.size->W b->O' b≠0
 ok:OkO O' w'
structure FK where
 ps:Ty
 cs:List CQ
 zt:Ty
 zT:TypeId
 sem:ps.D->CR cs->CB cs->Comp (Sum zt.D (CB cs))
def FK.post(P:Program)(f:FuncId)(s:FK)(c:CR s.cs)(O:zR)(w:World)(bl ts σs:List Nat)(G:Nat->Prop):Sum s.zt.D (CB s.cs)->Ending->World->Prop:=fun r e w' =>
 ∃O',KeepK (fun b=>b∈bl\/G b) O w O' w'/\match r with
  |.inl z=>∃v,e=.panicked [{ v:=.iface s.zT v,recovered:=false }]/\(s.zt.gr P).v O' w' v z
  |.inr y'=>(∃v,e=.returned v)/\∃ss',Cnt P f (Ku bl) O' w' (fun g=>w.heap.size<=g\/G g) s.cs c y' bl ts σs ss'
def FK.ok(P:Program)(f:FuncId)(s:FK):Prop :=
 FnOk P f/\∀O w,OkO O w->∀vs x c y bl ts σs ss G,s.ps.args P O w vs x->Cnt P f (Ku bl) O w G s.cs c y bl ts σs ss->(ts++σs).Nodup->0 ∉ ts++σs->(∀b,G b->b<w.heap.size/\O b∈σs)->σs.length<=1->∀n r,(s.sem x c y).run n=some r ->
  Calls P f (vs++Ku bl).toArray w (s.post P f c O w bl ts σs G r)
abbrev KFE:=FuncId->Option FK
def zLN(P:Program)(G:KFE):Prop:=∀f s,G f=some s->s.ok P f
inductive Knd
 |v (t:Ty)
 |o (nw:Bool) (t:Ty) (T:TypeId)
 |m (nw:Bool) (a b:Ty)
 |bv (nw:Bool) (t:Ty) (T:TypeId)
 |un
 |pr (a b:Knd)
 |ag (l:Knd)
def Knd.D:Knd->Type
 |.v t=>t.D
 |.o _ t _=>List t.D
 |.m _ a b=>List (a.D×b.D)
 |.bv _ t _=>t.D
 |.un=>Unit
 |.pr a b=>a.D×b.D
 |.ag l=>l.D
def Knd.agg:Knd->Bool
 |.v t=>t.agg
 |.ag _=>true
 |_=>false
def Ca(P:Program)(O:zR)(w:World)(B:Nat):(k:Knd)->k.D->List Value->List Value->Prop
 |.v t,x,cs,us=>(t.gr P).rel O w cs x/\us=[]
 |.o _ t T,xs,cs,us=>∃u vs,cs=[u]/\us=[u]/\u.oneCell'=true/\OwnS w B T (t.gr P).sz u vs/\yk (t.gr P) O w vs xs
 |.m ..,_,_,_=>False
 |.bv ..,_,_,_=>False
 |.un,_,cs,us=>cs=[]/\us=[]
 |.pr a b,x,cs,us=>∃c1 c2 u1 u2,cs=c1++c2/\us=u1++u2/\Ca P O w B a x.1 c1 u1/\Ca P O w B b x.2 c2 u2
 |.ag l,x,cs,us=>Ca P O w B l x cs us
def Kz(P:Program)(O:zR)(w:World)(B:Nat):(k:Knd)->k.D->List Value->List Value->Prop
 |.pr a b,x,vs,us=>∃v vs' u1 u2 cs,vs=v::vs'/\us=u1++u2/\v=yC a.agg cs/\Ca P O w B a x.1 cs u1/\Kz P O w B b x.2 vs' u2
 |.un,_,vs,us=>vs=[]/\us=[]
 |_,_,_,_=>False
def uA(O:zR)(us:List Value):zR:=fun b=>if us.any (fun u=>u.ownBlock == some b) then 1 else O b
structure FJ where
 ps:Ty
 kd:Knd
 sem:ps.D->Comp kd.D
def FJ.ok(P:Program)(f:FuncId)(s:FJ):Prop :=
 FnOk P f/\∀O w,OkO O w->∀vs x,s.ps.args P O w vs x->∀n y,(s.sem x).run n=some y->Pure P f vs.toArray w (fun w' v=>∃rs us,kP rs v/\Kz P (uA O us) w' w.heap.size s.kd y rs us/\(us.filterMap Value.ownBlock).Nodup)
abbrev JE:=FuncId->Option FJ
def zLO(P:Program)(G:JE):Prop:=∀f s,G f=some s->s.ok P f
def mpD:TypeDesc->Option (TypeId×TypeId)
 |.map k v=>some (k,v)
 |_=>none
theorem Ra{d:TypeDesc}{k:TypeId×TypeId}(h:mpD d=some k):d=.map k.1 k.2:=by cases d<;>first|(cases h;rfl)|cases h
def mpT:(t:Ty)->t.D->Option ((a:Ty)×(b:Ty)×List (a.D×b.D))
 |.mp a b,xs=>some ⟨a,b,xs⟩
 |_,_=>none
theorem zDn{t:Ty}{x:t.D}{q}(h:mpT t x=some q):∃e:t=.mp q.1 q.2.1,Ty.cast e x=q.2.2:=by
 cases t<;>first|(cases h;exact⟨rfl,rfl⟩)|cases h
def zFD(M:MS):AV->Option ((a:Ty)×(b:Ty)×List (a.D×b.D))
 |.ob k=>match look M k with
  |some (_,.mp _ a b xs)=>some ⟨a,b,xs⟩
  |some (_,.fm a b xs)=>some ⟨a,b,xs⟩
  |_=>none
 |.rd t x=>mpT t x
 |_=>none
theorem Gl{P:Program}{a b:Ty}{O:zR}{w:World}{u:Value}{xs:List (a.D×b.D)}(h:((Ty.mp a b).gr P).v O w u xs):Cz (gX a) (b.gr P) O w u xs:=by
 obtain⟨cs,h1,h2⟩:=h;rcases h1 with ⟨rfl,rfl⟩|⟨c,es,clock,rfl,h3,h4,_⟩
 ·exact .inl ⟨h2,rfl⟩
 ·exact .inr ⟨c,es,clock,h2,h3,h4⟩
theorem zDo{X:Cx}{w:World}{M:MS}(hM:yD M X w){φ:AV}{u:Value}(hu:φ.holds X w u){q}(h:zFD M φ=some q):Cz (gX q.1) (q.2.1.gr X.P) X.O w u q.2.2:=by
 unfold zFD at h;split at h
 ·split at h
  ·rename_i k _ st nw a b xs hk
   cases h
   obtain⟨c,es,clock,h1,h2,h3,_⟩:=hM k _ hk;exact .inr ⟨c,es,clock,hu.1.trans h1,h2,h3⟩
  ·rename_i k _ st a b xs hk
   cases h
   have:=hM k _ hk;rw[hu.1];exact Gl this
  ·cases h
 ·rename_i t x
  obtain⟨e,he⟩:=zDn h;subst e;rw[<-he];exact Gl hu
 ·cases h
def SH(T:TE)(G:FE)(M:MS)(X:TypeId)(c:Bool):Option AV->Option AV->VR
 |some φ,some ψ=>match look T X with
  |some i=>match mpD i.dd with
   |some kv=>match look T kv.1,look T kv.2 with
    |some p,some q=>match p.kq,zFD M φ,ψ.asT G M p.τ,ofV q.τ q.z with
     |true,some m,some y,some z0=>match (Ty.mp m.1 m.2.1).to (.mp p.τ q.τ) m.2.2 with
      |some xs=>match c with
       |false=>.tot (.rd q.τ (zEv (mgB p.τ.eqb xs y) z0))
       |true=>.tot (.tp (.pr (.rd q.τ (zEv (mgB p.τ.eqb xs y) z0)) (.pr (.rd .bool (isS (mgB p.τ.eqb xs y))) .un)))
      |none=>.no
     |_,_,_,_=>.no
    |_,_=>.no
   |none=>.no
  |none=>.no
 |_,_=>.no
theorem zGi{P:Program}{a b a' b':Ty}{xs:List (a.D×b.D)}{ys:List (a'.D×b'.D)}(h:(Ty.mp a b).to (.mp a' b') xs=some ys){O w u}(hx:Cz (gX a) (b.gr P) O w u xs):Cz (gX a') (b'.gr P) O w u ys:=by
 obtain⟨e,h1⟩:=Ty.jL h;cases e;cases h1;exact hx
theorem Mu{X:Cx}{w:World}{a:Act}{M:MS}{d:Option Tmp}{T Y:TypeId}{pos:String}{aft:Array Edge}{g:Option (Nat×Bool)}{TT:TE}{G:FE}(hT:TOk X.P TT)(hG:FOk X.P G)(hM:yD M X w){rd:Operand->Option AV}{x y:Operand}{c:Bool}(H:ZK X w a rd (Op.operands (.lookup Y x y c))):VOk X w a ⟨d,.lookup Y x y c,T,pos,aft,g⟩ (SH TT G M Y c (rd x) (rd y)):=by
 cases h1:rd x with
 |none=>trivial
 |some φ =>
  cases h2:rd y with
  |none=>trivial
  |some ψ =>
   have k1:=H x φ (by simp[Op.operands]) h1
   have k2:=H y ψ (by simp[Op.operands]) h2
   simp only[SH];split
   ·rename_i i hi
    split
    ·rename_i kv hkv
     have ht:=(hT Y i hi).ty;rw[Ra hkv]at ht;split
     ·rename_i p q hp hq
      split
      ·rename_i m y z0 hk hm hy hz
       split
       ·rename_i xs sF
        have hK:=(hT _ p hp).key hk;have hV:=(hT _ q hq).ty
        have hy':=S3 hK.clo (AV.Z1 hG hM hy k2);have xB:=zGi sF (zDo hM k1 hm)
        have fA:=Df (d:=d) (T:=T) (pos:=pos) (aft:=aft) (g:=g) (ok:=c) ht hV (J8 X.P hz X.O w) hK rfl xB hy'
        cases c with
        |false =>
         refine yU fA fun w' v hE hv=>?_
         obtain⟨v0,rfl,hv⟩:=hv;exact hv
        |true =>
         refine yU fA fun w' v hE hv=>?_
         obtain⟨v0,rfl,hv⟩:=hv;exact⟨_,⟨_,_,rfl,hv,_,_,rfl,j6.2 rfl,rfl⟩,rfl⟩
       ·trivial
      ·trivial
     ·trivial
    ·trivial
   ·trivial
structure VE where
 T:TE
 G:FE
 H:ME
 O:OE
 N:FE
 Q:QE
 K:KFE:=fun _=>none
 Z:TypeId:=0
 J:JE:=fun _=>none
structure VE.ok(P:Program)(E:VE):Prop where
 T:TOk P E.T
 G:FOk P E.G
 H:zLM P E.H
 O:zLK P E.O
 N:zLL P E.N
 Q:zLI P E.Q
 K:zLN P E.K
 J:zLO P E.J
def vOf:Option AV->VR
 |some φ=>.tot φ
 |none=>.no
def vf(d:Nat):List Nat->Bool
 | []=>false
 |e::l=>bif Nat.beq e d then true else vf d l
def Dy(d:Option Tmp)(l:List Nat):Bool:=match d with
 |some d=>vf d l
 |none=>false
def H7:Int->Int->Bool
 |.ofNat a,.ofNat b=>Nat.beq a b
 |.negSucc a,.negSucc b=>Nat.beq a b
 |_,_=>false
theorem Bp{m n:Int}(h:H7 m n=true):m=n:=by
 unfold H7 at h;split at h
 ·rw[zLQ h]
 ·rw[zLQ h]
 ·cases h
def Hu:Operand->Operand->Bool
 |.tmp t,.tmp u=>Nat.beq t u
 |.const (.int k m),.const (.int l n)=>Hh k l && H7 m n
 |_,_=>false
theorem BE{x y:Operand}(h:Hu x y=true):x=y:=by
 unfold Hu at h;split at h
 ·rw[zLQ h]
 ·rw[zLR]at h;rw[Xn h.1,Bp h.2]
 ·cases h
def uj:Operand->Bool
 |.const (.int _ m)=>H7 m 0
 |_=>false
theorem tV{x:Operand}(h:uj x=true):∃k,x=.const (.int k 0):=by
 unfold uj at h;split at h
 ·rw[Bp h];exact⟨_,rfl⟩
 ·cases h
def mk0(m:Int):Comp Unit:=if 0<=m/\m<=LIM then Comp.pure () else Comp.fail
def SG(T:TE)(Y:TypeId)(x y:Operand)(m:Option (IntKind×Int)):VR:=match look T Y with
 |none=>.no
 |some i=>match slD i.dd with
  |none=>.no
  |some e=>match look T e with
   |none=>.no
   |some j=>match m,ofV j.τ j.z with
    |some m,some z=>match Nat.blt 0 j.sz && (Nat.beq j.τ.sz j.sz && (Nat.ble j.by_ 131072 && Nat.beq j.z.cells.size j.sz)) with
     |true=>match uj x with
      |true=>.par .nil (mk0 m.2) fun _=>.rd (.sl j.τ) []
      |false=>match Hu x y with
       |true=>.par (.sl j.τ) (mk m.2 z) fun ys=>.rd (.sl j.τ) ys
       |false=>.no
     |false=>.no
    |_,_=>.no
theorem Mt{X:Cx}{w:World}{a:Act}{d:Option Tmp}{T Y:TypeId}{pos:String}{aft:Array Edge}{g:Option (Nat×Bool)}{TT:TE}(hT:TOk X.P TT)(hO:OkO X.O w){rd:Operand->Option AV}{x y:Operand}(H:ZK X w a rd (Op.operands (.makeSlice Y x y))):VOk X w a ⟨d,.makeSlice Y x y,T,pos,aft,g⟩ (SG TT Y x y ((rd y).bind AV.int?)):=by
 unfold SG;split
 ·trivial
 ·rename_i i hi
  have ht:=(hT Y i hi).ty;split
  ·trivial
  ·rename_i e he
   rw[kj he]at ht;split
   ·trivial
   ·rename_i j hj
    have ht':=(hT e j hj).ty;split
    ·rename_i m zv hm hz
     have i7:=vM H (x:=y) (by simp[Op.operands]) hm
     split
     ·rename_i hb
      simp only[zLR]at hb;obtain⟨b1,b2,b3,b4⟩:=hb;rw[zX]at b1;have b1:0<j.sz:=by simpa using b1
      have b2:=zLQ b2;have b3:=Nat.le_of_ble_eq_true b3
      have b4:=zLQ b4;obtain⟨E',hE'⟩:∃E',j.sz=E'+1:=⟨j.sz-1,by omega⟩
      rw[hE']at ht' b4;have f8:(j.τ.gr X.P).sz=E'+1:=by rw[Ty.yh,b2,hE']
      split
      ·rename_i cL
       obtain⟨kk,rfl⟩:=tV cL;intro n u0 h0;exact yU (pA (r:=j.τ.gr X.P) (B:=w.heap.size) (O:=X.O) f8 ht ht' b3 (zLT _) rfl i7 h0) fun w' v hE hv=>kx.val hv fun g hg=>hO g (hv.ge g hg).1
      ·split
       ·rename_i hs
        obtain rfl:=BE hs;intro n ys h0;exact yU (BW (r:=j.τ.gr X.P) (B:=w.heap.size) (O:=X.O) f8 ht ht' b3 b4 (zLT _) i7 i7 (fun O w=>J8 _ hz O w) h0) fun w' v hE hv=>kx.val hv fun g hg=>hO g (hv.ge g hg).1
       ·trivial
     ·trivial
    ·trivial
def uM{α:Type}:List α->Bool
 | []=>true
 |_=>false
def Er:Operand->Bool
 |.const (.slice none 0 0)=>true
 |_=>false
theorem MH{y:Operand}(h:Er y=true):y=.const (.slice none 0 0):=by
 unfold Er at h;split at h
 ·rfl
 ·cases h
def UQ:BinOp->Option Bool
 |.eql=>some true
 |.neq=>some false
 |_=>none
def zFB:AV->Bool
 |.ex (.slice none 0 0)=>true
 |_=>false
theorem Vm{φ:AV}(h:zFB φ=true):φ=.ex (.slice none 0 0):=by
 unfold zFB at h;split at h
 ·rfl
 ·cases h
def zEe(T:TE)(M:MS)(op:BinOp)(Y:TypeId):Option AV->VR
 |some φ=>match look T Y with
  |none=>.no
  |some i=>match slD i.dd,UQ op with
   |some _,some p=>match zFB φ with
    |true=>.tot (.rd .bool p)
    |false=>match Hb M φ with
     |some q=>.tot (.nb p (uM q.2))
     |none=>match uH M φ with
      |some q=>.tot (.nb p (uM q.2.2.2))
      |none=>.no
   |_,_=>.no
 |none=>.no
theorem RX{α:Type}{r:GR α}{O:zR}{w:World}{p:Option Addr}{n c:Nat}{xs:List α}(h:Rd r O w (.slice p n c) xs):p.isNone=true->uM xs=true:=by
 intro hp;have:=MG (u:=.slice p n c) (by cases p<;>simp_all [Ep]) h
 rw[this];rfl
theorem pC{P:Program}{a:Act}{w:World}{d:Option Tmp}{T Y E Z:TypeId}{pos:String}{aft:Array Edge}{g:Option (Nat×Bool)}{op:BinOp}{p:Bool}{α:Type}{r:GR α}{O:zR}{xs:List α}{x:Operand}{z sz by_}(hT:Eng.Ty P Y (.slice E) z sz by_)(hp:UQ op=some p)(h:Rd r O w (a.eval x) xs) :
  Ok P ⟨d,.binOp op Y x (.const (.slice none 0 0)) Z,T,pos,aft,g⟩ a w (fun w v=>∃b,v=.bool b/\(b=p->uM xs=true)):=by
 obtain⟨vs,⟨q,c,h1,_⟩,_⟩:=id h;rw[h1]at h;have h2:a.eval (.const (.slice none 0 0))=.slice none 0 0:=rfl
 cases op<;>simp only[UQ,zLo]at hp<;>try cases hp
 ·have:=_root_.Go.run_eql_slice_nil (P:=P) w Y E q vs.length c hT.u
  refine y8 (v:=.bool q.isNone) (w':=w) (by simp[execOp,eqGuard,h1,h2,this]) (Ext.refl w) ⟨_,rfl,fun hb=>RX h (by simpa using hb)⟩
 ·have:=_root_.Go.run_neq_slice_nil (P:=P) w Y E q vs.length c hT.u
  refine y8 (v:=.bool (!q.isNone)) (w':=w) (by simp[execOp,eqGuard,h1,h2,this]) (Ext.refl w) ⟨_,rfl,fun hb=>RX h (by simpa using hb)⟩
theorem Ix{P:Program}{a:Act}{w:World}{d:Option Tmp}{T Y E Z:TypeId}{pos:String}{aft:Array Edge}{g:Option (Nat×Bool)}{op:BinOp}{p:Bool}{X:Cx}{x:Operand}{z sz by_}(hT:Eng.Ty P Y (.slice E) z sz by_)(hp:UQ op=some p)(h:a.eval x=.slice none 0 0) :
  Ok P ⟨d,.binOp op Y x (.const (.slice none 0 0)) Z,T,pos,aft,g⟩ a w (fun w v=>(AV.rd .bool p).holds X w v):=by
 have h2:a.eval (.const (.slice none 0 0))=.slice none 0 0:=rfl;cases op<;>simp only[UQ,zLo]at hp<;>try cases hp
 ·have:=_root_.Go.run_eql_slice_nil (P:=P) w Y E none 0 0 hT.u
  exact y8 (v:=.bool true) (w':=w) (by simp[execOp,eqGuard,h,h2,this]) (Ext.refl w) (j6.2 rfl)
 ·have:=_root_.Go.run_neq_slice_nil (P:=P) w Y E none 0 0 hT.u
  exact y8 (v:=.bool false) (w':=w) (by simp[execOp,eqGuard,h,h2,this]) (Ext.refl w) (j6.2 rfl)
theorem Ue{X:Cx}{w:World}{a:Act}{M:MS}{d:Option Tmp}{T Y Z:TypeId}{pos:String}{aft:Array Edge}{g:Option (Nat×Bool)}{TT:TE}(hT:TOk X.P TT)(hM:yD M X w){rd:Operand->Option AV}{op:BinOp}{x:Operand}(H:ZK X w a rd (Op.operands (.binOp op Y x (.const (.slice none 0 0)) Z))):VOk X w a ⟨d,.binOp op Y x (.const (.slice none 0 0)) Z,T,pos,aft,g⟩ (zEe TT M op Y (rd x)):=by
 cases h1:rd x with
 |none=>trivial
 |some φ =>
  have k1:=H x φ (by simp[Op.operands]) h1
  simp only[zEe];split
  ·trivial
  ·rename_i i hi
   have ht:=(hT Y i hi).ty;split
   ·rename_i e p he hp
    rw[kj he]at ht;split
    ·rename_i hn
     rw[Vm hn]at k1;exact Ix ht hp k1
    split
    ·rename_i q hq
     exact pC ht hp (Cm (qe hM k1 hq))
    ·split
     ·rename_i q hq
      obtain⟨⟨nw,h2⟩,_⟩:=Ja hM k1 hq;exact pC ht hp h2.rd
     ·trivial
   ·trivial
def zLF(T:TE)(Y:TypeId):Bool:=match look T Y with
 |some i=>i.τ.agg
 |none=>false
def vEq(T:TE)(G:FE)(M:MS)(op:BinOp)(Y:TypeId):Option AV->Option AV->VR
 |some φ,some ψ=>match look T Y with
  |some i=>match Nat.beq i.eq 0,i.τ.agg with
   |false,true=>match φ.asT G M i.τ,ψ.asT G M i.τ with
    |some p,some q=>match op with
     |.eql=>vB (i.τ.eqb p q)
     |.neq=>vB (ntB (i.τ.eqb p q))
     |_=>.no
    |_,_=>.no
   |_,_=>.no
  |none=>.no
 |_,_=>.no
theorem zBP{X:Cx}{w:World}{a:Act}{M:MS}{d:Option Tmp}{T Y Z:TypeId}{pos:String}{aft:Array Edge}{g:Option (Nat×Bool)}{TT:TE}{G:FE}(hT:TOk X.P TT)(hG:FOk X.P G)(hM:yD M X w){rd:Operand->Option AV}{op:BinOp}{x y:Operand}(H:ZK X w a rd (Op.operands (.binOp op Y x y Z))):VOk X w a ⟨d,.binOp op Y x y Z,T,pos,aft,g⟩ (vEq TT G M op Y (rd x) (rd y)):=by
 cases h1:rd x with
 |none=>trivial
 |some φ =>
  cases h2:rd y with
  |none=>trivial
  |some ψ =>
   have k1:=H x φ (by simp[Op.operands]) h1
   have k2:=H y ψ (by simp[Op.operands]) h2
   simp only[vEq];split
   ·rename_i i hi
    split
    ·rename_i he ha
     have fC:i.eq≠0:=fun e=>by rw[e]at he;cases he
     obtain⟨e1,e2,e3⟩:=(hT Y i hi).eq fC;split
     ·rename_i p q hp hq
      have f1:=(AV.jS hG φ hM).v hp k1;have f2:=(AV.jS hG ψ hM).v hq k2
      cases op<;>first|exact trivial|exact uL (Vc e1 ha e2 (e3 ha) f1 f2)|exact uL (VV e1 ha e2 (e3 ha) f1 f2)
     ·trivial
    ·trivial
   ·trivial
def Cn(R:RS')(c:Operand)(b:Bool)(g:Gd):Gd:=match c with
 |.tmp t=>match Zy R t with
  |some e=>(e.i,b)::(e.g++g)
  |none=>g
 |_=>g
def zKp:Option AV->Bool
 |some φ=>Mj φ
 |none=>false
def zFg(n:Nat):GR Unit where
 agg:=true
 sz:=n
 rel:=fun _ _ cs _=>cs.length=n/\∀c∈cs,c.oneCell'=true
 len:=fun h=>h.1
 one:=fun h=>h.2
 mono:=fun _ h=>h
def zEk(T:TE)(Y:TypeId):Option AV->VR
 |some φ=>match look T Y with
  |none=>.no
  |some i=>match slD i.dd,Mj φ with
   |some _,true=>vI .i64 0
   |_,_=>.no
 |none=>.no
theorem Uo{X:Cx}{w:World}{a:Act}{d:Option Tmp}{T Y:TypeId}{pos:String}{aft:Array Edge}{g:Option (Nat×Bool)}{TT:TE}(hT:TOk X.P TT){rd:Operand->Option AV}{x:Operand}(H:ZK X w a rd (Op.operands (.call ⟨.builtin .cap,#[x],#[Y]⟩))):VOk X w a ⟨d,.call ⟨.builtin .cap,#[x],#[Y]⟩,T,pos,aft,g⟩ (zEk TT Y (rd x)):=by
 cases h1:rd x with
 |none=>trivial
 |some φ =>
  have k1:=H x φ (by simp[Op.operands,Call.operands]) h1
  simp only[zEk];split
  ·trivial
  ·rename_i i hi
   have ht:=(hT Y i hi).ty;split
   ·rename_i e he hn
    rw[kj he]at ht;rw[mR hn]at k1;have k1:a.eval x=.slice none 0 0:=k1
    exact XQ (zl (by simp[execOp,resolve,invoke,builtin,Builtin.cap_,k1,ht.gR,goInt]))
   ·trivial
def SF(T:TE)(M:MS)(Y:TypeId)(rd:Operand->Option AV)(φ:Option AV)(l h:Option Operand):VR:=match l,h,φ with
 |none,some h,some φ=>match Mj φ,look T Y,(rd h).bind AV.int? with
  |true,some i,some n=>match slD i.dd with
   |some e=>match look T e with
    |some j=>.par .nil ((sub ([]:List Unit) 0 n.2).bind fun _=>Comp.pure ()) fun _=>.ex (.slice none 0 0)
    |none=>.no
   |none=>.no
  |_,_,_=>.no
 |_,_,_=>.no
theorem Mr{X:Cx}{w:World}{a:Act}{d:Option Tmp}{T Y:TypeId}{pos:String}{aft:Array Edge}{g:Option (Nat×Bool)}{TT:TE}(hT:TOk X.P TT){M:MS}{rd:Operand->Option AV}{x:Operand}{l h:Option Operand}(H:ZK X w a rd (Op.operands (.slice Y x l h none))):VOk X w a ⟨d,.slice Y x l h none,T,pos,aft,g⟩ (SF TT M Y rd (rd x) l h):=by
 unfold SF;split
 ·rename_i h φ hφ
  split
  ·rename_i i n hn hi hh
   split
   ·rename_i e he
    split
    ·rename_i j hj
     intro nf y hy;obtain⟨ys,eV,_⟩:=run_bind hy;have ht:=(hT Y i hi).ty
     rw[kj he]at ht;have k1:=H x φ (by simp[Op.operands]) hφ
     rw[mR hn]at k1;have k1:a.eval x=.slice none 0 0:=k1
     have sP:ys=[]:=by have:=jd eV;simpa using this.2.symm
     have hx:(rSl (j.τ.gr X.P)).v X.O w (a.eval x) []:=by rw[k1];exact uc _ _ _ _
     have hz:(sub ([]:List j.τ.D) 0 n.2).run nf=some []:=by
      obtain⟨hc,_⟩:=jd eV;unfold sub;rw[zLr (by simpa using hc)]
      simp[Comp.pure]
     have hE:=(hT e j hj);by_cases f8:j.τ.sz=j.sz
     ·refine yU (Yv ht hE.ty (by rw[Ty.yh];exact f8) rfl hx (vM H (by simp[Op.operands]) hh) hz) fun w' v hE hv=>?_
      rw[show v=_ from hv,k1];exact rfl
     ·have hx':(rSl (zFg j.sz)).v X.O w (a.eval x) ([]:List Unit):=by rw[k1];exact uc _ _ _ _
      refine yU (Yv ht hE.ty rfl rfl hx' (vM H (by simp[Op.operands]) hh) (sP ▸ eV)) fun w' v hE hv=>?_
      rw[show v=_ from hv,k1];exact rfl
    ·trivial
   ·trivial
  ·trivial
 ·trivial
def Ar(E:VE)(M:MS)(rd:Operand->Option AV)(b:Builtin)(xs:List Operand)(ts:List TypeId):VR:=match b with
 |.len=>match xs,ts with
  | [x],[Y]=>zEf E.T M Y (rd x)
  |_,_=>.no
 |.cap=>match xs,ts with
  | [x],[Y]=>zEk E.T Y (rd x)
  |_,_=>.no
 |.max=>match xs,ts with
  | [x,y],[_,_]=>vMM true (rd x) (rd y)
  |_,_=>.no
 |.min=>match xs,ts with
  | [x,y],[_,_]=>vMM false (rd x) (rd y)
  |_,_=>.no
 |_=>.no
def zEj:Option AV->VR
 |some (.bx k off)=>.tot (.bx k off)
 |some (.rd (.box e) x)=>.tot (.rd (.box e) x)
 |_=>.no
theorem Un{X:Cx}{w:World}{a:Act}{d:Option Tmp}{T:TypeId}{pos:String}{aft:Array Edge}{g:Option (Nat×Bool)}{rd:Operand->Option AV}{x:Operand}(H:ZK X w a rd (Op.operands (.nilCheck x))):VOk X w a ⟨d,.nilCheck x,T,pos,aft,g⟩ (zEj (rd x)):=by
 unfold zEj;split
 ·rename_i k off h
  obtain⟨h1,b,h2,h3⟩:=H x _ (by simp[Op.operands]) h
  exact fun K Q hK=>pD h3 K Q fun v w' hE hv=>hK v w' hE (by rw[show v=_ from hv];exact⟨h1,b,h2,rfl⟩)
 ·rename_i e y h
  have k1:(KI (e.gr X.P)).v X.O w (a.eval x) y:=H x _ (by simp[Op.operands]) h
  obtain⟨cs,⟨b,cs',T',rfl,h2,h3,h4⟩,h5⟩:=k1;have h6:a.eval x=.pointer (some ⟨b,0,none⟩):=h5
  exact fun K Q hK=>pD h6 K Q fun v w' hE hv=>hK v w' hE (by
   rw[show v=_ from hv]
   exact GR.Jz (KI (e.gr X.P)) ⟨_,⟨b,cs',T',rfl,h2,h3,h4⟩,rfl⟩ hE)
 ·trivial
def exB:Option AV->Option Bool
 |some (.ex (.bool b))=>some b
 |_=>none
theorem zEJ{o:Option AV}{b:Bool}(h:exB o=some b):o=some (.ex (.bool b)):=by
 unfold exB at h;split at h
 ·cases h;rfl
 ·cases h
def zAc(b:Bool)(x y:Option AV):VR:=match b with
 |true=>vOf x
 |false=>vOf y
def rdC(rd:Operand->Option AV):Operand->Option AV
 |.const (.bool b)=>some (.ex (.bool b))
 |x=>rd x
theorem IR{X:Cx}{w:World}{a:Act}{d:Option Tmp}{T:TypeId}{pos:String}{aft:Array Edge}{g:Option (Nat×Bool)}{b:Bool}{c x y:Operand}{rx ry:Option AV}(hc:a.eval c=.bool b)(hx:∀φ,rx=some φ->φ.holds X w (a.eval x))(hy:∀φ,ry=some φ->φ.holds X w (a.eval y)) :
  VOk X w a ⟨d,.pick c x y,T,pos,aft,g⟩ (zAc b rx ry):=by
 cases b with
 |true =>
  cases rx with
  |none=>trivial
  |some φ=>exact y8 (v:=a.eval x) (w':=w) (by simp[execOp,hc,asBool]) (Ext.refl _) (hx _ rfl)
 |false =>
  cases ry with
  |none=>trivial
  |some φ=>exact y8 (v:=a.eval y) (w':=w) (by simp[execOp,hc,asBool]) (Ext.refl _) (hy _ rfl)
theorem Q1{X:Cx}{w:World}{a:Act}{rd:Operand->Option AV}{x:Operand}{φ:AV}(h:rdC rd x=some φ)(k:rd x=some φ->φ.holds X w (a.eval x)):φ.holds X w (a.eval x):=by
 unfold rdC at h;split at h
 ·cases h;exact rfl
 ·exact k h
def zEd(E:VE)(M:MS)(rd:Operand->Option AV)(f:FuncId)(xs ys:List Operand):VR:=match E.Q f with
 |none=>zEh rd f xs ys
 |some s=>match xs,jB rd ys with
  | [],some l=>match Xf (l.map (fun φ=>φ.asT E.G M)) s.ps with
   |some x=>.tot (.rd (.seq s.t) (s.sem x))
   |none=>.no
  |_,_=>.no
theorem Ud{X:Cx}{w:World}{a:Act}{E:VE}(hE:E.ok X.P){M:MS}(hM:yD M X w){d:Option Tmp}{T:TypeId}{pos:String}{aft:Array Edge}{g:Option (Nat×Bool)}{rd:Operand->Option AV}{f:FuncId}{xs ys:Array Operand}(H:ZK X w a rd (Op.operands (.makeFunc (.func f) xs ys))) :
  VOk X w a ⟨d,.makeFunc (.func f) xs ys,T,pos,aft,g⟩ (zEd E M rd f xs.toList ys.toList):=by
 unfold zEd;split
 ·exact Uk H
 ·rename_i s hs
  split
  ·rename_i l h1 h2
   split
   ·rename_i x hx
    have sF:xs=#[]:=by
     have:=zLi List.toArray h1;simpa using this
    subst sF;refine yU (wY rfl rfl) fun w' v pV hv=>?_
    have kA:=jT h2;have fU:s.ps.args X.P X.O w (ys.toList.map a.eval) x:=kO hx (by simp[kA]) fun i f v hf hv t y hy=>by
     rw[List.getElem?_map,Option.map_eq_some_iff]at hf hv;obtain⟨ψ,g1,rfl⟩:=hf;obtain⟨z,g2,rfl⟩:=hv;obtain⟨z',g3,g4⟩:=ZW h2 i ψ g1;rw[g2]at g3;cases g3;refine AV.Z1 hE.G hM hy (H z ψ ?_ g4);have:z∈ys:=Array.mem_toList_iff.1 (zLW g2)
     simp[Op.operands,this]
    obtain⟨q1,q2⟩:=hE.Q f s hs;refine AV.ext (.rd (.seq s.t) (s.sem x)) pV ⟨[_],⟨f,ys.toList.map a.eval,rfl,q1,fun O' w2 hO hk n zs hz L J Jx hR=>?_⟩,?_⟩
    ·exact q2 O' w2 hO _ _ (Ty.wP X.P _ hk fU) n zs hz L J Jx hR
    ·rw[show v=_ from hv]
     show _=yC false _
     simp only[yC,List.headD_cons,Array.map_empty];rw[<-Array.toList_map]
   ·trivial
  ·trivial
def val(E:VE)(M:MS)(ep:Nat)(L:LS)(R:RS')(g:Gd)(wr:List Nat)(d:Option Tmp)(o:Op):VR:=match o with
 |.move x=>vOf (rdO ep L R g x)
 |.assign x=>vOf (rdO ep L R g x)
 |.pick c x y=>match exB (rdO ep L R g c) with
  |some b=>zAc b (rdC (rdO ep L R g) x) (rdC (rdO ep L R g) y)
  |none=>match (rdO ep L R g c).bind AV.bool? with
  |some b=>SD E.G M b (rdO ep L R (Cn R c true g) x) (rdO ep L R (Cn R c false g) y)
  |none=>.no
 |.build t ps=>EB E.T (rdO ep L R g) t ps.toList
 |.buildSlice t n ps=>SJ E.T E.G M (rdO ep L R g) t n ps.toList
 |.makeSlice Y x y=>SG E.T Y x y ((rdO ep L R g y).bind AV.int?)
 |.load t x=>SI E.T M t (rdO ep L R g x)
 |.nilCheck x=>zEj (rdO ep L R g x)
 |.binOp op X x y _=>match Er y with
  |true=>zEe E.T M op X (rdO ep L R g x)
  |false=>match zLF E.T X with
  |true=>vEq E.T E.G M op X (rdO ep L R g x) (rdO ep L R g y)
  |false=>zEl E.T op X (rdO ep L R g x) (rdO ep L R g y)
 |.unOp op _ x=>vUn op (rdO ep L R g x)
 |.convert X Y x=>SK E.T X Y (rdO ep L R g x)
 |.fieldAddr X x f=>zEi E.T M X f (rdO ep L R g x)
 |.indexAddr X x i=>zEg E.T E.G M (Dy d wr) X (rdO ep L R g x) ((rdO ep L R g i).bind AV.int?)
 |.index X x i=>D9 E.T E.G M X (rdO ep L R g x) ((rdO ep L R g i).bind AV.int?)
 |.slice X x l h m=>match m with
  |none=>match zKp (rdO ep L R g x) with
   |true=>SF E.T M X (rdO ep L R g) (rdO ep L R g x) l h
   |false=>D8 E.T M X (rdO ep L R g) (rdO ep L R g x) l h
  |some _=>.no
 |.makeFunc f xs ys=>match f with
  |.func f=>zEd E M (rdO ep L R g) f xs.toList ys.toList
  |_=>.no
 |.extract x n=>zHI n (rdO ep L R g x)
 |.lookup X x y c=>SH E.T E.G M X c (rdO ep L R g x) (rdO ep L R g y)
 |.call c=>match c.callee with
  |.value x=>SM E.G M (rdO ep L R g) x c.args.toList
  |.builtin b=>Ar E M (rdO ep L R g) b c.args.toList c.argTypes.toList
  |.invoke _ _=>.no
 |_=>.no
section
variable {X:Cx} {w:World} {a:Act} {E:VE} {M:MS} {L:LS} {R:RS'} {g:Gd} {wr:List Nat}
theorem zKP(o:Oper)(hk:C0 L R X w o a)(hc:vb R g):ZK X w a (rdO X.ep L R g) o.op.operands:=fun x φ hx h=>mK h hx hk hc
theorem vb.app{G H:Gd}(h:vb R G)(k:vb R H):vb R (G++H):=by
 induction G with
 |nil=>exact k
 |cons c G ih=>exact⟨h.1,ih h.2⟩
theorem BN{c:Operand}{b:Bool}(hw:Wf R)(hr:(rdO X.ep L R g c).bind AV.bool?=some b)(hc:vb R g):vb R (Cn R c b g):=by
 cases c with
 |tmp t =>
  simp only[rdO]at hr
  cases hl:Zy R t with
  |none=>simp only[Cn,hl];exact hc
  |some e =>
   rw[hl]at hr;simp only[Cn,hl]at hr |-
   cases hs:Mc e.g g with
   |false=>rw[hs]at hr;cases hr
   |true =>
    rw[hs]at hr;have hb:e.φ.bool?=some b:=hr
    obtain⟨_,h2⟩:=hw.lt hl;refine⟨?_,vb.app (hc.sub hs) hc⟩;unfold Zk;rw[h2];simp[AV.bool,hb]
 |_=>exact hc
theorem J6(hE:E.ok X.P)(hw:Wf R)(hO:OkO X.O w)(hM:yD M X w)(o:Oper)(hk:C0 L R X w o a)(hc:vb R g):VOk X w a o (val E M X.ep L R g wr o.dst o.op):=by
 have H:=zKP o hk hc;obtain⟨d,op,T,pos,aft,gd⟩:=o;cases op<;>simp only[val]<;>first|exact trivial|skip
 case move x =>
  cases h:rdO X.ep L R g x with
  |none=>trivial
  |some φ=>exact Ms h H
 case assign x =>
  cases h:rdO X.ep L R g x with
  |none=>trivial
  |some φ=>exact C6 h H
 case pick c x y =>
  split
  ·rename_i b hb
   have:=H c _ (by simp[Op.operands]) (zEJ hb)
   exact IR this (fun φ hφ=>Q1 hφ fun h=>H x φ (by simp[Op.operands]) h) (fun φ hφ=>Q1 hφ fun h=>H y φ (by simp[Op.operands]) h)
  split
  ·rename_i b hb
   refine Mq hE.G hM (XL (X:=X) (w:=w) (φ:=rdB b) (x:=c) ?_ rfl) (fun φ hφ ht=>?_) (fun φ hφ ht=>?_)
   ·cases h:rdO X.ep L R g c with
    |none=>rw[h]at hb;cases hb
    |some φ =>
     rw[h]at hb;have:=H c φ (by simp[Op.operands]) h
     rwa[AV.ZV hb]at this
   ·subst ht;exact mK hφ (by simp[Op.operands]) hk (BN hw hb hc)
   ·subst ht;exact mK hφ (by simp[Op.operands]) hk (BN hw hb hc)
  ·trivial
 case build t ps=>exact IW hE.T H
 case buildSlice t n ps=>exact Mw hE.T hE.G hM hO H
 case makeSlice Y x y=>exact Mt hE.T hO H
 case load t x=>exact Mv hE.T hM H
 case nilCheck x=>exact Un H
 case binOp op Y x y Z =>
  split
  ·rename_i hn;obtain rfl:=MH hn;exact Ue hE.T hM H
  split
  ·exact zBP hE.T hE.G hM H
  ·exact Uq hE.T H
 case unOp op Y x=>exact zBO H
 case convert Y Z x=>exact Mx hE.T H
 case fieldAddr Y x f=>exact Ul hE.T hM H
 case indexAddr Y x i=>exact Uj hE.T hE.G hM H
 case index Y x i=>exact IU hE.T hE.G hM H
 case slice Y x l h m =>
  split
  ·split
   ·exact Mr hE.T H
   ·exact IQ hE.T hM H
  ·trivial
 case makeFunc f xs ys =>
  split
  ·exact Ud hE hM H
  ·trivial
 case extract x n=>exact Um H
 case lookup Y x y c=>exact Mu hE.T hE.G hM H
 case call c =>
  obtain⟨cal,xs,ts⟩:=c;split
  ·rename_i x hx
   simp only at hx;subst hx;exact My hE.G hM hO H
  ·rename_i b hb
   simp only at hb;subst hb;cases b<;>simp only[Ar]<;>first|exact trivial|skip
   case len =>
    split
    ·rename_i x Y h1 h2
     obtain rfl:xs=#[x]:=Array.ext' h1;obtain rfl:ts=#[Y]:=Array.ext' h2;exact Ui hE.T hM H
    ·trivial
   case cap =>
    split
    ·rename_i x Y h1 h2
     obtain rfl:xs=#[x]:=Array.ext' h1;obtain rfl:ts=#[Y]:=Array.ext' h2;exact Uo hE.T H
    ·trivial
   case max =>
    split
    ·rename_i x y Y Z h1 h2
     obtain rfl:xs=#[x,y]:=Array.ext' h1;obtain rfl:ts=#[Y,Z]:=Array.ext' h2;exact Ug H
    ·trivial
   case min =>
    split
    ·rename_i x y Y Z h1 h2
     obtain rfl:xs=#[x,y]:=Array.ext' h1;obtain rfl:ts=#[Y,Z]:=Array.ext' h2;exact Uf H
    ·trivial
  ·trivial
end
def gB(b w:Bool):Bool:=match w with
 |true=>b
 |false=>ntB b
def H9(R:RS'):Gd->Bool
 | []=>true
 | [c]=>gB (Zk R c.1) c.2
 |c::G=>adB (gB (Zk R c.1) c.2) (H9 R G)
theorem zBA{b w:Bool}(h:b=w):gB b w=true:=by subst h;cases b<;>rfl
theorem CJ{R:RS'}:∀ {G:Gd},vb R G->H9 R G=true
 | [],_=>rfl
 | [c],h=>zBA h.1
 |c::e::G,h=>by
  have:=CJ h.2;have h1:=zBA h.1
  simp only[H9,adB,h1,Bool.true_and]at this |-;exact this
def D0{β:Type}(E:VE)(M:MS)(ep:Nat)(L:LS)(n:Nat)(wr:List Nat)(k:List Oper->RS'->LS->Comp β):Nat->Nat->List Oper->RS'->LS->Comp β
 |0,_,os,R,F=>k os R F
 |_+1,_,[],R,F=>k [] R F
 |m+1,i,o::os,R,F=>match o.dst with
  |none=>Comp.fail
  |some d=>match o.guard with
   |none=>match val E M ep L R [] wr (some d) o.op with
    |.no=>Comp.fail
    |.tot φ=>D0 E M ep L n wr k m (i+1) os (⟨i,d,[],φ⟩::R) ((d,n,φ)::F)
    |.par t c mk=>c.bind fun x=>D0 E M ep L n wr k m (i+1) os (⟨i,d,[],mk x⟩::R) ((d,n,mk x)::F)
   |some g=>match atR R g.1 with
    |none=>Comp.fail
    |some e=>match e.φ.bool? with
     |none=>Comp.fail
     |some _=>match val E M ep L R (g::e.g) wr (some d) o.op with
      |.no=>Comp.fail
      |.tot φ=>D0 E M ep L n wr k m (i+1) os (⟨i,d,g::e.g,φ⟩::R) ((d,n,.top)::F)
      |.par t c mk=>(Comp.gd (H9 R (g::e.g)) c t.Hk).bind fun x=>D0 E M ep L n wr k m (i+1) os (⟨i,d,g::e.g,mk x⟩::R) ((d,n,.top)::F)
theorem Ks{β:Type}{X:Cx}{E:VE}(hE:E.ok X.P){M:MS}{L:LS}{n:Nat}{wr:List Nat}{k:List Oper->RS'->LS->Comp β}{nf:Nat}{y:β}:∀ {m i:Nat} {os:List Oper} {R:RS'} {F:LS},(D0 E M X.ep L n wr k m i os R F).run nf=some y ->
  ∃R' F' tl,RegS X M L n i R F os R' F' tl/\(k tl R' F').run nf=some y
 |0,i,os,R,F,h=>⟨R,F,os,.n,h⟩
 |m+1,i,[],R,F,h=>⟨R,F,[],.n,h⟩
 |m+1,i,o::os,R,F,h=>by
  simp only[D0]at h;split at h
  ·cases h
  ·rename_i d hd
   split at h
   ·rename_i hg
    split at h
    ·cases h
    ·rename_i φ hv
     obtain⟨R',F',tl,h1,h2⟩:=Ks hE h;refine⟨R',F',tl,.c (fun {w a} hw hO hM hk hc=>?_) h1 hd hg,h2⟩
     have:=J6 (wr:=wr) hE hw hO hM o hk hc;rw[hd,hv]at this;exact this
    ·rename_i t c mk hv
     obtain⟨x,hx,h⟩:=run_bind h;obtain⟨R',F',tl,h1,h2⟩:=Ks hE h;refine⟨R',F',tl,.c (fun {w a} hw hO hM hk hc=>?_) h1 hd hg,h2⟩
     have:=J6 (wr:=wr) hE hw hO hM o hk hc;rw[hd,hv]at this;exact this nf x hx
   ·rename_i g hg
    split at h
    ·cases h
    ·rename_i e he
     split at h
     ·cases h
     ·rename_i b hb
      have lB:e.φ.isBool=true:=by unfold AV.isBool;rw[hb];rfl
      split at h
      ·cases h
      ·rename_i φ hv
       obtain⟨R',F',tl,h1,h2⟩:=Ks hE h;refine⟨R',F',tl,.g (g:=g.1) (want:=g.2) (fun hcc {w a} hw hO hM hk hc=>?_) h1 hd hg he lB,h2⟩
       have:=J6 (wr:=wr) hE hw hO hM o hk hc;rw[hd,hv]at this;exact this
      ·rename_i t c mk hv
       obtain⟨x,hx,h⟩:=run_bind h;obtain⟨R',F',tl,h1,h2⟩:=Ks hE h;refine⟨R',F',tl,.g (g:=g.1) (want:=g.2) (fun hcc {w a} hw hO hM hk hc=>?_) h1 hd hg he lB,h2⟩
       have:=J6 (wr:=wr) hE hw hO hM o hk hc;rw[hd,hv]at this;exact this nf x (zBa hx (CJ hcc))
structure FrX where
 st:Nat
 sys:Nat->Obj->Prop
 kv:Value->AV->Prop
 sO:zR
 sw:World
 rd:Option Nat
 Lp:Nat
 sb:Nat
 nr:Bool
def FrX.no(st:Nat)(O:zR)(w:World):FrX:=⟨st,fun _ _=>False,fun _ _=>False,O,w,none,0,w.heap.size,false⟩
structure Frm where
 P:Program
 N:Nat
 D:List Deferred
 A:Nat->Prop
 O0:zR
 w0:World
 Lh:Nat->AV->Prop
 fe:Nat
 bl:List Nat
 x:FrX
def Frm.dst(F:Frm)(d:Option Tmp):Prop:=∀t,d=some t->t<F.N/\∀φ,¬F.Lh t φ
abbrev Frm.W(F:Frm)(Q:Exit->Act->World->Prop):OpW:=inW F.x.rd 0 F.P Q
abbrev Frm.wp(F:Frm)(c:Code)(Q:Exit->Act->World->Prop)(a:Act)(w:World):Prop:=c.wpIn (fw F.x.rd) 0 F.P Q a w
def Cq:List Oper->Bool
 | []=>true
 |o::os=>match o.op with
  |.defer _=>false
  |_=>Cq os
theorem qO:∀ {os:List Oper},Cq os=true->∀o∈os,∀c,o.op≠.defer c
 |o'::os,h,o,ho,c,e=>by
  simp only[Cq]at h;rcases zLV.1 ho with rfl|ho
  ·rw[e]at h;cases h
  ·split at h
   ·cases h
   ·exact qO h o ho c e
 | [],_,o,ho,_,_=>by cases ho
def Xb(N:Nat)(os:List Oper):Bool:=zw N os && Cq os
theorem Xm{N:Nat}{os:List Oper}(h:Xb N os=true):zw N os=true:=by unfold Xb at h;rw[zLR]at h;exact h.1
theorem Kn{N:Nat}{os:List Oper}(h:Xb N os=true):∀o∈os,∀c,o.op≠.defer c:=by unfold Xb at h;rw[zLR]at h;exact qO h.2
theorem BZ{F:Frm}{Q:Exit->Act->World->Prop}{os:List Oper}(h:Xb F.N os=true):∀(i:Nat) o,os[i]?=some o->∀a w K,o.wp F.P a w K (fun _ _ _=>False)->F.W Q o a w K:=fun i o ho a w K hh=>jo (Kn h o (zLW ho)) (Ap hh)
def Frm.mark(F:Frm)(b:Nat):Frm:={ F with D:={ target:=.collected b,args:=#[] }::F.D,x:={ F.x with sys:=fun c o=>F.x.sys c o\/(c=b/\o=.deferred (some [])) } }
inductive Frm.To:Frm->Frm->Prop
 |refl (F:Frm):F.To F
 |mark {F F':Frm} (h:F.To F') (b:Nat) (hb:∀o,¬F'.x.sys b o) (hr:F'.x.nr=false):F.To (F'.mark b)
theorem Frm.To.trans{F F' F'':Frm}(h:F.To F')(k:F'.To F''):F.To F'':=by
 induction k with
 |refl=>exact h
 |mark _ b hb hr ih=>exact .mark ih b hb hr
structure Frm.Same(F F':Frm):Prop where
 P:F'.P=F.P
 N:F'.N=F.N
 A:F'.A=F.A
 O0:F'.O0=F.O0
 w0:F'.w0=F.w0
 Lh:F'.Lh=F.Lh
 fe:F'.fe=F.fe
 bl:F'.bl=F.bl
 st:F'.x.st=F.x.st
 kv:F'.x.kv=F.x.kv
 sO:F'.x.sO=F.x.sO
 sw:F'.x.sw=F.x.sw
 rd:F'.x.rd=F.x.rd
 Lp:F'.x.Lp=F.x.Lp
 sb:F'.x.sb=F.x.sb
 nr:F'.x.nr=F.x.nr
theorem Frm.To.same{F F':Frm}(h:F.To F'):F.Same F':=by
 induction h with
 |refl=>exact⟨rfl,rfl,rfl,rfl,rfl,rfl,rfl,rfl,rfl,rfl,rfl,rfl,rfl,rfl,rfl,rfl⟩
 |mark _ b _ _ ih=>exact⟨ih.P,ih.N,ih.A,ih.O0,ih.w0,ih.Lh,ih.fe,ih.bl,ih.st,ih.kv,ih.sO,ih.sw,ih.rd,ih.Lp,ih.sb,ih.nr⟩
theorem Frm.To.nr{F F':Frm}(h:F.To F')(hn:F.x.nr=true):F'=F:=by
 cases h with
 |refl=>rfl
 |mark h b hb hr=>rw[h.same.nr,hn]at hr;cases hr
abbrev nR(b:Nat):Deferred:={ target:=.collected b,args:=#[] }
theorem Frm.To.marks{F F':Frm}(h:F.To F')(hD:F.D=[])(hs:∀b o,¬F.x.sys b o):∃bs:List Nat,F'.D=bs.map nR/\bs.Nodup/\∀b o,F'.x.sys b o↔b∈bs/\o=.deferred (some []):=by
 induction h with
 |refl=>exact⟨[],hD,List.nodup_nil,fun b o=>⟨fun h=>zLh h (hs b o),fun h=>zLh h.1 (by simp)⟩⟩
 |mark _ b hb _ ih =>
  obtain⟨bs,h1,h2,h3⟩:=ih;refine⟨b::bs,by simp[Frm.mark,h1],List.nodup_cons.2 ⟨fun hm=>hb _ ((h3 b _).2 ⟨hm,rfl⟩),h2⟩,fun c o=>?_⟩
  show _\/_↔_
  rw[h3 c o,zLV];constructor
  ·rintro(⟨h4,h5⟩|⟨h4,h5⟩)
   ·exact⟨.inr h4,h5⟩
   ·exact⟨.inl h4,h5⟩
  ·rintro⟨h4|h4,h5⟩
   ·exact .inr ⟨h4,h5⟩
   ·exact .inl ⟨h4,h5⟩
structure S where
 L:LS
 M:MS
 n:Nat
 ep:Nat
structure Exx(F:FrX)(X:Cx)(w:World):Prop where
 st:F.st≠0
 sys:∀b o,F.sys b o->(w.heap[b]?=some o/\X.O b=F.st)/\F.sb<=b
 kv:∀v φ,F.kv v φ->φ.zg=false/\φ.holds X w v
 since:zb 0 F.sO F.sw X.O w
 L:X.Lp=F.Lp
theorem Exx.mono{F:FrX}{X X':Cx}{w w':World}(h:Exx F X w)(hX:X.le w X' w')(hk:zb F.st X.O w X'.O w'):Exx F X' w' :=
 ⟨h.st,fun b o hs=>by
  obtain⟨⟨h1,h2⟩,h5⟩:=h.sys b o hs;obtain⟨h3,h4⟩:=hk.2 b (zLq.1 h1).1 h2;exact⟨⟨h4.trans h1,h3⟩,h5⟩,fun v φ hv=>⟨(h.kv v φ hv).1,(φ.mono hX fun hf=>by rw[(h.kv v φ hv).1]at hf;cases hf).1 v (h.kv v φ hv).2⟩,h.since.trans hX.k,hX.L.trans h.L⟩
theorem Exx.no{st:Nat}{O:zR}{w:World}{X:Cx}(hs:st≠0)(hO:X.O=O)(hL:X.Lp=0:=by rfl):Exx (FrX.no st O w) X w:=⟨hs,fun _ _ h=>h.elim,fun _ _ h=>h.elim,by rw[hO];exact zb.refl _ _ _,hL⟩
structure RelX(F:Frm)(s:S)(a:Act)(w:World)(X:Cx):Prop where
 P:X.P=F.P
 A:X.A=F.A
 Fn:X.F=Go.Lift.Fr F.w0
 n:X.n=s.n
 ep:X.ep=s.ep
 ok0:OkO F.O0 F.w0
 fit:a.fitD F.N F.D
 base:Base F.A F.O0 F.w0 X.O w
 l:Xi s.L X w a
 m:yD s.M X w
 ln:∀t e,look s.L t=some e->e.1<s.n
 mn:∀k e,look s.M k=some e->e.1<s.n/\k<s.n
 inj:∀k k' e e',look s.M k=some e->look s.M k'=some e'->e.2.own=true->e'.2.own=true->X.ι k=X.ι k'->k=k'
 pos:∀k e,look s.M k=some e->e.2.own=true->X.ι k≠0/\X.ι k≠F.x.st
 epn:s.ep<=s.n
 fe:F.fe<s.n
 lh:∀t φ,F.Lh t φ->(φ.zg=true->s.ep<=F.fe)->φ.holds X w (a.get t)
 bl:F.bl.length<=s.n/\∀(j:Nat) b,F.bl[j]?=some b->X.U j=.pointer (some ⟨b,0,none⟩)
 ex:Exx F.x X w
def Rel(F:Frm)(s:S)(a:Act)(w:World):Prop:=∃X,RelX F s a w X
def S.put(s:S)(d:Option Tmp)(φ:AV):S:=match d with
 |some d=>{ s with L:=(d,s.n,φ)::s.L,n:=s.n+1 }
 |none=>{ s with n:=s.n+1 }
theorem zD{α:Type}{k:Nat}{x:α}{l:List (Nat×α)}{t:Nat}{e:α}(h:look ((k,x)::l) t=some e):(k=t/\x=e)\/(k≠t/\look l t=some e):=by
 simp only[look]at h
 cases hb:Nat.beq k t with
 |true=>rw[hb]at h;cases h;exact .inl ⟨zLQ hb,rfl⟩
 |false =>
  rw[hb]at h;rw[zU]at hb;exact .inr ⟨by simpa using hb,h⟩
theorem RelX.go{F:Frm}{s:S}{a:Act}{w:World}{X:Cx}(h:RelX F s a w X){a':Act}{w':World}{X':Cx}{s':S}(fW:a'.fitD F.N F.D)(hP:X'.P=X.P)(hA:X'.A=X.A)(hF:X'.F=X.F)(bU:∀k,k=0\/k=F.x.st->zb k X.O w X'.O w')(hU:∀k,k<s.n->X'.U k=X.U k)(hn:X'.n=s'.n)(xG:X'.ep=s'.ep)(fT:s.n<=s'.n)(hepn:s'.ep<=s'.n)
  (hB:Base F.A F.O0 F.w0 X'.O w') (hx:s'.ep<=F.fe->s.ep<=F.fe/\Ext w w') (hg:∀t φ,F.Lh t φ->a'.get t=a.get t)
  (hL:∀t e,look s'.L t=some e->(e.1<s'.n/\(fresh s'.ep e=true->e.2.holds X' w' (a'.get t)))\/(look s.L t=some e/\a'.get t=a.get t/\(e.2.zg=true->fresh s'.ep e=true->fresh s.ep e=true/\Ext w w')))
  (hM:∀k e,look s'.M k=some e->(e.1<s'.n/\k<s'.n/\e.2.holds X' w' k)\/(look s.M k=some e/\X'.ι k=X.ι k/\(e.2.own=true->zb (X.ι k) X.O w X'.O w')))
  (cZ:∀k k' e e',look s'.M k=some e->look s'.M k'=some e'->e.2.own=true->e'.2.own=true->X'.ι k=X'.ι k'->k=k')
  (sQ:∀k e,look s'.M k=some e->e.2.own=true->X'.ι k≠0/\X'.ι k≠F.x.st) (hLp:X'.Lp=X.Lp:=by rfl):RelX F s' a' w' X':=by
 have sN:=bU 0 (.inl rfl);have hX:X.le w X' w':=⟨hP,sN,fun k hk=>hU k (by rw[<-h.n];exact hk),by rw[h.n,hn];exact fT,hLp⟩
 refine⟨hP.trans h.P,hA.trans h.A,hF.trans h.Fn,hn,xG,h.ok0,fW,hB,fun t e he hf=>?_,fun k e he=>?_,fun t e he=>?_,fun k e he=>?_,cZ,sQ,hepn,zLe h.fe fT,fun t φ hp hf=>by rw[hg t φ hp];exact(φ.mono hX fun fY=>(hx (hf fY)).2).1 _ (h.lh t φ hp fun fY=>(hx (hf fY)).1),⟨zLY h.bl.1 fT,fun j b hj=>(hU j (zLe (zLX.1 hj).1 h.bl.1)).trans (h.bl.2 j b hj)⟩,h.ex.mono hX (bU _ (.inr rfl))⟩
 ·rw[xG]at hf
  rcases hL t e he with h1|⟨h1,h2,h3⟩
  ·exact h1.2 hf
  ·rw[h2]
   refine(e.2.mono hX fun fY=>(h3 fY hf).2).1 _ (h.l t e h1 ?_)
   rw[h.ep]
   cases fY:e.2.zg with
   |true=>exact(h3 fY hf).1
   |false=>simp[fresh,fY]
 ·rcases hM k e he with h1|⟨h1,h2,h3⟩
  ·exact h1.2.2
  ·exact MV.le hX (by rw[h.n];exact(h.mn k e h1).2) h2 hA hF _ h3 (h.m k e h1)
 ·rcases hL t e he with h1|h1
  ·exact h1.1
  ·exact zLe (h.ln t e h1.1) fT
 ·rcases hM k e he with h1|h1
  ·exact⟨h1.1,h1.2.1⟩
  ·have:=h.mn k e h1.1;exact⟨by omega,by omega⟩
theorem jN{a:Act}{d:Option Tmp}{v:Value}{t:Nat}(h:d≠some t):(a.put d v).get t=a.get t:=by
 cases d with
 |none=>rfl
 |some d=>exact vi (fun e=>h (by rw[e])) v
theorem RelX.val{F:Frm}{s:S}{a:Act}{w w':World}{X:Cx}(h:RelX F s a w X)(hE:Ext w w'){d:Option Tmp}(hd:F.dst d){v:Value}{φ:AV}(hv:φ.holds X w' v):RelX F (s.put d φ) (a.put d v) w' { X with n:=s.n+1 }:=by
 have eW:(s.put d φ).n=s.n+1:=by cases d<;>rfl
 have hse:(s.put d φ).ep=s.ep:=by cases d<;>rfl
 have hsM:(s.put d φ).M=s.M:=by cases d<;>rfl
 have hX:X.le w' { X with n:=s.n+1 } w':=⟨rfl,zb.refl _ _ _,fun _ _=>rfl,by rw[h.n];exact zLc _,rfl⟩
 refine h.go (ZH h.fit d v) rfl rfl rfl (fun _ _=>zb.ext hE) (fun _ _=>rfl) eW.symm (by rw[hse];exact h.ep) (by omega) (by rw[hse,eW];have:=h.epn;omega) (h.base.step hE h.ok0) (fun hf=>⟨by rwa[hse]at hf,hE⟩) (fun t φ hp=>jN fun e=>(hd _ e).2 φ hp) (fun t e he=>?_) (fun k e he=>?_) ?_ ?_
 ·cases d with
  |none =>
   exact .inr ⟨he,rfl,fun _ hf=>⟨hf,hE⟩⟩
  |some d =>
   rcases zD he with ⟨h1,h2⟩|⟨h1,h2⟩
   ·subst h1 h2
    refine .inl ⟨zLd _,fun _=>?_⟩
    rw[yV h.fit (hd d rfl).1];exact(φ.mono hX fun _=>Ext.refl _).1 _ hv
   ·exact .inr ⟨h2,vi h1 v,fun _ hf=>⟨hf,hE⟩⟩
 ·rw[hsM]at he
  exact .inr ⟨he,rfl,fun _=>zb.ext hE⟩
 ·rw[hsM];exact h.inj
 ·rw[hsM];exact h.pos
theorem RelX.okO{F:Frm}{s:S}{a:Act}{w:World}{X:Cx}(h:RelX F s a w X):OkO X.O w:=h.base.ok
theorem RelX.mnX{F:Frm}{s:S}{a:Act}{w:World}{X:Cx}(h:RelX F s a w X):∀k e,look s.M k=some e->k<X.n:=fun k e he=>by rw[h.n];exact(h.mn k e he).2
theorem MF{s:S}{F:LS}{all:List Oper}{n:Nat}{cs:List Bool}{R:RS'}(h:RG all s.L n cs R F){t:Nat}{e:Nat×AV}(he:look F t=some e):e.1=n\/look s.L t=some e:=by
 rcases h.f t e he with h1|h1
 ·exact .inl h1.1
 ·exact .inr h1.2
theorem pI{α:Type}{n k:Nat}{x:α}{l l0:List (Nat×Nat×α)}(h:∀t e,look l t=some e->e.1<n->look l0 t=some e):∀t e,look ((k,n,x)::l) t=some e->e.1<n->look l0 t=some e:=fun t e he hl=>by
 rcases zD he with ⟨h1,h2⟩|⟨h1,h2⟩
 ·rw[<-h2]at hl;exact zLh hl (Nat.lt_irrefl _)
 ·exact h t e h2 hl
theorem RegS.inv{X:Cx}{M:MS}{L:LS}{n i:Nat}{R F os R' F' tl}(h:RegS X M L n i R F os R' F' tl):∀t e,look F' t=some e->e.1<n->look F t=some e:=by
 induction h with
 |n=>exact fun t e h _=>h
 |c _ _ _ _ ih=>exact fun t e he hl=>pI (fun _ _ h _=>h) t e (ih t e he hl) hl
 |g _ _ _ _ _ _ ih=>exact fun t e he hl=>pI (fun _ _ h _=>h) t e (ih t e he hl) hl
theorem DR{F:Frm}(fE:∀t φ,¬F.Lh t φ){E:VE}(hE:E.ok F.P){s:S}{a:Act}{w:World}(hR:Rel F s a w){os:List Oper}{id m nf:Nat}{draw:Bool}{wr:List Nat}{y:β}{k:List Oper->RS'->LS->Comp β}{Q:Exit->Act->World->Prop}(hm:draw=true->F.P.follows .mixedOrders=true)
  (fA:Xb F.N os=true) (h:(D0 E s.M s.ep s.L s.n wr k m 0 os [] s.L).run nf=some y)
  (hk:∀tl R' F',(∀t e,look F' t=some e->e.1<s.n->look s.L t=some e)->(k tl R' F').run nf=some y->tl.all (fun o=>o.guard.isNone)=true/\(draw=true->Xq os R'.length=true) /\
   ∀a' w',Rel F { s with L:=F',n:=s.n+1 } a' w'->(∀o∈tl,o∈os)->vp (F.W Q) os.toArray (Q .normal) tl a' w'):F.wp (Code.region id os.toArray draw) Q a w:=by
 obtain⟨X,hX⟩:=hR;rw[<-hX.P]at hE;rw[<-hX.ep]at h;obtain⟨R',F',tl,hr,fI⟩:=Ks hE h;obtain⟨ht,cH,hQ⟩:=hk tl R' F' hr.inv fI;obtain⟨h1,⟨φs,e2,h2⟩,h3⟩:=RegS.zKo (Φ:=phi X R') (Xm fA) hX.okO hX.mnX hX.m hX.l hr rfl rfl (fun j=>by simp) (RG.start _)
 obtain rfl:φs=phi X R':=by rw[e2];rfl
 have bF:=h2.drop.2;have hg:ZB os (phi X R')=true:=by
  unfold ZB;rw[zLw];intro o ho;obtain⟨j,hj⟩:=List.mem_iff_getElem?.1 ho;by_cases gF:j<R'.length
  ·cases xF:o.guard with
   |none=>rfl
   |some p =>
    obtain⟨g,want⟩:=p;obtain⟨e,k1,k2⟩:=h3 j o g want (Nat.zero_le _) gF hj xF;obtain⟨_,_,k3⟩:=h1.wf.at (X:=X) k1;show ((phi X R').getD g (.isv undef)).isBool=true
    rw[zLk,k3];exact(AV.DL X e.φ).trans k2
  ·have:o∈tl:=by
    rw[<-bF,List.mem_iff_getElem?];exact⟨j-R'.length,by rw[Km,List.getElem?_drop,<-hj];congr 1;omega⟩
   rw[zLw]at ht;have:=ht o this
   cases xF:o.guard with
   |none=>rfl
   |some p=>rw[xF]at this;cases this
 have sK:∀o∈tl,o∈os:=fun o ho=>by rw[<-bF]at ho;exact List.mem_of_mem_drop ho
 have fin:∀a' w',a'.fitD F.N F.D->Ext w w'->(∀t,Xh os (phi X R') a (phi X R').length t w' (a'.get t))->vp (F.W Q) os.toArray (Q .normal) tl a' w':=by
  intro a' w' hfit' pV hK;refine hQ a' w' ⟨{ X with n:=s.n+1 },?_⟩ sK;rw[Km]at hK;have hkn:=h1.Xp rfl pV hX.l hK
  have hXle:X.le w' { X with n:=s.n+1 } w':=⟨rfl,zb.refl _ _ _,fun _ _=>rfl,by rw[hX.n];exact zLc _,rfl⟩
  refine hX.go hfit' rfl rfl rfl (fun _ _=>zb.ext pV) (fun _ _=>rfl) rfl hX.ep (zLc _) (Nat.le_succ_of_le hX.epn) (hX.base.step pV hX.ok0) (fun hf=>⟨hf,pV⟩) (fun t φ hp=>zLh hp (fE t φ)) (fun t e he=>.inl ⟨?_,fun hf=>?_⟩) (fun k e he=>.inr ⟨he,rfl,fun _=>zb.ext pV⟩) hX.inj hX.pos
  ·rcases MF (s:=s) h1 he with h5|h5
   ·rw[h5];exact zLd _
   ·exact Nat.lt_succ_of_lt (hX.ln t e h5)
  ·exact(e.2.mono hXle fun _=>Ext.refl _).1 _ (hkn t e he (by rw[hX.ep];exact hf))
 rw[hX.P]at h2;exact Jd hm (NX KS (BZ fA) (phi X R') hX.fit h2 (Xm fA) (fun e=>by rw[Km];exact cH e) hg fin)
def qu{α:Type}(f:Nat->α)(k:Nat)(v:α):Nat->α:=fun j=>if j=k then v else f j
theorem gM{α:Type}(f:Nat->α)(k:Nat)(v:α):qu f k v k=v:=by simp[qu]
theorem Y3{α:Type}(f:Nat->α){k j:Nat}(v:α)(h:j≠k):qu f k v j=f j:=by simp[qu,h]
theorem kz{α:Type}:∀ {l:List (Nat×α)} {t:Nat} {e:α},look l t=some e->(t,e)∈l
 | [],t,e,h=>by cases h
 |(k,x)::l,t,e,h=>by
  rcases zD h with ⟨h1,h2⟩|⟨_,h2⟩
  ·subst h1 h2;simp
  ·exact zLb _ (kz h2)
theorem w8:∀ {l:List Nat} {x:Nat},x∈l->x<=l.sum
 |y::l,x,h=>by
  rcases zLV.1 h with rfl|h
  ·simp
  ·have:=w8 h;simp;omega
theorem ZD(ι:Nat->Nat)(M:MS)(st:Nat):∃τ,(τ≠0/\τ≠st)/\∀k e,look M k=some e->ι k≠τ:=by
 refine⟨1+st+(M.map fun e=>ι e.1).sum,⟨by omega,by omega⟩,fun k e h=>?_⟩
 have:=w8 (l:=M.map fun e=>ι e.1) (x:=ι k) (List.mem_map.2 ⟨_,kz h,rfl⟩)
 omega
def S.obj(s:S)(d:Option Tmp)(mv:MV)(φ:AV):S:=match d with
 |some d=>{ L:=(d,s.n,φ)::s.L,M:=(s.n,s.n,mv)::s.M,n:=s.n+1,ep:=s.ep }
 |none=>{ L:=s.L,M:=(s.n,s.n,mv)::s.M,n:=s.n+1,ep:=s.ep }
def S.KJ(s:S)(d:Option Tmp)(mv:MV)(φ:AV):S:=match d with
 |some d=>{ L:=(d,s.n,φ)::s.L,M:=(s.n,s.n,mv)::s.M,n:=s.n+1,ep:=s.n }
 |none=>{ L:=s.L,M:=(s.n,s.n,mv)::s.M,n:=s.n+1,ep:=s.n }
def S.mod(s:S)(k:Nat)(mv:MV):S:={ L:=s.L,M:=(k,s.n,mv)::s.M,n:=s.n+1,ep:=s.n }
def S.ren(s:S)(d:Option Tmp)(k:Nat)(mv:MV):S:=match d with
 |some d=>{ L:=(d,s.n,.ob s.n)::s.L,M:=(s.n,s.n,mv)::(k,s.n,.dead)::s.M,n:=s.n+1,ep:=s.n }
 |none=>{ L:=s.L,M:=(s.n,s.n,mv)::(k,s.n,.dead)::s.M,n:=s.n+1,ep:=s.n }
def S.Cc(s:S)(k:Nat):S:=match look s.M k with
 |some (_,.sl true t _ xs)=>{ L:=s.L,M:=(k,s.n,.fs t xs)::s.M,n:=s.n+1,ep:=s.ep }
 |some (_,.mp true a b xs)=>{ L:=s.L,M:=(k,s.n,.fm a b xs)::s.M,n:=s.n+1,ep:=s.ep }
 |_=>s
def S.XR(s:S):List Nat->S
 | []=>s
 |k::l=>(s.Cc k).XR l
structure Inv(s s':S):Prop where
 le:s.n<=s'.n
 l:∀t e,look s'.L t=some e->e.1<s.n->look s.L t=some e
 m:∀k e,look s'.M k=some e->e.1<s.n->look s.M k=some e
theorem Inv.refl(s:S):Inv s s:=⟨zLT _,fun _ _ h _=>h,fun _ _ h _=>h⟩
theorem Inv.trans{s s' s'':S}(h:Inv s s')(k:Inv s' s''):Inv s s'' :=
 ⟨zLY h.le k.le,fun t e he hl=>h.l t e (k.l t e he (zLe hl h.le)) hl,fun t e he hl=>h.m t e (k.m t e he (zLe hl h.le)) hl⟩
theorem vZ{α:Type}{n k:Nat}{x:α}{l l0:List (Nat×Nat×α)}(h:∀t e,look l t=some e->e.1<n->look l0 t=some e):∀t e,look ((k,n,x)::l) t=some e->e.1<n->look l0 t=some e:=fun t e he hl=>by
 rcases zD he with ⟨h1,h2⟩|⟨h1,h2⟩
 ·rw[<-h2]at hl;exact zLh hl (Nat.lt_irrefl _)
 ·exact h t e h2 hl
theorem ya{α:Type}{n:Nat}{l0:List (Nat×Nat×α)}:∀t e,look l0 t=some e->e.1<n->look l0 t=some e:=fun _ _ h _=>h
theorem Inv.put(s:S)(d:Option Tmp)(φ:AV):Inv s (s.put d φ):=by
 cases d
 ·exact⟨zLc _,ya,ya⟩
 ·exact⟨zLc _,vZ ya,ya⟩
theorem Inv.obj(s:S)(d:Option Tmp)(mv:MV)(φ:AV):Inv s (s.obj d mv φ):=by
 cases d
 ·exact⟨zLc _,ya,vZ ya⟩
 ·exact⟨zLc _,vZ ya,vZ ya⟩
theorem Inv.KJ(s:S)(d:Option Tmp)(mv:MV)(φ:AV):Inv s (s.KJ d mv φ):=by
 cases d
 ·exact⟨zLc _,ya,vZ ya⟩
 ·exact⟨zLc _,vZ ya,vZ ya⟩
theorem Inv.mod(s:S)(k:Nat)(mv:MV):Inv s (s.mod k mv):=⟨zLc _,ya,vZ ya⟩
theorem Inv.ren(s:S)(d:Option Tmp)(k:Nat)(mv:MV):Inv s (s.ren d k mv):=by
 cases d
 ·exact⟨zLc _,ya,vZ (vZ ya)⟩
 ·exact⟨zLc _,vZ ya,vZ (vZ ya)⟩
section
variable {F:Frm} {s:S} {a:Act} {w w':World} {X:Cx}
theorem RelX.zHV(h:RelX F s a w X)(hE:Ext w w'){d:Option Tmp}(hd:F.dst d){v u:Value}{mv:MV}{φ:AV}{O':zR}{τ:Nat}(hB:Base F.A F.O0 F.w0 O' w')(hk:KX none X.O w O' w')(aI:τ≠0/\τ≠F.x.st)(hτ:∀k e,look s.M k=some e->X.ι k≠τ)
  (hv:∀X':Cx,X'.P=X.P->X'.A=X.A->X'.F=X.F->X'.O=O'->X'.n=s.n+1->(∀k,k<s.n->X'.U k=X.U k)->X'.U s.n=u->X'.ι s.n=τ->X.le w X' w'->φ.holds X' w' v/\mv.holds X' w' s.n):∃X':Cx,RelX F (s.obj d mv φ) (a.put d v) w' X'/\X'.P=X.P/\X'.O=O'/\X'.U s.n=u/\(∀k,k≠s.n->X'.ι k=X.ι k)/\X'.ι s.n=τ/\X.le w X' w'/\X'.n=s.n+1:=by
 have h0:zb 0 X.O w O' w':=hk.keep (by simp)
 let X':Cx:={ X with O:=O',U:=qu X.U s.n u,ι:=qu X.ι s.n τ,n:=s.n+1 }
 have hU:∀k,k<s.n->X'.U k=X.U k:=fun k hk=>Y3 _ _ (by omega)
 have hι:∀k,k≠s.n->X'.ι k=X.ι k:=fun k hk=>Y3 _ _ hk
 have xI:X'.ι s.n=τ:=gM _ _ _;have fT:X.le w X' w':=⟨rfl,h0,fun k hk=>hU k (by rw[<-h.n];exact hk),by rw[h.n];exact zLc _,rfl⟩
 obtain⟨v1,v2⟩:=hv X' rfl rfl rfl rfl rfl hU (gM _ _ _) (gM _ _ _) fT;have hM:(s.obj d mv φ).M=(s.n,s.n,mv)::s.M:=by cases d<;>rfl
 have hn:(s.obj d mv φ).n=s.n+1:=by cases d<;>rfl
 have xG:(s.obj d mv φ).ep=s.ep:=by cases d<;>rfl
 refine⟨X',?_,rfl,rfl,gM _ _ _,hι,xI,fT,rfl⟩;refine h.go (ZH h.fit d v) rfl rfl rfl (fun _ _=>hk.keep (by simp)) hU hn.symm (by rw[xG];exact h.ep) (by omega) (by rw[xG,hn];have:=h.epn;omega) hB (fun hf=>⟨by rwa[xG]at hf,hE⟩) (fun t φ hp=>jN fun e=>(hd _ e).2 φ hp) (fun t e he=>?_) (fun k e he=>?_) (fun k k' e e' he he' ho ho' fH=>?_) (fun k e he ho=>?_)
 ·cases d with
  |none=>exact .inr ⟨he,rfl,fun _ hf=>⟨hf,hE⟩⟩
  |some d =>
   rcases zD he with ⟨h1,h2⟩|⟨h1,h2⟩
   ·subst h1 h2
    exact .inl ⟨zLd _,fun _=>by rw[yV h.fit (hd d rfl).1];exact v1⟩
   ·exact .inr ⟨h2,vi h1 v,fun _ hf=>⟨hf,hE⟩⟩
 ·rw[hM]at he
  rcases zD he with ⟨h1,h2⟩|⟨h1,h2⟩
  ·subst h1 h2;exact .inl ⟨by rw[hn];exact zLd _,by rw[hn];exact zLd _,v2⟩
  ·have:=(h.mn k e h2).2
   exact .inr ⟨h2,hι k (by omega),fun _=>hk.keep (by simp)⟩
 ·rw[hM]at he he'
  rcases zD he with ⟨h1,h2⟩|⟨h1,h2⟩<;>rcases zD he' with ⟨h3,h4⟩|⟨h3,h4⟩
  ·omega
  ·subst h1
   rw[xI,hι k' (Ne.symm h3)]at fH;exact zLh fH.symm (hτ k' e' h4)
  ·subst h3
   rw[xI,hι k (Ne.symm h1)]at fH;exact zLh fH (hτ k e h2)
  ·rw[hι k (Ne.symm h1),hι k' (Ne.symm h3)]at fH
   exact h.inj k k' e e' h2 h4 ho ho' fH
 ·rw[hM]at he
  rcases zD he with ⟨h1,h2⟩|⟨h1,h2⟩
  ·subst h1;rw[xI];exact aI
  ·rw[hι k (Ne.symm h1)];exact h.pos k e h2 ho
theorem RelX.obj(h:RelX F s a w X)(hE:Ext w w'){d:Option Tmp}(hd:F.dst d){v u:Value}{mv:MV}{φ:AV}{O':zR}{τ:Nat}(hB:Base F.A F.O0 F.w0 O' w')(hk:KX none X.O w O' w')(aI:τ≠0/\τ≠F.x.st)(hτ:∀k e,look s.M k=some e->X.ι k≠τ)
  (hv:∀X':Cx,X'.P=X.P->X'.A=X.A->X'.F=X.F->X'.O=O'->X'.n=s.n+1->(∀k,k<s.n->X'.U k=X.U k)->X'.U s.n=u->X'.ι s.n=τ->X.le w X' w'->φ.holds X' w' v/\mv.holds X' w' s.n):Rel F (s.obj d mv φ) (a.put d v) w' :=
 let ⟨X',h',_⟩:=h.zHV hE hd hB hk aI hτ hv
 ⟨X',h'⟩
theorem RelX.KJ(h:RelX F s a w X){d:Option Tmp}(hd:F.dst d){v u:Value}{mv:MV}{φ:AV}{O':zR}{τ:Nat}(hB:Base F.A F.O0 F.w0 O' w')(hk:KX (some τ) X.O w O' w')(aI:τ≠0/\τ≠F.x.st)(hτ:∀k e,look s.M k=some e->X.ι k≠τ)
  (hv:∀X':Cx,X'.P=X.P->X'.A=X.A->X'.F=X.F->X'.O=O'->X'.n=s.n+1->(∀k,k<s.n->X'.U k=X.U k)->X'.U s.n=u->X'.ι s.n=τ->X.le w X' w'->φ.holds X' w' v/\mv.holds X' w' s.n):Rel F (s.KJ d mv φ) (a.put d v) w':=by
 have h0:zb 0 X.O w O' w':=hk.keep (by simpa using aI.1.symm)
 let X':Cx:={ X with O:=O',U:=qu X.U s.n u,ι:=qu X.ι s.n τ,n:=s.n+1,ep:=s.n }
 have hU:∀k,k<s.n->X'.U k=X.U k:=fun k hk=>Y3 _ _ (by omega)
 have hι:∀k,k≠s.n->X'.ι k=X.ι k:=fun k hk=>Y3 _ _ hk
 have xI:X'.ι s.n=τ:=gM _ _ _;have fT:X.le w X' w':=⟨rfl,h0,fun k hk=>hU k (by rw[<-h.n];exact hk),by rw[h.n];exact zLc _,rfl⟩
 obtain⟨v1,v2⟩:=hv X' rfl rfl rfl rfl rfl hU (gM _ _ _) (gM _ _ _) fT;have hM:(s.KJ d mv φ).M=(s.n,s.n,mv)::s.M:=by cases d<;>rfl
 have hn:(s.KJ d mv φ).n=s.n+1:=by cases d<;>rfl
 have xG:(s.KJ d mv φ).ep=s.n:=by cases d<;>rfl
 refine⟨X',h.go (ZH h.fit d v) rfl rfl rfl (fun j hj=>hk.keep (by rcases hj with rfl|rfl;simpa using aI.1.symm;simpa using aI.2.symm)) hU hn.symm xG.symm (by omega) (by omega) hB (fun hf=>zLh (by rwa[xG]at hf:s.n<=F.fe) (Nat.not_le.2 h.fe)) (fun t φ hp=>jN fun e=>(hd _ e).2 φ hp) (fun t e he=>?_) (fun k e he=>?_) (fun k k' e e' he he' ho ho' fH=>?_) (fun k e he ho=>?_)⟩
 ·cases d with
  |none =>
   refine .inr ⟨he,rfl,fun fY hf=>?_⟩
   have:=h.ln t e he;simp only[fresh,fY,Bool.not_true,Bool.false_or]at hf;rw[je]at hf;have hf':s.n<=e.1:=of_decide_eq_true hf
   omega
  |some d =>
   rcases zD he with ⟨h1,h2⟩|⟨h1,h2⟩
   ·subst h1 h2
    exact .inl ⟨zLd _,fun _=>by rw[yV h.fit (hd d rfl).1];exact v1⟩
   ·refine .inr ⟨h2,vi h1 v,fun fY hf=>?_⟩
    have:=h.ln t e h2;simp only[fresh,fY,Bool.not_true,Bool.false_or]at hf;rw[je]at hf;have hf':s.n<=e.1:=of_decide_eq_true hf
    omega
 ·rw[hM]at he
  rcases zD he with ⟨h1,h2⟩|⟨h1,h2⟩
  ·subst h1 h2;exact .inl ⟨by rw[hn];exact zLd _,by rw[hn];exact zLd _,v2⟩
  ·have:=(h.mn k e h2).2
   exact .inr ⟨h2,hι k (by omega),fun _=>hk.keep (by simpa using hτ k e h2)⟩
 ·rw[hM]at he he'
  rcases zD he with ⟨h1,h2⟩|⟨h1,h2⟩<;>rcases zD he' with ⟨h3,h4⟩|⟨h3,h4⟩
  ·omega
  ·subst h1
   rw[xI,hι k' (Ne.symm h3)]at fH;exact zLh fH.symm (hτ k' e' h4)
  ·subst h3
   rw[xI,hι k (Ne.symm h1)]at fH;exact zLh fH (hτ k e h2)
  ·rw[hι k (Ne.symm h1),hι k' (Ne.symm h3)]at fH
   exact h.inj k k' e e' h2 h4 ho ho' fH
 ·rw[hM]at he
  rcases zD he with ⟨h1,h2⟩|⟨h1,h2⟩
  ·subst h1;rw[xI];exact aI
  ·rw[hι k (Ne.symm h1)];exact h.pos k e h2 ho
theorem zo.zHz{k:Nat}{r:GR α}{T:Nat}{B B':Nat->Prop}{O w u}{xs:List α}(h:zo k r T B O w u xs)(hB:∀g,B g->B' g):zo k r T B' O w u xs:=by
 obtain⟨vs,h1,h2,h3⟩:=h;exact⟨vs,h1,h2,fun g hg=>⟨(h3 g hg).1,hB g (h3 g hg).2⟩⟩
theorem RelX.Cr(h:RelX F s a w X)(hE:Ext w w'){d:Option Tmp}(hd:F.dst d){v u:Value}{t:Ty}{T:TypeId}{xs:List t.D}{φ:AV}(hu:kx (t.gr X.P) T w.heap.size X.O w' u xs)
  (hφ:∀X':Cx,X'.P=X.P->X.le w X' w'->X'.U s.n=u->s.n<X'.n->u.oneCell'=true->φ.holds X' w' v):Rel F (s.obj d (.sl true t T xs) φ) (a.put d v) w':=by
 obtain⟨τ,h0,h1⟩:=ZD X.ι s.M F.x.st;obtain⟨O',hB',hk,hO⟩:=zBi h.ok0 h.base hE hu rfl τ h0.1;refine h.obj hE hd (u:=u) hB' hk h0 h1 fun X' e1 e2 e3 e4 e5 e6 e7 e8 fT=>⟨hφ X' e1 fT e7 (by omega) ?_,?_⟩
 ·exact ZG hO
 ·show zo _ _ _ _ _ _ _ _
  rw[e7,e8,e1,e4];show zo _ _ _ (X'.F) _ _ _ _
  rw[e3,h.Fn];exact hO
theorem RelX.zAr(h:RelX F s a w X)(hE:Ext w w'){d:Option Tmp}(hd:F.dst d){v:Value}{T:TypeId}{cs:Array Value}{c:AV}(hv:(SP.box w.heap.size cs T).holds w' v)(hc:(c.sem X w).c cs.toList)(hf:c.zg=false):Rel F (s.obj d (.bx true c T) (.bx s.n 0)) (a.put d v) w':=by
 obtain⟨τ,h0,h1⟩:=ZD X.ι s.M F.x.st;obtain⟨O',b,hB',hk,hb,hO⟩:=zEW h.ok0 h.base hE hv τ h0.1;refine h.obj hE hd (u:=v) hB' hk h0 h1 fun X' e1 e2 e3 e4 e5 e6 e7 e8 fT=>⟨?_,?_⟩
 ·exact⟨by omega,b,by rw[e7];exact hb,hb⟩
 ·refine⟨b,cs,by rw[e7];exact hb,?_,(c.mono fT fun h=>by rw[hf]at h;cases h).2.2 _ hc,hf⟩
  rw[e8,e4];show OwnB _ X'.F _ _ _ _ _
  rw[e3,h.Fn];exact hO
theorem RelX.mod(h:RelX F s a w X){k:Nat}{e0:Nat×MV}(xO:look s.M k=some e0)(d9:e0.2.own=true){mv:MV}{O':zR}(hB:Base F.A F.O0 F.w0 O' w')(hk:KX (some (X.ι k)) X.O w O' w')
  (hv:∀X':Cx,X'.P=X.P->X'.A=X.A->X'.F=X.F->X'.O=O'->X'.U=X.U->X'.ι=X.ι->X.le w X' w'->mv.holds X' w' k):Rel F (s.mod k mv) a w':=by
 have hp:=h.pos k e0 xO d9;have h0:zb 0 X.O w O' w':=hk.keep (by simpa using hp.1.symm)
 let X':Cx:={ X with O:=O',n:=s.n+1,ep:=s.n }
 have fT:X.le w X' w':=⟨rfl,h0,fun _ _=>rfl,by rw[h.n];exact zLc _,rfl⟩
 have gF:=(h.mn k e0 xO).2;refine⟨X',h.go h.fit rfl rfl rfl (fun j hj=>hk.keep (by rcases hj with rfl|rfl;simpa using hp.1.symm;simpa using hp.2.symm)) (fun _ _=>rfl) rfl rfl (zLc _) (zLc _) hB (fun hf=>zLh (hf:s.n<=F.fe) (Nat.not_le.2 h.fe)) (fun _ _ _=>rfl) (fun t e he=>.inr ⟨he,rfl,fun fY hf=>?_⟩) (fun k' e he=>?_) (fun j k' e e' he he' ho ho' fH=>?_) (fun k' e he ho=>?_)⟩
 ·have:=h.ln t e he
  simp only[fresh,fY,Bool.not_true,Bool.false_or]at hf;rw[je]at hf;have hf':s.n<=e.1:=of_decide_eq_true hf
  omega
 ·rcases zD he with ⟨h1,h2⟩|⟨h1,h2⟩
  ·subst h1 h2;exact .inl ⟨zLd _,Nat.lt_succ_of_lt gF,hv X' rfl rfl rfl rfl rfl rfl fT⟩
  ·refine .inr ⟨h2,rfl,fun ho=>hk.keep ?_⟩
   intro e1;simp only[zLo]at e1;exact h1 (h.inj k k' e0 e xO h2 d9 ho e1.symm)
 ·rcases zD he with ⟨h1,h2⟩|⟨h1,h2⟩<;>rcases zD he' with ⟨h3,h4⟩|⟨h3,h4⟩
  ·omega
  ·subst h1;exact h.inj _ k' e0 e' xO h4 d9 ho' fH
  ·subst h3;exact h.inj j _ e e0 h2 xO ho d9 fH
  ·exact h.inj j k' e e' h2 h4 ho ho' fH
 ·rcases zD he with ⟨h1,h2⟩|⟨h1,h2⟩
  ·subst h1;exact hp
  ·exact h.pos k' e h2 ho
theorem RelX.ren(h:RelX F s a w X){d:Option Tmp}(hd:F.dst d){u:Value}{k:Nat}{e0:Nat×MV}(xO:look s.M k=some e0)(d9:e0.2.own=true){mv:MV}{O':zR}(hB:Base F.A F.O0 F.w0 O' w')(hk:KX (some (X.ι k)) X.O w O' w')(h1u:u.oneCell'=true)
  (hv:∀X':Cx,X'.P=X.P->X'.A=X.A->X'.F=X.F->X'.O=O'->X'.U s.n=u->X'.ι s.n=X.ι k->X.le w X' w'->mv.holds X' w' s.n):Rel F (s.ren d k mv) (a.put d u) w':=by
 have hp:=h.pos k e0 xO d9;have h0:zb 0 X.O w O' w':=hk.keep (by simpa using hp.1.symm)
 let X':Cx:={ X with O:=O',U:=qu X.U s.n u,ι:=qu X.ι s.n (X.ι k),n:=s.n+1,ep:=s.n }
 have hU:∀k,k<s.n->X'.U k=X.U k:=fun k hk=>Y3 _ _ (by omega)
 have hι:∀k,k≠s.n->X'.ι k=X.ι k:=fun k hk=>Y3 _ _ hk
 have xI:X'.ι s.n=X.ι k:=gM _ _ _;have fT:X.le w X' w':=⟨rfl,h0,fun k hk=>hU k (by rw[<-h.n];exact hk),by rw[h.n];exact zLc _,rfl⟩
 have gF:=(h.mn k e0 xO).2;have hM:(s.ren d k mv).M=(s.n,s.n,mv)::(k,s.n,.dead)::s.M:=by cases d<;>rfl
 have hn:(s.ren d k mv).n=s.n+1:=by cases d<;>rfl
 have xG:(s.ren d k mv).ep=s.n:=by cases d<;>rfl
 have old:∀ {j e},look (s.ren d k mv).M j=some e->(j=s.n/\(s.n,mv)=e)\/(j=k/\e.2.own=false/\e.1=s.n/\e.2=.dead)\/(j≠s.n/\j≠k/\look s.M j=some e):=by
  intro j e he;rw[hM]at he;rcases zD he with ⟨h1,h2⟩|⟨h1,h2⟩
  ·exact .inl ⟨h1.symm,h2⟩
  ·rcases zD h2 with ⟨h3,h4⟩|⟨h3,h4⟩
   ·exact .inr (.inl ⟨h3.symm,by rw[<-h4];rfl,by rw[<-h4],by rw[<-h4]⟩)
   ·exact .inr (.inr ⟨Ne.symm h1,Ne.symm h3,h4⟩)
 refine⟨X',h.go (ZH h.fit d u) rfl rfl rfl (fun j hj=>hk.keep (by rcases hj with rfl|rfl;simpa using hp.1.symm;simpa using hp.2.symm)) hU hn.symm xG.symm (by omega) (by omega) hB (fun hf=>zLh (by rwa[xG]at hf:s.n<=F.fe) (Nat.not_le.2 h.fe)) (fun t φ hp=>jN fun e=>(hd _ e).2 φ hp) (fun t e he=>?_) (fun j e he=>?_) (fun j k' e e' he he' ho ho' fH=>?_) (fun j e he ho=>?_)⟩
 ·cases d with
  |none =>
   refine .inr ⟨he,rfl,fun fY hf=>?_⟩
   have:=h.ln t e he;simp only[fresh,fY,Bool.not_true,Bool.false_or]at hf;rw[je]at hf;have hf':s.n<=e.1:=of_decide_eq_true hf
   omega
  |some d =>
   rcases zD he with ⟨h1,h2⟩|⟨h1,h2⟩
   ·subst h1 h2
    exact .inl ⟨zLd _,fun _=>by rw[yV h.fit (hd d rfl).1];exact⟨(gM _ _ _).symm,zLd _,h1u⟩⟩
   ·refine .inr ⟨h2,vi h1 u,fun fY hf=>?_⟩
    have:=h.ln t e h2;simp only[fresh,fY,Bool.not_true,Bool.false_or]at hf;rw[je]at hf;have hf':s.n<=e.1:=of_decide_eq_true hf
    omega
 ·rcases old he with ⟨h1,h2⟩|⟨h1,h2,h3,h4⟩|⟨h1,h2,h3⟩
  ·subst h1 h2;exact .inl ⟨by rw[hn];exact zLd _,by rw[hn];exact zLd _,hv X' rfl rfl rfl rfl (gM _ _ _) xI fT⟩
  ·exact .inl ⟨by rw[hn,h3];exact zLd _,by rw[hn,h1];omega,by rw[h4];trivial⟩
  ·refine .inr ⟨h3,hι j h1,fun ho=>hk.keep ?_⟩
   intro e1;simp only[zLo]at e1;exact h2 (h.inj j k e e0 h3 xO ho d9 e1)
 ·rcases old he with ⟨h1,h2⟩|⟨h1,h2,_⟩|⟨h1,h2,h3⟩
  ·rcases old he' with ⟨h4,h5⟩|⟨h4,h5,_⟩|⟨h4,h5,h6⟩
   ·omega
   ·rw[ho']at h5;cases h5
   ·rw[h1,xI,hι k' h4]at fH
    exact zLh (h.inj k k' e0 e' xO h6 d9 ho' fH).symm h5
  ·rw[ho]at h2;cases h2
  ·rcases old he' with ⟨h4,h5⟩|⟨h4,h5,_⟩|⟨h4,h5,h6⟩
   ·rw[h4,xI,hι j h1]at fH
    exact zLh (h.inj j k e e0 h3 xO ho d9 fH) h2
   ·rw[ho']at h5;cases h5
   ·rw[hι j h1,hι k' h4]at fH
    exact h.inj j k' e e' h3 h6 ho ho' fH
 ·rcases old he with ⟨h1,h2⟩|⟨h1,h2,_⟩|⟨h1,h2,h3⟩
  ·rw[h1,xI];exact hp
  ·rw[ho]at h2;cases h2
  ·rw[hι j h1];exact h.pos j e h3 ho
theorem Inv.Cc(s:S)(k:Nat):Inv s (s.Cc k):=by
 unfold S.Cc;split
 ·exact⟨zLc _,ya,vZ ya⟩
 ·exact⟨zLc _,ya,vZ ya⟩
 ·exact Inv.refl s
theorem Inv.XR:∀(l:List Nat) (s:S),Inv s (s.XR l)
 | [],s=>Inv.refl s
 |k::l,s=>(Inv.Cc s k).trans (Inv.XR l _)
theorem Rel.Cc(h:Rel F s a w)(k:Nat):Rel F (s.Cc k) a w:=by
 unfold S.Cc;split
 ·rename_i st t T xs hk
  obtain⟨X,h⟩:=h;have hO:zo (X.ι k) (t.gr X.P) T (X.B true) X.O w (X.U k) xs:=h.m k _ hk
  have hp:=h.pos k _ hk rfl
  change zo _ _ _ X.F _ _ _ _ at hO
  rw[h.Fn]at hO;obtain⟨O',hB,sU,hv⟩:=V1 h.ok0 h.base hO hp.1;have h0:zb 0 X.O w O' w:=sU.keep (by simpa using hp.1.symm)
  let X':Cx:={ X with O:=O',n:=s.n+1 }
  have gF:=(h.mn k _ hk).2;refine⟨X',h.go h.fit rfl rfl rfl (fun j hj=>sU.keep (by rcases hj with rfl|rfl;simpa using hp.1.symm;simpa using hp.2.symm)) (fun _ _=>rfl) rfl h.ep (zLc _) (Nat.le_succ_of_le h.epn) hB (fun hf=>⟨hf,Ext.refl _⟩) (fun _ _ _=>rfl) (fun t e he=>.inr ⟨he,rfl,fun _ hf=>⟨hf,Ext.refl _⟩⟩) (fun k' e he=>?_) (fun j k' e e' he he' ho ho' fH=>?_) (fun k' e he ho=>?_)⟩
  ·rcases zD he with ⟨h1,h2⟩|⟨h1,h2⟩
   ·subst h1 h2;exact .inl ⟨zLd _,Nat.lt_succ_of_lt gF,hv⟩
   ·refine .inr ⟨h2,rfl,fun ho=>sU.keep ?_⟩
    intro e1;simp only[zLo]at e1;exact h1 (h.inj k k' _ e hk h2 rfl ho e1.symm)
  ·rcases zD he with ⟨h1,h2⟩|⟨h1,h2⟩
   ·rw[<-h2]at ho;cases ho
   ·rcases zD he' with ⟨h3,h4⟩|⟨h3,h4⟩
    ·rw[<-h4]at ho';cases ho'
    ·exact h.inj j k' e e' h2 h4 ho ho' fH
  ·rcases zD he with ⟨h1,h2⟩|⟨h1,h2⟩
   ·rw[<-h2]at ho;cases ho
   ·exact h.pos k' e h2 ho
 ·rename_i st a' b' xs hk
  obtain⟨X,h⟩:=h;have hO:Z5 (X.ι k) (gX a') (b'.gr X.P) (X.B true) X.O w (X.U k) xs:=h.m k _ hk
  have hp:=h.pos k _ hk rfl;obtain⟨c,es,clock,m1,m2,m3,m4,m5⟩:=hO;have hc:F.w0.heap.size<=c:=by
   have:X.F c:=m4;rw[h.Fn]at this;exact this
  let O':=tag X.O (some c) 0
  have sU:KX (some (X.ι k)) X.O w O' w:=KX.free fun g hg=>by cases hg;exact m5
  have hB:Base F.A F.O0 F.w0 O' w:=h.base.SN h.ok0 (fun g hg=>by cases hg;exact h.base.new c hc) fun g hg gF=>by cases hg;omega
  have hv:((Ty.mp a' b').gr X.P).v O' w (X.U k) xs:=⟨_,.inr ⟨c,es,clock,rfl,m2,m3.mono (sU.keep (by simpa using hp.1.symm)),yg _ _ _⟩,m1⟩
  have h0:zb 0 X.O w O' w:=sU.keep (by simpa using hp.1.symm)
  let X':Cx:={ X with O:=O',n:=s.n+1 }
  have gF:=(h.mn k _ hk).2;refine⟨X',h.go h.fit rfl rfl rfl (fun j hj=>sU.keep (by rcases hj with rfl|rfl;simpa using hp.1.symm;simpa using hp.2.symm)) (fun _ _=>rfl) rfl h.ep (zLc _) (Nat.le_succ_of_le h.epn) hB (fun hf=>⟨hf,Ext.refl _⟩) (fun _ _ _=>rfl) (fun t e he=>.inr ⟨he,rfl,fun _ hf=>⟨hf,Ext.refl _⟩⟩) (fun k' e he=>?_) (fun j k' e e' he he' ho ho' fH=>?_) (fun k' e he ho=>?_)⟩
  ·rcases zD he with ⟨h1,h2⟩|⟨h1,h2⟩
   ·subst h1 h2;exact .inl ⟨zLd _,Nat.lt_succ_of_lt gF,hv⟩
   ·refine .inr ⟨h2,rfl,fun ho=>sU.keep ?_⟩
    intro e1;simp only[zLo]at e1;exact h1 (h.inj k k' _ e hk h2 rfl ho e1.symm)
  ·rcases zD he with ⟨h1,h2⟩|⟨h1,h2⟩
   ·rw[<-h2]at ho;cases ho
   ·rcases zD he' with ⟨h3,h4⟩|⟨h3,h4⟩
    ·rw[<-h4]at ho';cases ho'
    ·exact h.inj j k' e e' h2 h4 ho ho' fH
  ·rcases zD he with ⟨h1,h2⟩|⟨h1,h2⟩
   ·rw[<-h2]at ho;cases ho
   ·exact h.pos k' e h2 ho
 ·exact h
theorem Rel.XR:∀(l:List Nat) {s:S},Rel F s a w->Rel F (s.XR l) a w
 | [],_,h=>h
 |k::l,_,h=>Rel.XR l (h.Cc k)
abbrev Frm.sys(F:Frm)(q:Nat->Obj->Prop):Frm:={ F with x:={ F.x with sys:=q } }
theorem RelX.turn(h:RelX F s a w X){b:Nat}{o':Obj}{q:Nat->Obj->Prop}(hb:X.O b=F.x.st)(sB:F.w0.heap.size<=b)(gF:b<w.heap.size)(hq:∀c o,q c o->(c≠b/\F.x.sys c o)\/(c=b/\o=o'/\F.x.sb<=b)) :
  RelX (F.sys q) { s with n:=s.n+1,ep:=s.n } a (w.putObj b o') { X with n:=s.n+1,ep:=s.n }:=by
 have f8:(w.putObj b o').heap.size=w.heap.size:=World.putObj_size;have hK:∀k,k≠F.x.st->zb k X.O w X.O (w.putObj b o'):=fun k hk=>⟨by rw[f8];exact zLT _,fun c hc hO=>⟨hO,World.putObj_heap_other fun e=>hk (by rw[<-hO,e,hb])⟩⟩
 let X':Cx:={ X with n:=s.n+1,ep:=s.n }
 have fT:X.le w X' (w.putObj b o'):=⟨rfl,hK 0 h.ex.st.symm,fun _ _=>rfl,by rw[h.n];exact zLc _,rfl⟩
 refine⟨h.P,h.A,h.Fn,rfl,rfl,h.ok0,h.fit,?_,fun t e he hf=>?_,fun k e he=>?_,fun t e he=>Nat.lt_succ_of_lt (h.ln t e he),fun k e he=>⟨Nat.lt_succ_of_lt (h.mn k e he).1,Nat.lt_succ_of_lt (h.mn k e he).2⟩,h.inj,h.pos,zLc _,Nat.lt_succ_of_lt h.fe,fun t φ hp hf=>?_,⟨Nat.le_succ_of_le h.bl.1,h.bl.2⟩,?_⟩
 ·have hB:=h.base
  refine⟨hB.os,hB.tape,hB.output,by rw[f8];exact hB.size,fun c hc hA=>?_,fun c hc=>hB.ok c (by rw[f8]at hc;exact hc),hB.old,fun c hc=>hB.zero c (by rw[f8]at hc;exact hc),hB.new⟩
  rw[World.putObj_heap_other (fun e=>by subst e;exact zLh hc (Nat.not_lt.2 sB))];exact hB.block c hc hA
 ·have t6:e.2.zg=false:=by
   cases fY:e.2.zg with
   |false=>rfl
   |true =>
    simp only[fresh,fY,Bool.not_true,Bool.false_or]at hf;rw[je]at hf;have hf':s.n<=e.1:=of_decide_eq_true hf
    have:=h.ln t e he;omega
  exact e.2.le t6 fT (h.l t e he (by simp[fresh,t6]))
 ·exact MV.le fT (by rw[h.n];exact(h.mn k e he).2) rfl rfl rfl _ (fun ho=>hK _ (h.pos k e he ho).2) (h.m k e he)
 ·have t6:φ.zg=false:=by
   cases fY:φ.zg with
   |false=>rfl
   |true=>exact zLh (hf fY) (Nat.not_le.2 h.fe)
  exact φ.le t6 fT (h.lh t φ hp fun fY=>by rw[t6]at fY;cases fY)
 ·refine⟨h.ex.st,fun c o hc=>?_,fun v φ hv=>⟨(h.ex.kv v φ hv).1,φ.le (h.ex.kv v φ hv).1 fT (h.ex.kv v φ hv).2⟩,h.ex.since.trans fT.k,h.ex.L⟩
  rcases hq c o hc with ⟨h1,h2⟩|⟨h1,h2,h3⟩
  ·exact⟨⟨(World.putObj_heap_other h1).trans (h.ex.sys c o h2).1.1,(h.ex.sys c o h2).1.2⟩,(h.ex.sys c o h2).2⟩
  ·subst h1 h2;exact⟨⟨World.putObj_heap_same gF,hb⟩,h3⟩
end
def AV.q8:AV->Bool
 |.ex v=>v.cells.toList.all Value.oneCell'
 |.ag l=>l.q8
 |.pr a b=>a.q8 && b.q8
 |.rd .. | .pt .. | .ob _|.bx .. | .ba .. | .el .. | .cl .. | .un|.em _=>true
 |_=>false
theorem AV.Q5{X:Cx}{w:World}(φ:AV):φ.q8=true->∀ {cs},(φ.sem X w).c cs->∀c∈cs,c.oneCell'=true:=by
 have one_case:∀ {q:Value->Prop} {cs:List Value},(one q).c cs->∀c∈cs,c.oneCell'=true:=by
  intro q cs h c hc;obtain⟨u,h1,h2,_⟩:=h;rw[h1]at hc;simp at hc;subst hc;exact h2
 induction φ with
 |rd t x=>intro _ cs h;exact(t.gr X.P).one h
 |ex v=>intro ho cs h c hc;rw[show cs=_ from h]at hc;exact zLw.1 ho c hc
 |ag l ih=>intro ho cs h;exact ih ho h
 |un=>intro _ cs h c hc;rw[show cs=[] from h]at hc;cases hc
 |pr a b iha ihb =>
  intro ho cs h c hc;simp only[AV.q8,zLR]at ho;obtain⟨c1,c2,h1,h2,h3⟩:=h;rw[h1,zLa]at hc;exact hc.elim (iha ho.1 h2 c) (ihb ho.2 h3 c)
 |tp l=>intro ho;cases ho
 |top=>intro ho;cases ho
 |nb p e=>intro ho;cases ho
 |pq t x=>intro ho;cases ho
 |yl=>intro ho;cases ho
 |_=>intro _ cs h;exact one_case h
def zc:(t:Ty)->Bool->List Value->Option (AV×List Value)
 |.cons a b,q,cs=>match zc a true cs with
  |some (φ,r)=>match zc b false r with
   |some (ψ,r)=>some (qy q (.pr φ ψ),r)
   |none=>none
  |none=>none
 |.nil,q,cs=>some (qy q .un,cs)
 |.arr n e,_,cs=>match Zo (.arr n e) cs with
  |some (x,r)=>some (.rd (.arr n e) x,r)
  |none=>none
 |_,_,cs=>match cs with
  | []=>none
  |c::r=>match c.oneCell' with
   |true=>some (AV.ofC c,r)
   |false=>none
theorem E9{q:Bool}{l:AV}:(qy q l).zg=l.zg:=by cases q<;>rfl
theorem zGh{c:Value}:(AV.ofC c).zg=false:=by cases c<;>rfl
theorem zAQ{X:Cx}{w:World}:∀ {t:Ty} {q:Bool} {cs r:List Value} {φ:AV},zc t q cs=some (φ,r)->(∃c1,cs=c1++r/\(φ.sem X w).c c1)/\φ.zg=false:=by
 intro t;have leaf:∀ {cs r:List Value} {φ:AV},(match cs with | []=>none|c::r=>match c.oneCell' with|true=>some (AV.ofC c,r)|false=>none)=some (φ,r)->(∃c1,cs=c1++r/\(φ.sem X w).c c1)/\φ.zg=false:=by
  intro cs r φ h;split at h
  ·cases h
  ·rename_i c r'
   split at h
   ·rename_i h1;cases h;exact⟨⟨[c],rfl,zAo h1⟩,zGh⟩
   ·cases h
 induction t with
 |cons a b iha ihb =>
  intro q cs r φ h;simp only[zc]at h;split at h
  ·rename_i φ1 r1 h1
   split at h
   ·rename_i ψ r2 h2
    cases h
    obtain⟨⟨c1,e1,k1⟩,f1⟩:=iha h1;obtain⟨⟨c2,e2,k2⟩,f2⟩:=ihb h2;refine⟨⟨c1++c2,by rw[e1,e2,zLl],?_⟩,by rw[E9];simp[AV.zg,f1,f2]⟩
    rw[nh];exact⟨c1,c2,rfl,k1,k2⟩
   ·cases h
  ·cases h
 |nil =>
  intro q cs r φ h;simp only[zc]at h;cases h;exact⟨⟨[],rfl,by rw[nh];rfl⟩,by rw[E9];rfl⟩
 |arr n e ih =>
  intro q cs r φ h;simp only[zc]at h;split at h
  ·rename_i x r' hx
   cases h
   obtain⟨c1,e1,k1⟩:=Jm X.P (.arr n e) hx;exact⟨⟨c1,e1,k1 X.O w⟩,rfl⟩
  ·cases h
 |_=>intro q cs r φ h;exact leaf h
def qw(i:TI):AV:=match zc i.τ true i.z.cells.toList with
 |some (φ,[])=>φ
 |_=>.ex i.z
theorem E7{X:Cx}{w:World}{i:TI}:((qw i).sem X w).c i.z.cells.toList:=by
 unfold qw;split
 ·rename_i φ h
  obtain⟨⟨c1,e1,k1⟩,_⟩:=zAQ (X:=X) (w:=w) h;rw[zLx]at e1;rw[e1];exact k1
 ·rfl
theorem E6{i:TI}:(qw i).zg=false:=by
 unfold qw;split
 ·rename_i φ h
  exact(zAQ (X:=⟨⟨default,#[]⟩,fun _=>0,fun _=>.nilIface,0,fun _=>0,fun _=>True,fun _=>True,0,0⟩) (w:=default) h).2
 ·rfl
def Yk:AV->Bool
 |.ex (.slice none 0 0)=>true
 |_=>false
theorem jU{φ:AV}(h:Yk φ=true):φ=.ex (.slice none 0 0):=by
 unfold Yk at h;split at h
 ·rfl
 ·cases h
section
variable {F:Frm} {s:S} {a:Act} {w:World} {X:Cx} {E:VE}
theorem RelX.rd(h:RelX F s a w X)(l:Array Operand):ZK X w a (rdO X.ep s.L [] []) l:=by
 intro x φ _ hx
 cases x with
 |tmp t =>
  simp only[rdO,Zy]at hx
  cases he:look s.L t with
  |none=>rw[he]at hx;cases hx
  |some e =>
   rw[he]at hx;simp only at hx
   cases hf:fresh X.ep e with
   |false=>rw[hf]at hx;cases hx
   |true=>rw[hf]at hx;cases hx;exact h.l t e he hf
 |const c=>cases hx;exact AV.wD _ _ _
 |global g=>cases hx
 |func f=>cases hx;exact⟨[],[],rfl,rfl,rfl⟩
theorem RelX.zGk(h:RelX F s a w X)(o:Oper):C0 s.L [] X w o a:=fun t _=>by
 simp only[Zy];exact fun e he hf=>h.l t e he hf
def gG(F:Frm)(s:S)(a:Act)(w:World)(o:Oper){β:Type}(c:Comp β)(k:S->Comp β):Prop :=
 ∀nf y,c.run nf=some y->∀(K:Act->World->Prop) (Q:Exit->Act->World->Prop),(∀s' v w',Rel F s' (a.put o.dst v) w'->Inv s s'->(k s').run nf=some y->K (a.put o.dst v) w')->o.wp F.P a w K Q
variable {d:Option Tmp} {T Y:TypeId} {pos:String} {aft:Array Edge} {g:Option (Nat×Bool)} {k:S->Comp β}
def nG(v:VR)(s:S)(d:Option Tmp)(k:S->Comp β):Comp β:=match v with
 |.no=>Comp.fail
 |.tot φ=>k (s.put d φ)
 |.par t c mk=>c.bind fun x=>k (s.put d (mk x))
theorem M9(h:RelX F s a w X){o:Oper}(hd:F.dst o.dst){v:VR}(hv:VOk X w a o v):gG F s a w o (nG v s o.dst k) k:=by
 intro nf y hr K Q hK;rw[<-h.P]
 cases v with
 |no=>cases hr
 |tot φ=>exact hv K Q fun u w' hE hu=>hK _ _ _ ⟨_,h.val hE hd hu⟩ (Inv.put _ _ _) hr
 |par t c mk =>
  obtain⟨x,hx,hr⟩:=run_bind hr;exact hv nf x hx K Q fun u w' hE hu=>hK _ _ _ ⟨_,h.val hE hd hu⟩ (Inv.put _ _ _) hr
def uW(E:VE)(s:S)(d:Option Tmp)(Y:TypeId)(k:S->Comp β):Comp β:=match look E.T Y with
 |some i=>k (s.obj d (.bx true (qw i) Y) (.bx s.n 0))
 |none=>Comp.fail
theorem DK(hE:E.ok X.P)(h:RelX F s a w X)(hd:F.dst d):gG F s a w ⟨d,.alloc Y,T,pos,aft,g⟩ (uW E s d Y k) k:=by
 intro nf y hr K Q hK;rw[<-h.P];unfold uW at hr;split at hr
 ·rename_i i hi
  exact BX (zLT _) (hE.T Y i hi).ty K Q fun u w' pV hu=>hK _ _ _ (h.zAr pV hd hu E7 E6) (Inv.obj _ _ _ _) hr
 ·cases hr
def SY(s:S)(d:Option Tmp)(Y:TypeId)(φ:Option AV)(k:S->Comp β):Comp β:=match φ with
 |some φ=>match φ.IA && !φ.zg with
  |true=>k (s.obj d (.bx true φ Y) (.bx s.n 0))
  |false=>Comp.fail
 |none=>Comp.fail
theorem NH(h:RelX F s a w X)(hd:F.dst d){x:Operand}:gG F s a w ⟨d,.box Y x,T,pos,aft,g⟩ (SY s d Y (rdO s.ep s.L [] [] x) k) k:=by
 intro nf y hr K Q hK;rw[<-h.P];rw[<-h.ep]at hr;unfold SY at hr;split at hr
 ·rename_i φ hφ
  have k1:=h.rd #[x] x φ (by simp) hφ
  split at hr
  ·rename_i hc
   rw[zLR]at hc;exact zDZ (zLT _) rfl K Q fun u w' pV hu=>hK _ _ _ (h.zAr pV hd hu (AV.v_c hc.1 k1) (by simpa using hc.2)) (Inv.obj _ _ _ _) hr
  ·cases hr
 ·cases hr
def SX(E:VE)(s:S)(d:Option Tmp)(q:Option (TypeId×(t:Ty)×List t.D))(k:S->Comp β):Comp β:=match q with
 |some q=>k (s.obj d (.sl true q.2.1 q.1 q.2.2) (.ob s.n))
 |none=>Comp.fail
theorem NF(hE:E.ok X.P)(h:RelX F s a w X)(hd:F.dst d){n:Nat}{ps:Array (Nat×Operand)}:gG F s a w ⟨d,.buildSlice Y n ps,T,pos,aft,g⟩ (SX E s d (Ha E.T E.G s.M (rdO s.ep s.L [] []) Y n ps.toList) k) k:=by
 intro nf y hr K Q hK;rw[<-h.P];rw[<-h.ep]at hr;unfold SX at hr;split at hr
 ·rename_i q hq
  refine GB hE.T hE.G h.m h.okO (h.rd _) hq K Q fun u w' pV hu=>hK _ _ _ (h.Cr (φ:=.ob s.n) pV hd hu fun X' e1 fT e2 e3 e4=>⟨e2.symm,e3,e4⟩) (Inv.obj _ _ _ _) hr
 ·cases hr
def EH(E:VE)(s:S)(d:Option Tmp)(Y:TypeId)(x y:Operand)(m:Option (IntKind×Int))(k:S->Comp β):Comp β:=match look E.T Y with
 |none=>Comp.fail
 |some i=>match slD i.dd with
  |none=>Comp.fail
  |some e=>match look E.T e with
   |none=>Comp.fail
   |some j=>match m,ofV j.τ j.z with
    |some m,some z=>match Nat.blt 0 j.sz && (Nat.beq j.τ.sz j.sz && (Nat.ble j.by_ 131072 && Nat.beq j.z.cells.size j.sz)) with
     |true=>match uj x with
      |true=>(mk0 m.2).bind fun _=>k (s.obj d (.sl true j.τ e []) (.ob s.n))
      |false=>match Hu x y with
       |true=>(mk m.2 z).bind fun ys=>k (s.obj d (.sl true j.τ e ys) (.ob s.n))
       |false=>Comp.fail
     |false=>Comp.fail
    |_,_=>Comp.fail
theorem Ib(hE:E.ok X.P)(h:RelX F s a w X)(hd:F.dst d){x z:Operand}:gG F s a w ⟨d,.makeSlice Y x z,T,pos,aft,g⟩ (EH E s d Y x z ((rdO s.ep s.L [] [] z).bind AV.int?) k) k:=by
 intro nf y hr K Q hK;rw[<-h.P];rw[<-h.ep]at hr;unfold EH at hr;split at hr
 ·cases hr
 ·rename_i i hi
  have ht:=(hE.T Y i hi).ty;split at hr
  ·cases hr
  ·rename_i e he
   rw[kj he]at ht;split at hr
   ·cases hr
   ·rename_i j hj
    have ht':=(hE.T e j hj).ty;split at hr
    ·rename_i m zv hm hz
     have i7:=vM (h.rd #[z]) (by simp) hm
     split at hr
     ·rename_i hb
      simp only[zLR]at hb;obtain⟨b1,b2,b3,b4⟩:=hb;rw[zX]at b1;have b1:0<j.sz:=by simpa using b1
      have b2:=zLQ b2;have b3:=Nat.le_of_ble_eq_true b3
      have b4:=zLQ b4;obtain⟨E',hE'⟩:∃E',j.sz=E'+1:=⟨j.sz-1,by omega⟩
      rw[hE']at ht' b4;have f8:(j.τ.gr X.P).sz=E'+1:=by rw[Ty.yh,b2,hE']
      split at hr
      ·rename_i cL
       obtain⟨kk,rfl⟩:=tV cL;obtain⟨u0,h0,hr⟩:=run_bind hr;refine pA (r:=j.τ.gr X.P) (B:=w.heap.size) (O:=X.O) f8 ht ht' b3 (zLT _) rfl i7 h0 K Q fun u w' pV hu=>hK _ _ _ (h.Cr (φ:=.ob s.n) pV hd hu fun X' e1 fT e2 e3 e4=>⟨e2.symm,e3,e4⟩) (Inv.obj _ _ _ _) hr
      ·split at hr
       ·rename_i hs
        obtain rfl:=BE hs;obtain⟨ys,h0,hr⟩:=run_bind hr;refine BW (r:=j.τ.gr X.P) (B:=w.heap.size) (O:=X.O) f8 ht ht' b3 b4 (zLT _) i7 i7 (fun O w=>J8 _ hz O w) h0 K Q fun u w' pV hu=>hK _ _ _ (h.Cr (φ:=.ob s.n) pV hd hu fun X' e1 fT e2 e3 e4=>⟨e2.symm,e3,e4⟩) (Inv.obj _ _ _ _) hr
       ·cases hr
     ·cases hr
    ·cases hr
def apY(M:MS)(t:Ty)(φ:AV):Option (List t.D):=match Hb M φ with
 |some p=>(Ty.sl p.1).to (.sl t) p.2
 |none=>match uH M φ with
  |some p=>(Ty.sl p.2.2.1).to (.sl t) p.2.2.2
  |none=>match qb M φ with
   |some p=>(Ty.sl p.2.1).to (.sl t) p.2.2
   |none=>match Yk φ with
    |true=>some []
    |false=>none
theorem SO{P:Program}{t t':Ty}{xs:List t'.D}{ys:List t.D}(h:(Ty.sl t').to (.sl t) xs=some ys){O w u}(hx:Rd (t'.gr P) O w u xs):Rd (t.gr P) O w u ys:=by
 obtain⟨e,h1⟩:=Ty.jL h;cases e;cases h1;exact hx
theorem AE{M:MS}(hM:yD M X w){t:Ty}{φ:AV}{u:Value}(hu:φ.holds X w u){ys:List t.D}(h:apY M t φ=some ys):Rd (t.gr X.P) X.O w u ys:=by
 unfold apY at h;split at h
 ·rename_i p hp;exact SO h (Cm (qe hM hu hp))
 ·split at h
  ·rename_i p hp;exact SO h (Ja hM hu hp).1.choose_spec.rd
  ·split at h
   ·rename_i p hp;exact SO h (qD hM hu hp)
   ·split at h
    ·rename_i hn
     cases h
     rw[jU hn]at hu;rw[show u=_ from hu]
     exact Cm (uc _ _ _ _)
    ·cases h
def Xs(M:MS):AV->Option (Nat×Bool×TypeId×(t:Ty)×List t.D)
 |.ob k=>match look M k with
  |some (_,.sl nw t T xs)=>some (k,nw,T,⟨t,xs⟩)
  |_=>none
 |_=>none
theorem wy{M:MS}(hM:yD M X w){φ:AV}{u:Value}(hu:φ.holds X w u){p:Nat×Bool×TypeId×(t:Ty)×List t.D}(h:Xs M φ=some p) :
  ∃e,look M p.1=some e/\e.2=.sl p.2.1 p.2.2.2.1 p.2.2.1 p.2.2.2.2/\zo (X.ι p.1) (p.2.2.2.1.gr X.P) p.2.2.1 (X.B p.2.1) X.O w u p.2.2.2.2/\u=X.U p.1:=by
 unfold Xs at h;split at h
 ·split at h
  ·rename_i k _ st nw t T xs hk
   cases h
   have:=hM k _ hk;refine⟨_,hk,rfl,?_,hu.1⟩;rw[hu.1];exact this
  ·cases h
 ·cases h
def J0(j:TI)(t:Ty):Bool:=Nat.blt 0 j.sz && (Nat.beq t.sz j.sz && (Nat.ble j.by_ 131072 && Nat.beq j.z.cells.size j.sz))
def zAJ{α:Type}(ys:List α):Comp (List α):=match ys with
 | []=>Comp.fail
 |_=>app [] ys
def emT:AV->Option Ty
 |.em t=>some t
 |_=>none
theorem zEN{φ:AV}{t:Ty}(h:emT φ=some t):φ=.em t:=by
 unfold emT at h;split at h
 ·cases h;rfl
 ·cases h
def SZ(E:VE)(s:S)(d:Option Tmp)(Y:TypeId)(φ ψ:Option AV)(k:S->Comp β):Comp β:=match φ,ψ with
 |some φ,some ψ=>match look E.T Y with
  |none=>Comp.fail
  |some i=>match slD i.dd with
   |none=>Comp.fail
   |some e=>match look E.T e with
    |none=>Comp.fail
    |some j=>match Xs s.M φ with
     |some p=>match J0 j p.2.2.2.1 && Nat.beq p.2.2.1 e,apY s.M p.2.2.2.1 ψ with
      |true,some ys=>(app p.2.2.2.2 ys).bind fun zs=>k (s.ren d p.1 (.sl p.2.1 p.2.2.2.1 e zs))
      |_,_=>Comp.fail
     |none=>match Yk φ && J0 j j.τ,apY s.M j.τ ψ with
      |true,some ys=>(app [] ys).bind fun zs=>k (s.KJ d (.sl true j.τ e zs) (.ob s.n))
      |_,_=>match emT φ with
       |none=>Comp.fail
       |some _=>match J0 j j.τ,apY s.M j.τ ψ with
        |true,some ys=>(zAJ ys).bind fun zs=>k (s.KJ d (.sl true j.τ e zs) (.ob s.n))
        |_,_=>Comp.fail
 |_,_=>Comp.fail
theorem IP{P:Program}{α:Type}{A:Nat->Prop}{K:Act->World->Prop}{Q:Exit->Act->World->Prop}{x y:Operand}{t e E bytes k:Nat}{d0:Option Tmp}{g0:Option (Nat×Bool)}{dd:TypeDesc}{z z':Value}{sz by_:Nat}{r:GR α}(hr:r.fits)(hE:r.sz=E+1)(hT:Eng.Ty P t (.slice e) z sz by_)(he:Eng.Ty P e dd z' (E+1) bytes)(hz:z'.cells.size=E+1)(aG:bytes<=131072)
  {O O0:zR} {w0:World} (tU:OkO O0 w0) (hB:Base A O0 w0 O w) {B:Nat->Prop} (t8:OkB A w0 B) (hx:∃p,a.eval x=.slice p 0 0/\(p=none\/∃b off,p=some ⟨b,off,none⟩)) {u':Value} {ys zs:List α} (hy:a.eval y=u') (hN:Rd r O w u' ys) {n:Nat} (a7:(zAJ ys).run n=some zs) (hk:k≠0)
  (hK:∀u2 w2 O2,zo k r e B O2 w2 u2 zs->Base A O0 w0 O2 w2->KX (some k) O w O2 w2->K (a.put d0 u2) w2):Oper.wp P ⟨d0,.call ⟨.builtin .append,#[x,y],#[t,t]⟩,T,pos,aft,g0⟩ a w K Q:=by
 cases ys with
 |nil=>cases a7
 |cons y0 ys =>
 change (app [] (y0::ys)).run n=some zs at a7
 obtain⟨hl,hzs⟩:=GQ a7;unfold LIM at hl;have hO:zo k r e B O w (.slice none 0 0) []:=zo.nil _ _ _ _ _ _
 have sT:=hO.ge;have x4:=hO.tagged
 obtain⟨us,h4,h5⟩:=hN;have sZ:=h5.len
 have hb:(([]:List Value).length+us.length) * bytes<=1073741824 * 131072:=Nat.mul_le_mul (by simpa[sZ] using hl) aG
 rw[hE]at h4;obtain⟨u2,w2,fI,h6,h7⟩:=XZ (ty:=T) (B:=0) hT he hz (OwnS.nil w 0 e (E+1)) h4 (h5.one hr) (by omega) (by simp only[List.length_nil,Nat.zero_add];simp only[List.length_nil,Nat.zero_add]at hl;omega) (Nat.zero_le _)
 have hrun':(Builtin.append_ #[t,t] T #[a.eval x,u']).run P w=.ok u2 w2:=by
  obtain⟨p,hp,hp2⟩:=hx;rw[hp];rcases hp2 with rfl|⟨b,off,rfl⟩
  ·exact fI
  ·obtain⟨q,cap,hu',sX,aX,xW⟩:=h4
   have fC:us≠[]:=fun e=>by rw[e]at sZ;simp at sZ
   rcases xW with h|⟨b',off',hq,hc⟩
   ·exact zLh h fC
   ·subst hq
    obtain⟨i,hi,aA,f8,hby'⟩:=he.info;have aH:=yQ aX
    have xH:∀j v,(flat us)[j]?=some v->w.cell? ((⟨b',off',none⟩:Addr).add j)=some v:=by
     intro j v hj;have hjl:j<us.length * (E+1):=by
      have:=(zLX.1 hj).1;rwa[aH]at this
     have hq:j / (E+1)<us.length:=Nat.div_lt_of_lt_mul (by rw[Nat.mul_comm];exact hjl)
     have hr':j % (E+1)<E+1:=Nat.mod_lt _ (by omega)
     have hx:us[j / (E+1)]?=some us[j / (E+1)]:=zLv hq;have e1:j / (E+1) * (E+1)+j % (E+1)=j:=by rw[Nat.mul_comm];exact Nat.div_add_mod j (E+1)
     have h2:=hc _ _ hx _ hr';have h3:=Zr aX _ _ hx _ hr'
     rw[e1]at h2 h3;rw[jw,h2,<-h3];exact hj
    have sQ:0<us.length:=List.length_pos_iff.2 fC;have lB:us.length * i.bytes<=140737488355328:=by rw[hby'];simp only[List.length_nil,Nat.zero_add]at hb;omega
    have r1:=run_append_nil (P:=P) w t T e i z' hT.u hi aA ⟨b',off',none⟩ us.length cap (flat us) (by rw[f8];exact aH) xH sQ (by omega) (by omega)
    have r2:=run_append_grow (P:=P) w t T e i z' hT.u hi aA ⟨b,off,none⟩ 0 0 [] (by simp) (by simp) ⟨b',off',none⟩ us.length cap (flat us) (by rw[f8];exact aH) xH (by omega) (by omega) (by rw[Nat.zero_add,nextslicecap_zero sQ];omega)
    rw[hu']at fI |-;rw[r1]at fI;rw[r2,<-fI];simp
 refine qx (v:=u2) (w':=w2) (by simp[execOp,resolve,invoke,builtin,hy,hrun']) ?_
 obtain⟨oN,sU⟩:=wO hB tU h7 (fun g hg=>t8.sub g (sT g hg).1) hk (fun g hg=>h6.gC g hg) x4
 refine hK u2 w2 (tag O u2.ownBlock k) ⟨us,by rw[hE];simpa using h6,?_,fun g hg=>⟨by rw[hg];exact yg _ _ _,?_⟩⟩ oN sU
 ·rw[<-hzs]
  exact h5.mono (sU.keep (k:=0) (by simpa using hk.symm))
 ·rcases h7.at_ with h8|h8
  ·rw[hg]at h8;cases h8
  ·exact t8.new g (by have:=h8 g hg;have:=hB.size;omega)
theorem RelX.okB(h:RelX F s a w X)(nw:Bool):OkB F.A F.w0 (X.B nw):=by
 cases nw with
 |true=>show OkB _ _ X.F;rw[h.Fn];exact zDd h.base
 |false=>show OkB _ _ X.A;rw[h.A];exact Ny h.base
theorem NI(hE:E.ok X.P)(h:RelX F s a w X)(hd:F.dst d){x z:Operand}:gG F s a w ⟨d,.call ⟨.builtin .append,#[x,z],#[Y,Y]⟩,T,pos,aft,g⟩ (SZ E s d Y (rdO s.ep s.L [] [] x) (rdO s.ep s.L [] [] z) k) k:=by
 intro nf y hr K Q hK;rw[<-h.P];rw[<-h.ep]at hr;unfold SZ at hr;split at hr
 ·rename_i φ ψ hφ hψ
  have k1:=h.rd #[x] x φ (by simp) hφ
  have k2:=h.rd #[z] z ψ (by simp) hψ
  split at hr
  ·cases hr
  ·rename_i i hi
   have ht:=(hE.T Y i hi).ty;split at hr
   ·cases hr
   ·rename_i e he
    rw[kj he]at ht;split at hr
    ·cases hr
    ·rename_i j hj
     have ht':=(hE.T e j hj).ty;have hap:∀ {t:Ty},J0 j t=true->∃E',j.sz=E'+1/\(t.gr X.P).sz=E'+1/\j.by_<=131072/\j.z.cells.size=E'+1:=by
      intro t hb;unfold J0 at hb;simp only[zLR]at hb;obtain⟨b1,b2,b3,b4⟩:=hb;rw[zX]at b1;have b1:0<j.sz:=by simpa using b1
      have b2:=zLQ b2;have b4:=zLQ b4
      exact⟨j.sz-1,by omega,by rw[Ty.yh];omega,Nat.le_of_ble_eq_true b3,by omega⟩
     split at hr
     ·rename_i p hp
      split at hr
      ·rename_i ys hb sP
       rw[zLR]at hb;obtain⟨E',g1,g2,g3,g4⟩:=hap hb.1;obtain⟨e0,f1,f2,f3,f4⟩:=wy h.m k1 hp;rw[g1]at ht';rw[zLQ hb.2]at f3 f2;obtain⟨zs,hz,hr⟩:=run_bind hr;have fC:=h.pos p.1 e0 f1 (by rw[f2];rfl)
       refine tx (Ty.fits X.P _) g2 ht ht' g4 g3 h.ok0 h.base (h.okB p.2.1) rfl f3 rfl (AE h.m k2 sP) hz fC.1 fun u2 w2 O2 q1 q2 q3=>hK _ _ _ (h.ren hd f1 (by rw[f2];rfl) q2 q3 (ZG q1) fun X' e1 e2 e3 e4 e5 e6 fT=>?_) (Inv.ren _ _ _ _) hr
       show zo _ _ _ _ _ _ _ _
       rw[e5,e6,e1,e4,show X'.B=X.B from by funext nw;cases nw<;>simp[Cx.B,e2,e3]]
       exact q1
      ·cases hr
     ·split at hr
      ·rename_i ys hb sP
       rw[zLR]at hb;obtain⟨E',g1,g2,g3,g4⟩:=hap hb.2;rw[g1]at ht';obtain⟨zs,hz,hr⟩:=run_bind hr;rw[jU hb.1]at k1;obtain⟨τ,t0,t1⟩:=ZD X.ι s.M F.x.st;have sS:zo τ (j.τ.gr X.P) e (X.B true) X.O w (.slice none 0 0) []:=zo.nil _ _ _ _ _ _
       refine tx (Ty.fits X.P _) g2 ht ht' g4 g3 h.ok0 h.base (h.okB true) k1 sS rfl (AE h.m k2 sP) hz t0.1 fun u2 w2 O2 q1 q2 q3=>hK _ _ _ (h.KJ (φ:=.ob s.n) hd (v:=u2) (u:=u2) q2 q3 t0 t1 fun X' e1 e2 e3 e4 e5 e6 e7 e8 fT=>⟨⟨e7.symm,by omega,ZG q1⟩,?_⟩) (Inv.KJ _ _ _ _) hr
       show zo _ _ _ _ _ _ _ _
       rw[e7,e8,e1,e4,show X'.B=X.B from by funext nw;cases nw<;>simp[Cx.B,e2,e3]]
       exact q1
      ·split at hr
       ·cases hr
       ·rename_i te hte
        split at hr
        ·rename_i ys hb sP
         obtain⟨E',g1,g2,g3,g4⟩:=hap hb;rw[g1]at ht';obtain⟨zs,hz,hr⟩:=run_bind hr;rw[zEN hte]at k1;obtain⟨τ,t0,t1⟩:=ZD X.ι s.M F.x.st
         refine IP (B:=X.B true) (Ty.fits X.P _) g2 ht ht' g4 g3 h.ok0 h.base (h.okB true) k1 rfl (AE h.m k2 sP) hz t0.1 fun u2 w2 O2 q1 q2 q3=>hK _ _ _ (h.KJ (φ:=.ob s.n) hd (v:=u2) (u:=u2) q2 q3 t0 t1 fun X' e1 e2 e3 e4 e5 e6 e7 e8 fT=>⟨⟨e7.symm,by omega,ZG q1⟩,?_⟩) (Inv.KJ _ _ _ _) hr
         show zo _ _ _ _ _ _ _ _
         rw[e7,e8,e1,e4,show X'.B=X.B from by funext nw;cases nw<;>simp[Cx.B,e2,e3]]
         exact q1
        ·cases hr
 ·cases hr
end
end Go.Den
end
section
namespace Go.Den
open Go Go.RowKit Go.Eng Go.Lift
variable {α β:Type}
def CZ:(t:Ty)->Nat->(t':Ty)->Option (t.D->t'.D->t.D)
 |.cons a b,0,t'=>if h:t'.beq a=true then some fun x y=>(Ty.cast (Ty.J3 h) y,x.2) else match CZ a 0 t' with
  |some f=>some fun x y=>(f x.1 y,x.2)
  |none=>none
 |.cons a b,off+1,t'=>match Nat.ble a.sz (off+1) with
  |true=>match CZ b (off+1-a.sz) t' with
   |some f=>some fun x y=>(x.1,f x.2 y)
   |none=>none
  |false=>match CZ a (off+1) t' with
   |some f=>some fun x y=>(f x.1 y,x.2)
   |none=>none
 |_,_,_=>none
theorem GM{P:Program}{t':Ty}:∀ {t:Ty} {off:Nat} {f:t.D->t'.D->t.D},CZ t off t'=some f->∀ {O:zR} {w:World} {cs vs:List Value} {x:t.D} {y:t'.D},(t.gr P).rel O w cs x->(t'.gr P).rel O w vs y->off+vs.length<=cs.length/\(t.gr P).rel O w (cs.take off++(vs++cs.drop (off+vs.length))) (f x y):=by
 intro t
 induction t with
 |cons a b iha ihb =>
  have inA:∀ {off:Nat} {g:a.D->t'.D->a.D},CZ a off t'=some g->∀ {O:zR} {w:World} {cs vs:List Value} {x:(Ty.cons a b).D} {y:t'.D},((Ty.cons a b).gr P).rel O w cs x->(t'.gr P).rel O w vs y->off+vs.length<=cs.length/\((Ty.cons a b).gr P).rel O w (cs.take off++(vs++cs.drop (off+vs.length))) ((g x.1 y,x.2):a.D×b.D):=by
   intro off g hg O w cs vs x y hx hy;obtain⟨c1,c2,rfl,h1,h2⟩:=hx;obtain⟨h3,h4⟩:=iha hg h1 hy;refine⟨by rw[zLS];omega,_,c2,?_,h4,h2⟩
   rw[List.take_append_of_le_length (by omega),List.drop_append_of_le_length (by omega)]
   simp
  intro off f hf O w cs vs x y hx hy
  cases off with
  |zero =>
   simp only[CZ]at hf;split at hf
   ·rename_i hb
    cases hf
    have e:=Ty.J3 hb;subst e;obtain⟨c1,c2,rfl,h1,h2⟩:=hx;have l1:c1.length=t'.sz:=(GR.len _ h1).trans (Ty.yh P t')
    have l2:vs.length=t'.sz:=(GR.len _ hy).trans (Ty.yh P t');refine⟨by rw[zLS];omega,vs,c2,?_,hy,h2⟩
    rw[List.take_zero,Nat.zero_add,l2,<-l1];simp
   ·split at hf
    ·rename_i g hg;cases hf;exact inA hg hx hy
    ·cases hf
  |succ off =>
   simp only[CZ]at hf;split at hf
   ·rename_i fT
    have fT:=Nat.le_of_ble_eq_true fT;split at hf
    ·rename_i g hg
     cases hf
     obtain⟨c1,c2,rfl,h1,h2⟩:=hx;obtain⟨h3,h4⟩:=ihb hg h2 hy;have l1:c1.length=a.sz:=(GR.len _ h1).trans (Ty.yh P a)
     refine⟨by rw[zLS];omega,c1,_,?_,h1,h4⟩
     rw[List.take_append,List.drop_append,List.take_of_length_le (by omega),List.drop_of_length_le (by omega),l1]
     rw[show off+1+vs.length-a.sz=off+1-a.sz+vs.length by omega]
     simp
    ·cases hf
   ·split at hf
    ·rename_i g hg;cases hf;exact inA hg hx hy
    ·cases hf
 |_=>intro off f hf;cases off<;>cases hf
section fld
variable {P:Program} {a:Act} {w:World} {T:TypeId} {pos:String} {aft:Array Edge} {g0:Option (Nat×Bool)} {K:Act->World->Prop} {Q:Exit->Act->World->Prop} {A:Nat->Prop}
theorem AH{x y:Operand}{X Xe E B n j sz:Nat}{vs:List Value}{u p v v':Value}{dd z by_}(hT:Eng.Ty P X dd z sz by_)(hx:a.eval x=p)(hp:nV u (n * E+j) p)(hO:OwnS w B Xe E u vs)(hy:a.eval y=v)(hv:v.cells.size=sz)(h1:∀c∈v.cells.toList,c.oneCell'=true)(hj:j+sz<=E)(hn:n<vs.length)
  (hv':v'.cells.size=E) (hc:∀i,i<E->v'.cells[i]?=if j<=i/\i<j+sz then v.cells[i-j]? else (vs.getD n undef).cells[i]?)
  (hK:∀w',OwnS w' B Xe E u (vs.set n v')->Appd w w' u u->K a w'):Oper.wp P ⟨none,.store X x y,T,pos,aft,g0⟩ a w K Q:=by
 obtain⟨b,hb,rfl⟩:=hp;rcases hO.row.2 with ⟨_,h2⟩|⟨g,cap,cur,hu,oL,hg,cU,eP,tW,eQ⟩
 ·omega
 ·rw[hu]at hb
  simp only[Value.ownBlock,zLo]at hb;subst hb;have hnE:n * E+E<=vs.length * E:=by
   have:(n+1) * E<=vs.length * E:=Nat.mul_le_mul_right _ hn;rw[Nat.add_mul]at this;omega
  have o9:vs.length * E<=cap * E:=Nat.mul_le_mul_right _ cU;obtain⟨w',cs',h2,h3,h4,h5,h6,h7,h8,h9,dW⟩:=kG (P:=P) (off:=n * E+j) v.cells.toList 0 w cur h1 hg (by rw[Array.length_toList,hv,tW];omega)
  have hs':∀c∈vs.set n v',c.cells.size=E:=by
   intro c hc;rcases List.mem_or_eq_of_mem_set hc with h|h
   ·exact hO.sz c h
   ·rw[h];exact hv'
  refine D6 (w':=w') ?_ (hK w' ⟨hs',?_,.inr ⟨g,cap,cs',by rw[hu,List.length_set],oL,h3,by rw[List.length_set];exact cU,eP,by rw[h4,tW],?_⟩⟩ ⟨⟨h6,h7,h8,by omega,fun k _ hk=>dW k (fun e=>hk (by rw[hu,e];rfl))⟩,.inl rfl⟩)
  ·simp[execOp,Instr.storeAt,Instr.sureAddr,hx,hy,storeVar,hv,hT.zu,h2]
  ·rw[yQ hs']
  ·apply List.ext_getElem?
   intro i;rw[Bz vs n v' hO.sz hv' hn i,List.length_set,List.getElem?_take];have aH:∀i,i<vs.length * E->(flat vs)[i]?=cur[i]?:=by
    intro i hi;rw[<-eQ,List.getElem?_take,zLr hi];simp
   by_cases hi:i<vs.length * E
   ·rw[zLr hi,Array.getElem?_toList,h5 i]
    simp only[Nat.add_zero,Array.length_toList,hv,Array.getElem?_toList];by_cases h:n * E<=i/\i<n * E+E
    ·rw[zLr h]
     have:=hc (i-n * E) (by omega)
     by_cases hk:n * E+j<=i/\i<n * E+j+sz
     ·rw[zLr hk]
      rw[zLr (by omega)]at this
      rw[show i-n * E-j=i-(n * E+j) by omega]at this
      simpa using this.symm
     ·rw[zLs hk]
      rw[zLs (by omega)]at this
      have hgn:vs[n]?=some (vs.getD n undef):=by rw[zLk,zLv hn];rfl
      have bT:=Zr hO.sz n _ hgn (i-n * E) (by omega)
      rw[show n * E+(i-n * E)=i by omega,aH i hi]at bT
      rw[bT];simpa using this.symm
    ·rw[zLs h,zLs (by omega),aH i hi]
   ·rw[zLs hi,zLs (by omega)]
    symm
    rw[List.getElem?_eq_none];rw[yQ hO.sz];omega
theorem C1{t τ:Ty}{j:Nat}{f:t.D->τ.D->t.D}(hf:CZ t j τ=some f)(ha:t.agg=true){x y:Operand}{X Xe E k sz:Nat}(hE:t.sz=E){O O0:zR}{w0:World}(tU:OkO O0 w0)(hB:Base A O0 w0 O w){B:Nat->Prop}(t8:OkB A w0 B){xs:List t.D}{u p v:Value}{m:Int}{vx:τ.D}{zx:t.D}{dd z by_}{n:Nat}
  (hT:Eng.Ty P X dd z sz by_) (f8:τ.sz=sz) (hx:a.eval x=p) (hp:nV u (m.toNat * E+j) p) (hO:zo k (t.gr P) Xe B O w u xs) (hy:a.eval y=v) (hv:(τ.gr P).v O w v vx) (hz:(idx xs m).run n=some zx) (hk:k≠0)
  (hK:∀w',zo k (t.gr P) Xe B O w' u (xs.set m.toNat (f zx vx))->Base A O0 w0 O w'->KX (some k) O w O w'->K a w'):Oper.wp P ⟨none,.store X x y,T,pos,aft,g0⟩ a w K Q:=by
 have sT:=hO.ge;have x4:=hO.tagged
 obtain⟨vs,g1,h2,h3⟩:=hO;have kA:=h2.len
 have o8:(t.gr P).sz=E:=(Ty.yh P t).trans hE;have hi0:xs[m.toNat]?=some zx:=by
  unfold idx at hz;split at hz
  ·exact rZ hz
  ·cases hz
 obtain⟨v0,hv0,c0,lC,rfl⟩:=h2.get _ _ hi0;rw[Ty.jF,ha]at hv0;have hv0':vs[m.toNat]?=some (.agg c0.toArray):=hv0
 have hD:vs.getD m.toNat undef=.agg c0.toArray:=by rw[zLk,hv0'];rfl
 have hl0:c0.length=E:=((t.gr P).len lC).trans o8;obtain⟨c2,q1,_,q3⟩:=(τ.gr P).cells (Ty.fits P τ) hv;have cJ:c2.length=sz:=((τ.gr P).len q1).trans ((Ty.yh P τ).trans f8)
 obtain⟨s1,_⟩:=GM hf lC q1;rw[hl0,cJ]at s1;rw[o8]at g1;refine AH (v':=.agg (c0.take j++(c2++c0.drop (j+c2.length))).toArray) hT hx hp g1 hy (by rw[q3];simp[cJ]) (by rw[q3];simpa using (τ.gr P).one q1) s1 ((zLX.1 hv0').1) (by show (c0.take j++(c2++c0.drop (j+c2.length))).toArray.size=E;simp;omega) (fun i hi=>?_) fun w' h4 h5=>?_
 ·rw[hD,q3]
  show (c0.take j++(c2++c0.drop (j+c2.length))).toArray[i]?=if j<=i/\i<j+sz then c2.toArray[i-j]? else c0.toArray[i]?
  simp only[List.getElem?_toArray];by_cases h:i<j
  ·rw[zLs (by omega),zLf (by rw[zLm];omega),List.getElem?_take,zLr h]
  ·rw[zLg (by rw[zLm];omega),zLm,Nat.min_eq_left (by omega)]
   by_cases h6:i<j+sz
   ·rw[zLr ⟨by omega,h6⟩,zLf (by omega)]
   ·rw[zLs (by omega),zLg (by omega),List.getElem?_drop]
    congr 1;omega
 have sU:KX (some k) O w O w':=⟨h5.by_.size,fun b hb iW=>⟨rfl,h5.by_.block b hb (fun e=>iW (by rw[x4 b e.symm]))⟩⟩
 have k0:=sU.keep (k:=0) (by simpa using hk.symm)
 have hs:=hB.size;have aP:=h5.by_.size
 have hel:(t.gr P).v O w' (.agg (c0.take j++(c2++c0.drop (j+c2.length))).toArray) (f zx vx):=⟨_,(GM hf ((t.gr P).mono k0 lC) ((τ.gr P).mono k0 q1)).2,by rw[Ty.jF,ha];rfl⟩
 refine hK w' ⟨vs.set m.toNat _,by rw[o8];exact h4,(h2.mono k0).set _ hel,h3⟩ ?_ sU
 exact⟨h5.by_.os.trans hB.os,h5.by_.tape.trans hB.tape,h5.by_.output.trans hB.output,by omega,fun b hb cW=>(h5.by_.block b (by omega) (fun e=>cW (t8.sub b (sT b e.symm).1))).trans (hB.block b hb cW),
  fun b hb'=>hB.ok b (by omega),hB.old,fun b _ ho=>by
   by_cases gF:b<w.heap.size
   ·exact hB.zero b gF ho
   ·exact tU b (by omega),hB.new⟩
end fld
end Go.Den
end
