/- Lemmas behind a claim. -/
import Derived.Test.YtknbpncolbmoaaaGreatKPpB
set_option linter.unusedSimpArgs false
set_option linter.unusedVariables false
open Go.Lift.Comp (run_bind)
section
namespace Go.Den
open Go Go.RowKit Go.Eng Go.Lift
variable {α β γ δ:Type}
section
variable {F:Frm} {s:S} {a:Act} {w:World} {X:Cx} {E:VE}
variable {d:Option Tmp} {T Y:TypeId} {pos:String} {aft:Array Edge} {g:Option (Nat×Bool)} {k:S->Comp β}
def SZ(s:S)(d:Option Tmp)(p:Nat×Bool×TypeId×(t:Ty)×List t.D)(n:Option (IntKind×Int))(k:S->Comp β):Comp β:=match n with
 |some n=>(sub p.2.2.2.2 0 n.2).bind fun ys=>k (s.ren d p.1 (.sl p.2.1 p.2.2.2.1 p.2.2.1 ys))
 |none=>Comp.fail
theorem NB(hE:E.ok X.P)(h:RelX F s a w X)(hd:F.dst d){x y:Operand}{p:Nat×Bool×TypeId×(t:Ty)×List t.D}{φ:AV}(hφ:rdO s.ep s.L [] [] x=some φ)(hp:X6 s.M φ=some p){i:TI}(hi:look E.T Y=some i){e:TypeId}(he:slD i.dd=some e){j:TI}(hj:look E.T e=some j)(hs:Nat.beq p.2.2.2.1.sz j.sz=true) :
  gN F s a w ⟨d,.slice Y x none (some y) none,T,pos,aft,g⟩ (SZ s d p ((rdO s.ep s.L [] [] y).bind AV.int?) k) k:=by
 intro nf y' hr K Q hK;rw[<-h.P];unfold SZ at hr;split at hr
 ·rename_i n hn
  obtain⟨ys,sQ,hr⟩:=run_bind hr;have ht:=(hE.T Y i hi).ty
  rw[ZU he]at ht;have hj':=(hE.T e j hj).ty
  rw[<-h.ep]at hφ hn;have k1:=h.rd #[x] x φ (by simp) hφ
  have hn':=vM (h.rd #[y]) (by simp) hn
  obtain⟨e0,f1,f2,f3,f4⟩:=uC h.m k1 hp;have hs':(p.2.2.2.1.gr X.P).sz=j.sz:=by grind [Ty.yr,zLY]
  refine Y4 ht hj' hs' rfl f3.W5 hn' sQ K Q fun v w' fX hv=>?_
  have hv:v=Mh (a.eval x) ys.length:=hv;subst hv;have g1:=Cc (f3.ext fX) sQ
  refine hK _ _ _ (h.ren hd f1 (by rw[f2];rfl) (h.base.step fX h.ok0) ⟨fX.size,fun b hb _=>⟨rfl,fX.block b hb⟩⟩ (ZQ g1) fun X' e1 e2 e3 e4 e5 e6 fG=>?_) (Inv.ren _ _ _ _) hr
  show zo _ _ _ _ _ _ _ _
  rw[e5,e6,e1,e4,show X'.B=X.B from by funext nw;cases nw<;>simp[Cx.B,e2,e3]]
  exact g1
 ·cases hr
def Ea(E:VE)(s:S)(d:Option Tmp)(Y:TypeId)(kk n:Nat)(ψ:Option AV)(k:S->Comp β):Comp β:=match ψ,look s.M kk with
 |some ψ,some (_,.sl nw t T xs)=>match look E.T Y with
  |none=>Comp.fail
  |some i=>match slD i.dd with
   |none=>Comp.fail
   |some e=>match look E.T e with
    |none=>Comp.fail
    |some j=>match KF j t && Nat.beq T e,apY s.M t ψ with
     |true,some ys=>(sub xs 0 (n:Int)).bind fun xs=>(app xs ys).bind fun zs=>k (s.ren d kk (.sl nw t e zs))
     |_,_=>Comp.fail
 |_,_=>Comp.fail
theorem Ig(hE:E.ok X.P)(h:RelX F s a w X)(hd:F.dst d){x z:Operand}{kk n:Nat}(hφ:rdO s.ep s.L [] [] x=some (.px kk n)):gN F s a w ⟨d,.call ⟨.builtin .append,#[x,z],#[Y,Y]⟩,T,pos,aft,g⟩ (Ea E s d Y kk n (rdO s.ep s.L [] [] z) k) k:=by
 intro nf y hr K Q hK;rw[<-h.P];rw[<-h.ep]at hr hφ;unfold Ea at hr;split at hr
 ·rename_i ψ st nw t T' xs hψ hk
  have k1:=h.rd #[x] x _ (by simp) hφ
  have k2:=h.rd #[z] z ψ (by simp) hψ
  split at hr
  ·cases hr
  ·rename_i i hi
   have ht:=(hE.T Y i hi).ty;split at hr
   ·cases hr
   ·rename_i e he
    rw[ZU he]at ht;split at hr
    ·cases hr
    ·rename_i j hj
     have ht':=(hE.T e j hj).ty;have oR:∀ {t:Ty},KF j t=true->∃E',j.sz=E'+1/\(t.gr X.P).sz=E'+1/\j.by_<=131072/\j.z.cells.size=E'+1:=by
      intro t hb;unfold KF at hb;simp_all [Ty.yr]
     split at hr
     ·rename_i ys hb sQ
      rw[zLZ]at hb;obtain⟨E',g1,g2,g3,g4⟩:=oR hb.1;obtain⟨⟨k3,p0,l0,c0,k4,k5⟩,k6⟩:=k1;have f3:zo (X.ι kk) (t.gr X.P) T' (X.B nw) X.O w (X.U kk) xs:=h.m kk _ hk
      rw[g1]at ht';have nK:=zLY hb.2
      subst nK;obtain⟨us,hu,hr⟩:=run_bind hr;obtain⟨zs,hz,hr⟩:=run_bind hr;have fD:=h.pos kk _ hk rfl
      have hul:us.length=n:=by
       have d9:=jh hu;grind
      have f4:=Cc f3 hu;rw[hul,<-k3]at f4;refine qI (Ty.fits X.P _) g2 ht ht' g4 g3 h.ok0 h.base (h.okB nw) rfl f4 rfl (qz h.m k2 sQ) hz fD.1 fun u2 w2 O2 q1 q2 q3=>hK _ _ _ (h.ren hd hk rfl q2 q3 (ZQ q1) fun X' e1 e2 e3 e4 e5 e6 fG=>?_) (Inv.ren _ _ _ _) hr
      show zo _ _ _ _ _ _ _ _
      rw[e5,e6,e1,e4,show X'.B=X.B from by funext nw;cases nw<;>simp[Cx.B,e2,e3]]
      exact q1
     ·cases hr
 ·cases hr
def zEn:Option AV->Option (Nat×Nat)
 |some (.px k n)=>some (k,n)
 |_=>none
theorem VJ{φ:Option AV}{p:Nat×Nat}(h:zEn φ=some p):φ=some (.px p.1 p.2):=by
 unfold zEn at h;grind
def zHB{α:Type}(xs:List α)(lo:Nat)(z:α):List α:=xs.take lo++List.replicate (xs.length-lo) z
def mH(E:VE)(s:S)(d:Option Tmp)(Y:TypeId)(φ:Option AV)(k:S->Comp β):Comp β:=match d,φ with
 |none,some φ=>match φ with
  |.sx kk lo esz=>match look s.M kk with
   |some (_,.sl nw t T xs)=>match look E.T Y with
    |none=>Comp.fail
    |some i=>match slD i.dd with
     |none=>Comp.fail
     |some e=>match look E.T e with
      |none=>Comp.fail
      |some j=>match Nat.beq esz j.sz && (Nat.beq t.sz j.sz && Nat.beq T e),ofV t j.z with
       |true,some z=>(sub xs (lo:Int) (zD xs)).bind fun _=>k (s.mod kk (.sl nw t T (zHB xs lo z)))
       |_,_=>Comp.fail
   |_=>Comp.fail
  |_=>Comp.fail
 |_,_=>Comp.fail
theorem DJ(hE:E.ok X.P)(h:RelX F s a w X){x:Operand}:gN F s a w ⟨none,.call ⟨.builtin .clear,#[x],#[Y]⟩,T,pos,aft,g⟩ (mH E s none Y (rdO s.ep s.L [] [] x) k) k:=by
 intro nf y' hr K Q hK;rw[<-h.P];rw[<-h.ep]at hr;unfold mH at hr;split at hr
 ·rename_i φ _ hφ
  have k1:=h.rd #[x] x φ (by simp) hφ
  split at hr
  ·rename_i kk lo esz
   split at hr
   ·rename_i st nw t T' xs hk
    split at hr
    ·cases hr
    ·rename_i i hi
     split at hr
     ·cases hr
     ·rename_i e he
      split at hr
      ·cases hr
      ·rename_i j hj
       split at hr
       ·rename_i z hb hz
        simp only[zLZ]at hb;obtain⟨b1,b2,b3⟩:=hb;have b1:=zLY b1
        have b2:=zLY b2;have b3:=zLY b3
        obtain⟨ys,sQ,hr⟩:=run_bind hr;have ht:=(hE.T Y i hi).ty
        rw[ZU he]at ht;have hj':=(hE.T e j hj).ty
        have hO:zo (X.ι kk) (t.gr X.P) T' (X.B nw) X.O w (X.U kk) xs:=h.m kk _ hk;have hx:a.eval x=rS (X.U kk) ((lo:Int).toNat) j.sz:=by rw[<-b1];exact k1.1
        rw[b3]at hO;refine Uf (m:=(lo:Int)) (Ty.fits X.P t) (by grind [Ty.yr]) h.ok0 h.base (h.okB nw) ht hj' hx hO (h.pos kk _ hk rfl).1 sQ (fun O w=>KL X.P hz O w) fun w' q1 q2 q3=>?_
        have hR:=h.mod hk rfl (mv:=.sl nw t T' (zHB xs lo z)) q2 q3 fun X' e1 e2 e3 e4 e5 e6 fG=>by
         show zo _ _ _ _ _ _ _ _
         rw[e6,e5,e1,e4,show X'.B=X.B from by funext nw;cases nw<;>simp[Cx.B,e2,e3],b3]
         exact q1
        exact hK _ _ _ hR (Inv.mod _ _ _) hr
       ·cases hr
   ·cases hr
  ·cases hr
 ·cases hr
end
def S.Cf(E:VE)(s:S)(k:Nat):S:=match look s.M k with
 |some (_,.bx true c T)=>match look E.T T with
  |some i=>match c.asT E.G s.M i.τ with
   |some x=>{ L:=s.L,M:=(k,s.n,.fb i.τ x)::s.M,n:=s.n+1,ep:=s.ep }
   |none=>s
  |none=>s
 |_=>s
def S.KH(E:VE)(s:S):List Nat->S
 | []=>s
 |k::l=>(s.Cf E k).KH E l
def AV.Cq:AV->List Nat
 |.ob k|.bx k _|.ba k .. | .el k .. | .sx k .. | .px k _=>[k]
 |.cl _ a b|.pr a b=>a.Cq++b.Cq
 |.tp l|.ag l=>l.Cq
 |_=>[]
def zAW:List AV->List Nat
 | []=>[]
 |φ::l=>φ.Cq++zAW l
def Ee(M:MS):List Nat->List Nat
 | []=>[]
 |k::l=>match look M k with
  |some (_,.bx _ c _)=>c.Cq++Ee M l
  |_=>Ee M l
def S.YC(E:VE)(s:S)(l:List AV):S :=
 let r:=zAW l
 (s.Jy (Ee s.M r++r)).KH E r
section
variable {F:Frm} {s:S} {a:Act} {w:World} {X:Cx} {E:VE}
variable {d:Option Tmp} {T Y:TypeId} {pos:String} {aft:Array Edge} {g:Option (Nat×Bool)} {k:S->Comp β}
theorem Inv.Cf(s:S)(k:Nat):Inv s (s.Cf E k):=by
 unfold S.Cf;split
 ·split
  ·split
   ·exact⟨zLk _,yc,vd yc⟩
   ·exact Inv.refl s
  ·exact Inv.refl s
 ·exact Inv.refl s
theorem Rel.Cf(hE:E.ok F.P)(h:Rel F s a w)(k:Nat):Rel F (s.Cf E k) a w:=by
 unfold S.Cf;split
 ·rename_i st c T hk
  split
  ·rename_i i hi
   split
   ·rename_i x hx
    obtain⟨X,h⟩:=h;obtain⟨b,cs,g1,g2,g3,g4⟩:=h.m k _ hk;have hp:=h.pos k _ hk rfl
    have hG:FOk X.P E.G:=by rw[h.P];exact hE.G
    have Mj:=(AV.jR hG c h.m).vc hx g3;have tW:F.w0.heap.size<=b:=by
     have:X.F b:=g2.ge;rw[h.Fn]at this;exact this
    let O':=tag X.O (some b) 0
    have sP:KX (some (X.ι k)) X.O w O' w:=KX.free fun g hg=>by cases hg;exact g2.tag
    have hB:Base F.A F.O0 F.w0 O' w:=h.base.SV h.ok0 (fun g hg=>by cases hg;exact h.base.new b tW) fun g hg gF=>by grind
    have h0:zb 0 X.O w O' w:=sP.keep (by grind)
    let X':Cx:={ X with O:=O',n:=s.n+1 }
    have gF:=(h.mn k _ hk).2;have hv:(MV.fb i.τ x).holds X' w k:=by
     show (KV _).v O' w (X.U k) x
     rw[g1];have xG:cs=cs.toList.toArray:=by simp
     rw[xG]at g2;exact g2.freeze hp.1 Mj
    refine⟨X',h.go h.fit rfl rfl rfl (fun j hj=>sP.keep (by grind)) (fun _ _=>rfl) rfl h.ep (zLk _) (Nat.le_succ_of_le h.epn) hB (fun hf=>⟨hf,Ext.refl _⟩) (fun _ _ _=>rfl) (fun t e he=>.inr ⟨he,rfl,fun _ hf=>⟨hf,Ext.refl _⟩⟩) (fun k' e he=>?_) (fun j k' e e' he he' ho ho' fV=>?_) (fun k' e he ho=>?_)⟩
    ·rcases zC he with ⟨h1,h2⟩|⟨h1,h2⟩
     ·grind
     ·refine .inr ⟨h2,rfl,fun ho=>sP.keep ?_⟩
      intro e1;simp only[zLw]at e1;exact h1 (h.inj k k' _ e hk h2 rfl ho e1.symm)
    ·rcases zC he with ⟨h1,h2⟩|⟨h1,h2⟩
     ·rw[<-h2]at ho;cases ho
     ·rcases zC he' with ⟨h3,h4⟩|⟨h3,h4⟩
      ·rw[<-h4]at ho';cases ho'
      ·exact h.inj j k' e e' h2 h4 ho ho' fV
    ·rcases zC he with ⟨h1,h2⟩|⟨h1,h2⟩
     ·grind
     ·exact h.pos k' e h2 ho
   ·exact h
  ·exact h
 ·exact h
theorem Rel.KH(hE:E.ok F.P):∀(l:List Nat) {s:S},Rel F s a w->Rel F (s.KH E l) a w
 | [],_,h=>h
 |k::l,s,h=>Rel.KH hE l (h.Cf hE k)
theorem Inv.KH:∀(l:List Nat) (s:S),Inv s (s.KH E l)
 | [],s=>Inv.refl s
 |k::l,s=>(Inv.Cf s k).trans (Inv.KH l _)
theorem Rel.YC(hE:E.ok F.P)(h:Rel F s a w)(l:List AV):Rel F (s.YC E l) a w:=Rel.KH hE _ (h.Jy _)
theorem Inv.YC(s:S)(l:List AV):Inv s (s.YC E l):=(Inv.Jy _ _).trans (Inv.KH _ _)
theorem Ba{P:Program}{k T:Nat}{B:Nat->Prop}{O:zR}{w:World}{u:Value}{t t':Ty}{xs:List t.D}{ys:List t'.D}(e:Ty.sl t=.sl t')(h:Ty.cast e xs=ys)(hO:zo k (t.gr P) T B O w u xs):zo k (t'.gr P) T B O w u ys:=by
 injection e with e1
 subst e1;subst h;exact hO
def mI(E:VE)(s:S)(d:Option Tmp)(φ:Option AV)(l:Option (List AV))(k:S->Comp β):Comp β:=match φ,l with
 |some (.cl f .un .un),some (x::l)=>match E.O f with
  |none=>Comp.fail
  |some fs=>match X6 s.M x with
   |none=>Comp.fail
   |some p=>match (Ty.sl p.2.2.2.1).to (.sl fs.e) p.2.2.2.2,Nat.beq p.2.2.1 fs.T,Xs (l.map (fun φ=>φ.asT E.G s.M)) fs.ps with
    |some xs,true,some z=>(fs.sem xs z).bind fun ys=>match fs.ret with
     |true=>k (s.ren d p.1 (.sl p.2.1 fs.e fs.T ys))
     |false=>k ((s.mod p.1 (.sl p.2.1 fs.e fs.T ys)).put d .top)
    |_,_,_=>Comp.fail
 |_,_=>Comp.fail
theorem DK(hE:E.ok X.P)(h:RelX F s a w X)(hd:F.dst d){x:Operand}{xs:Array Operand}{ts:Array TypeId}:gN F s a w ⟨d,.call ⟨.value x,xs,ts⟩,T,pos,aft,g⟩ (mI E s d (rdO s.ep s.L [] [] x) (jE (rdO s.ep s.L [] []) xs.toList) k) k:=by
 intro nf y hr K Q hK;rw[<-h.P];rw[<-h.ep]at hr;unfold mI at hr;split at hr
 ·rename_i f φ1 l hφ hl
  split at hr
  ·cases hr
  ·rename_i fs hs
   split at hr
   ·cases hr
   ·rename_i p hp
    split at hr
    ·rename_i xs0 z sE hT hz
     obtain⟨ys,sQ,hr⟩:=run_bind hr;have H:=h.rd (Op.operands (.call ⟨.value x,xs,ts⟩))
     have k1:=H x _ (by simp[Op.operands,Call.operands]) hφ
     have fA:=jV hl;obtain⟨vs,us,e1,e2,e3⟩:=k1;have e1:vs=[]:=e1
     have e2:us=[]:=e2;subst e1 e2;have fB:∀(i:Nat) φ v,(φ1::l)[i]?=some φ->(xs.toList.map a.eval)[i]?=some v->φ.holds X w v:=by
      intro i φ v hi hv;rw[List.getElem?_map,Option.map_eq_some_iff]at hv;obtain⟨z,hz,rfl⟩:=hv;obtain⟨z',dZ,iH⟩:=Zh hl i φ hi;rw[hz]at dZ;cases dZ;refine H z φ ?_ iH;grind [Op.operands,Call.operands]
     obtain⟨u,vs,sV⟩:∃u vs,xs.toList.map a.eval=u::vs:=by
      cases hxl:xs.toList with
      |nil=>grind
      |cons u vs=>grind
     rw[sV]at fB;have hvl:vs.length=l.length:=by
      have h1:=zLq List.length sV;grind
     have hu:=fB 0 φ1 u rfl rfl;obtain⟨e0,f1,f2,f3,f4⟩:=uC h.m hu hp;obtain⟨ee,ee2⟩:=Ty.jN sE;have fD:=h.pos p.1 e0 f1 (by rw[f2];rfl)
     have fU:fs.ps.args X.P X.O w vs z:=kg hz (by grind) fun i f v hf hv t y hy=>by
      rw[List.getElem?_map,Option.map_eq_some_iff]at hf;obtain⟨ψ,g1,rfl⟩:=hf;exact AV.Z7 hE.G h.m hy (fB (i+1) ψ v (by grind) (by grind))
     obtain⟨o1,o2⟩:=hE.O f fs hs;have hO:zo (X.ι p.1) (fs.e.gr X.P) fs.T (X.B p.2.1) X.O w u xs0:=by
      have hT':=zLY hT;rw[hT']at f3;exact Ba ee ee2 f3
     have hc:=o2 X.O w h.okO u xs0 (MX hO fD.1) vs z fU nf ys sQ;have sC:(u::vs).toArray=#[]++xs.map a.eval++#[]:=by
      grind
     rw[sC]at hc;refine nv o1 e3 hc fun e w2 he=>?_
     obtain⟨v,u2,he,h1,⟨oQ,h2,h3⟩,h4⟩:=he;refine⟨v,he,?_⟩;have tW:=hO.ge
     obtain⟨nF,sP⟩:=wY h.base h.ok0 h1 (fun g hg=>(h.okB p.2.1).sub g (tW g hg).1) fD.1 (fun g hg=>h2.gK g hg) hO.tagged
     have hnew:zo (X.ι p.1) (fs.e.gr X.P) fs.T (X.B p.2.1) (tag X.O u2.ownBlock (X.ι p.1)) w2 u2 ys:=by
      refine⟨oQ,h2,h3.mono ⟨zLb _,fun b _ hb=>⟨?_,rfl⟩⟩,fun g hg=>⟨by grind [yk],?_⟩⟩
      ·by_cases hg:u2.ownBlock=some b
       ·grind [yk]
       grind [gH]
      ·rcases h1.at_ with h8|h8
       ·grind
       ·exact(h.okB p.2.1).new g (by have:=h8 g hg;have:=h.base.size;omega)
     split at hr
     ·rename_i xE
      rw[xE]at h4;have h4:v=u2:=h4
      subst h4;refine hK _ _ _ (h.ren hd f1 (by rw[f2];rfl) nF sP (ZQ hnew) fun X' e1 e2 e3 e4 e5 e6 fG=>?_) (Inv.ren _ _ _ _) hr
      show zo _ _ _ _ _ _ _ _
      rw[e5,e6,e1,e4,show X'.B=X.B from by funext nw;cases nw<;>simp[Cx.B,e2,e3]]
      omega
     ·rename_i xE
      rw[xE]at h4;obtain⟨h5,h6⟩:u2=u/\v=.tuple #[]:=h4;subst h5;have hR:=h.mod f1 (by rw[f2];rfl) (mv:=.sl p.2.1 fs.e fs.T ys) nF sP fun X' e1 e2 e3 e4 e5 e6 fG=>by
       show zo _ _ _ _ _ _ _ _
       rw[e6,e5,e1,e4,show X'.B=X.B from by funext nw;cases nw<;>simp[Cx.B,e2,e3],<-f4]
       omega
      obtain⟨X2,aS⟩:=hR;exact hK _ _ _ ⟨_,aS.val (Ext.refl w2) hd (show AV.top.holds X2 w2 v from trivial)⟩ ((Inv.mod _ _ _).trans (Inv.put _ _ _)) hr
    ·cases hr
 ·cases hr
end
theorem K2{P:Program}{w:World}(t ti ty e:TypeId)(i:TypeInfo)(z:Value)(ik:IntKind)(ht:P.underlying t=some (.slice e))(hti:P.underlying ti=some (.int ik))(hi:P.info? e=some i)(hz:i.zero=some z)
  (k:IntKind) (n:Nat) (h0:0<n) (h63:(n:Int)<=9223372036854775807) (h48:n * i.bytes<=281474976710656) (pV:0<i.size) :
  (Builtin.append_ #[t,ti] ty #[.slice none 0 0,.int k n]).run P w =
   .ok (.slice (some ⟨w.heap.size,0,none⟩) n (grownCap w n 0 e)) (w.drew.alloc (.cells (Builtin.zeroCells z.cells n++Builtin.zeroCells z.cells (grownCap w n 0 e-n)) e)):=by
 have hn:n≠0:=by omega
 have hw:IntKind.i64.wrap (n:Int)=n:=by grind [IntKind.wrap_i64]
 have h63':¬(9223372036854775807<(n:Int)):=by omega
 have h48':¬(281474976710656<Builtin.nextslicecap n 0 * i.bytes):=by grind [nextslicecap_zero]
 have h48i:¬((281474976710656:Int)<(n:Int) * (i.bytes:Int)):=by
  omega
 have bC:¬((n:Int)<0):=by omega
 have hnz:¬(n=0\/i.size=0):=by omega
 simp[Builtin.append_,run_underlying ht,run_underlying hti,sizeOf,typeInfo,zeroValue,hi,hz,asInt,asIntOf,hw,bC,hn,h63',h48',h48i,hnz,Question.forced,run_firstCells_none,newRow,grownCap];grind [Nat.mul_eq_zero]
section
variable {F:Frm} {s:S} {a:Act} {w:World} {X:Cx} {E:VE}
variable {d:Option Tmp} {T Y Z:TypeId} {pos:String} {aft:Array Edge} {g:Option (Nat×Bool)} {k:S->Comp β}
theorem IM{P:Program}{α:Type}{A:Nat->Prop}{K:Act->World->Prop}{Q:Exit->Act->World->Prop}{x y:Operand}{t ti e E bytes k:Nat}{ik:IntKind}{d0:Option Tmp}{g0:Option (Nat×Bool)}{dd:TypeDesc}{z z' zi:Value}{sz by_ szi byi:Nat}{r:GR α}(hr:r.fits)(hE:r.sz=E+1)(hT:Eng.Ty P t (.slice e) z sz by_)(hti:Eng.Ty P ti (.int ik) zi szi byi)(he:Eng.Ty P e dd z' (E+1) bytes)(hz:z'.cells.size=E+1)(aD:bytes<=131072)
  {O O0:zR} {w0:World} (sY:OkO O0 w0) (hB:Base A O0 w0 O w) {B:Nat->Prop} (xD:OkB A w0 B) (hx:a.eval x=.slice none 0 0) {kk:IntKind} {m:Int} (hy:a.eval y=.int kk m) {z0:α} (aX:∀O w,r.v O w z' z0) {zs:List α} {n:Nat} (aQ:(mk m z0).run n=some zs) (hk:k≠0)
  (hK:∀u2 w2 O2,zo k r e B O2 w2 u2 zs->Base A O0 w0 O2 w2->KX (some k) O w O2 w2->K (a.put d0 u2) w2):Oper.wp P ⟨d0,.call ⟨.builtin .append,#[x,y],#[t,ti]⟩,T,pos,aft,g0⟩ a w K Q:=by
 obtain⟨⟨h0,h1⟩,h2⟩:=run_mk aQ;unfold LIM at h1;obtain⟨i,hi,hzz,pV,hby'⟩:=he.info;obtain⟨c,rfl⟩:∃c:Nat,m=(c:Int):=⟨m.toNat,by omega⟩
 rw[Int.toNat_natCast]at h2;by_cases hc:c=0
 ·subst hc
  have hu:a.eval y=.int kk 0:=hy;have hw:IntKind.i64.wrap (0:Int)=0:=by grind [IntKind.wrap_i64]
  have fI:(Builtin.append_ #[t,ti] T #[.slice none 0 0,.int kk 0]).run P w=.ok (.slice none 0 0) w:=by
   simp[Builtin.append_,hT.gf,hti.gf,he.zy,sizeOf,typeInfo,hi,asInt,asIntOf,hw]
  refine rA (v:=.slice none 0 0) (w':=w) (by simp[execOp,resolve,invoke,builtin,hx,hu,fI]) (hK _ w O ?_ hB ⟨zLb _,fun _ _ _=>⟨rfl,rfl⟩⟩)
  grind [zo.nil]
 ·have hcb:c * i.bytes<=1073741824 * 131072:=Nat.mul_le_mul (by omega) (by omega)
  have fI:=K2 (P:=P) (w:=w) t ti T e i z' ik hT.u hti.u hi hzz kk c (by omega) (by omega) (by omega) (by omega)
  have tW:=grownCap_ge w c 0 e;have dQ:grownCap w c 0 e<=maxLen:=grownCap_le_maxLen w c 0 e (by grind [maxLen])
  have fX:Ext w (w.drew.alloc (.cells (Builtin.zeroCells z'.cells c++Builtin.zeroCells z'.cells (grownCap w c 0 e-c)) e)):=⟨rfl,rfl,rfl,by simp,fun k hk=>heap_alloc_old w.drew _ hk⟩
  refine rA (v:=.slice (some ⟨w.heap.size,0,none⟩) c (grownCap w c 0 e)) (w':=w.drew.alloc (.cells (Builtin.zeroCells z'.cells c++Builtin.zeroCells z'.cells (grownCap w c 0 e-c)) e)) (by simp[execOp,resolve,invoke,builtin,hx,hy,fI]) ?_
  have dO:(Builtin.zeroCells z'.cells c).toList=flat (List.replicate c z'):=by
   grind [range_zero,flat,List.map_replicate]
  refine hK _ _ (tag O (some w.heap.size) k) ⟨List.replicate c z',?_,?_,fun g hg=>?_⟩ ?_ ?_
  ·rw[hE]
   refine⟨fun x hx=>by grind,?_,.inr ⟨w.heap.size,grownCap w c 0 e,_,by grind,Nat.zero_le _,heap_alloc_new w.drew _,by grind,dQ,?_,?_⟩⟩
   ·grind [size_zeroCells]
   ·rw[Array.size_append,size_zeroCells,size_zeroCells,hz,<-Nat.add_mul];grind
   grind [size_zeroCells]
  ·grind [y5.replicate]
  ·simp only[Value.ownBlock,zLw]at hg
   subst hg;exact⟨yk _ _ _,xD.new _ hB.size⟩
  ·exact(hB.step fX sY).tag hk fun g hg=>by cases hg;exact⟨hB.new _ hB.size,by simp⟩
  ·have h3:KX none O w (tag O (some w.heap.size) k) _:=KX.tag fX fun g hg=>by grind
   exact⟨h3.1,fun b hb _=>h3.2 b hb (by simp)⟩
def EZ(E:VE)(s:S)(d:Option Tmp)(Y Z:TypeId)(φ:Option AV)(m:Option (IntKind×Int))(k:S->Comp β):Comp β:=match φ,m with
 |some φ,some m=>match look E.T Y,look E.T Z with
  |some i,some iz=>match slD i.dd with
   |none=>Comp.fail
   |some e=>match look E.T e with
    |none=>Comp.fail
    |some j=>match Ys φ && (KF j j.τ && (W8 iz.dd).isSome),ofV j.τ j.z with
     |true,some z=>(mk m.2 z).bind fun zs=>k (s.KW d (.sl true j.τ e zs) (.ob s.n))
     |_,_=>Comp.fail
  |_,_=>Comp.fail
 |_,_=>Comp.fail
theorem Ie(hE:E.ok X.P)(h:RelX F s a w X)(hd:F.dst d){x z:Operand}:gN F s a w ⟨d,.call ⟨.builtin .append,#[x,z],#[Y,Z]⟩,T,pos,aft,g⟩ (EZ E s d Y Z (rdO s.ep s.L [] [] x) ((rdO s.ep s.L [] [] z).bind AV.int?) k) k:=by
 intro nf y hr K Q hK;rw[<-h.P];rw[<-h.ep]at hr;unfold EZ at hr;split at hr
 ·rename_i φ m hφ hm
  have k1:=h.rd #[x] x φ (by simp) hφ
  have k2:=vM (h.rd #[z]) (by simp) hm
  split at hr
  ·rename_i i iz hi hiz
   have ht:=(hE.T Y i hi).ty;have htz:=(hE.T Z iz hiz).ty
   split at hr
   ·cases hr
   ·rename_i e he
    rw[ZU he]at ht;split at hr
    ·cases hr
    ·rename_i j hj
     have ht':=(hE.T e j hj).ty;split at hr
     ·rename_i z0 hb aX
      simp only[zLZ]at hb;obtain⟨b1,b2,b3⟩:=hb;obtain⟨ik,eT⟩:=Option.isSome_iff_exists.1 b3;rw[mq eT]at htz;rw[jW b1]at k1;unfold KF at b2;simp only[zLZ]at b2;obtain⟨c1,c2,c3,c4⟩:=b2;rw[za]at c1;have c1:0<j.sz:=by grind
      have c2:=zLY c2;have c4:=zLY c4
      have g1:j.sz=(j.sz-1)+1:=by omega
      rw[g1]at ht';obtain⟨zs,hz,hr⟩:=run_bind hr;obtain⟨τ,t0,t1⟩:=ZN X.ι s.M F.x.st
      refine IM (B:=X.B true) (r:=j.τ.gr X.P) (Ty.fits X.P _) (by grind [Ty.yr]) ht htz ht' (by omega) (Nat.le_of_ble_eq_true c3) h.ok0 h.base (h.okB true) k1 k2 (fun O w=>KL X.P aX O w) hz t0.1 fun u2 w2 O2 q1 q2 q3=>hK _ _ _ (h.KW (φ:=.ob s.n) hd (v:=u2) (u:=u2) q2 q3 t0 t1 fun X' e1 e2 e3 e4 e5 e6 e7 e8 fG=>⟨⟨e7.symm,by omega,ZQ q1⟩,?_⟩) (Inv.KW _ _ _ _) hr
      show zo _ _ _ _ _ _ _ _
      rw[e7,e8,e1,e4,show X'.B=X.B from by funext nw;cases nw<;>simp[Cx.B,e2,e3]]
      exact q1
     ·cases hr
  ·cases hr
 ·cases hr
def mK(E:VE)(s:S)(d:Option Tmp)(φ:Option AV)(l:Option (List AV))(k:S->Comp β):Comp β:=match φ,l with
 |some (.cl f .un .un),some (x::l)=>match E.N f,Ys x with
  |some fs,true=>match Xs (l.map (fun φ=>φ.asT E.G s.M)) fs.ps with
   |some z=>(fs.sem z).bind fun y=>match YW fs.rk fs.rs y with
    |some q=>k (s.obj d (.sl true q.2.1 q.1 q.2.2) (Hy s.n fs.rk fs.rs y))
    |none=>Comp.fail
   |none=>Comp.fail
  |_,_=>Comp.fail
 |_,_=>Comp.fail
theorem Dg{P:Program}{O:zR}{B:Nat}{w:World}{ks:List (Option TypeId)}{rs:Ty}{vs:List Value}{y:rs.D}{q:TypeId×(t:Ty)×List t.D}(hq:YW ks rs y=some q)(h:XA P O B w ks rs vs y):vs≠[]:=by
 intro e;subst e
 match ks,rs,y,hq,h with
 |k::ks,.cons a b,y,hq,h=>obtain⟨v,vs',h1,_⟩:=h;cases h1
theorem DL(hE:E.ok X.P)(h:RelX F s a w X)(hd:F.dst d){x:Operand}{xs:Array Operand}{ts:Array TypeId}:gN F s a w ⟨d,.call ⟨.value x,xs,ts⟩,T,pos,aft,g⟩ (mK E s d (rdO s.ep s.L [] [] x) (jE (rdO s.ep s.L [] []) xs.toList) k) k:=by
 intro nf y hr K Q hK;rw[<-h.P];rw[<-h.ep]at hr;unfold mK at hr;split at hr
 ·rename_i f φ1 l hφ hl
  split at hr
  ·rename_i fs hs hn
   split at hr
   ·rename_i z hz
    obtain⟨y0,cP,hr⟩:=run_bind hr;have H:=h.rd (Op.operands (.call ⟨.value x,xs,ts⟩))
    have k1:=H x _ (by simp[Op.operands,Call.operands]) hφ
    have fA:=jV hl;obtain⟨vs,us,e1,e2,e3⟩:=k1;have e1:vs=[]:=e1
    have e2:us=[]:=e2;subst e1 e2;have fB:∀(i:Nat) φ v,(φ1::l)[i]?=some φ->(xs.toList.map a.eval)[i]?=some v->φ.holds X w v:=by
     intro i φ v hi hv;rw[List.getElem?_map,Option.map_eq_some_iff]at hv;obtain⟨z,hz,rfl⟩:=hv;obtain⟨z',dZ,iH⟩:=Zh hl i φ hi;rw[hz]at dZ;cases dZ;refine H z φ ?_ iH;grind [Op.operands,Call.operands]
    obtain⟨u,vs,sV⟩:∃u vs,xs.toList.map a.eval=u::vs:=by
     cases hxl:xs.toList with
     |nil=>grind
     |cons u vs=>grind
    rw[sV]at fB;have hvl:vs.length=l.length:=by
     have h1:=zLq List.length sV;grind
    have hu:=fB 0 φ1 u rfl rfl;rw[jW hn]at hu;have hu:u=.slice none 0 0:=hu
    subst hu;have fU:fs.ps.args X.P X.O w vs z:=kg hz (by grind) fun i f v hf hv t y hy=>by
     rw[List.getElem?_map,Option.map_eq_some_iff]at hf;obtain⟨ψ,g1,rfl⟩:=hf;exact AV.Z7 hE.G h.m hy (fB (i+1) ψ v (by grind) (by grind))
    obtain⟨o1,o2⟩:=hE.N f fs hs;have hc:=o2 X.O w h.okO vs z fU nf y0 cP
    have sC:(Value.slice none 0 0::vs).toArray=#[]++xs.map a.eval++#[]:=by
     rw[show xs.map a.eval=(xs.toList.map a.eval).toArray by grind,sV];simp
    rw[sC]at hc;refine nv o1 e3 hc fun e w2 he=>?_
    obtain⟨v,he,fX,rs,h3,h4⟩:=he;refine⟨v,he,?_⟩;split at hr
    ·rename_i q hq
     obtain⟨u,h5,h6⟩:=J2 (k:=s.n) hq h4;refine hK _ _ _ (h.Cy fX hd h5 fun X' e1 fG e2 e3 e4=>?_) (Inv.obj _ _ _ _) hr
     grind [Gu,Dg]
    ·cases hr
   ·cases hr
  ·cases hr
 ·cases hr
end
def mG(E:VE)(s:S)(d:Option Tmp)(Y:TypeId)(k:S->Comp β):Option Operand->Comp β
 |some _=>Comp.fail
 |none=>match look E.T Y with
  |some i=>match mpD i.dd with
   |some kv=>match look E.T kv.1,look E.T kv.2 with
    |some p,some q=>k (s.obj d (.mp true p.τ q.τ []) (.ob s.n))
    |_,_=>Comp.fail
   |none=>Comp.fail
  |none=>Comp.fail
def Sy(M:MS):AV->Option (Nat×Bool×(a:Ty)×(b:Ty)×List (a.D×b.D))
 |.ob k=>match look M k with
  |some (_,.mp nw a b xs)=>some (k,nw,⟨a,b,xs⟩)
  |_=>none
 |_=>none
theorem N4{M:MS}{φ:AV}{q}(h:Sy M φ=some q):φ=.ob q.1/\∃st,look M q.1=some (st,.mp q.2.1 q.2.2.1 q.2.2.2.1 q.2.2.2.2):=by
 unfold Sy at h;split at h
 ·split at h
  ·rename_i st nw a b xs hk;cases h;grind
  ·cases h
 ·cases h
def ql(E:VE)(s:S)(Y:TypeId)(k:S->Comp β):Option AV->Option AV->Option AV->Comp β
 |some φ,some ψ,some χ=>match look E.T Y,Sy s.M φ with
  |some i,some q=>match mpD i.dd with
   |some kv=>match look E.T kv.1 with
    |some p=>match p.kq && p.τ.beq q.2.2.1,ψ.asT E.G s.M q.2.2.1,χ.asT E.G s.M q.2.2.2.1 with
     |true,some y,some z=>k (s.mod q.1 (.mp q.2.1 q.2.2.1 q.2.2.2.1 (mpB q.2.2.1.eqb q.2.2.2.2 y z)))
     |_,_,_=>Comp.fail
    |none=>Comp.fail
   |none=>Comp.fail
  |_,_=>Comp.fail
 |_,_,_=>Comp.fail
section
variable {F:Frm} {s:S} {a:Act} {w:World} {X:Cx} {E:VE}
variable {d:Option Tmp} {T Y:TypeId} {pos:String} {aft:Array Edge} {g:Option (Nat×Bool)} {k:S->Comp β}
theorem DI(h:RelX F s a w X)(hd:F.dst d){n:Option Operand}:gN F s a w ⟨d,.makeMap Y n,T,pos,aft,g⟩ (mG E s d Y k n) k:=by
 intro nf y hr K Q hK;rw[<-h.P];unfold mG at hr;split at hr
 ·cases hr
 split at hr
 ·rename_i i hi
  split at hr
  ·rename_i kv hkv
   split at hr
   ·rename_i p q hp hq
    have fI:(execOp a.eval ⟨d,.makeMap Y none,T,pos,aft,g⟩).run X.P w=.ok (.value (.map (some w.heap.size))) (w.alloc (.map #[] 0)):=by simp[execOp,run_makeMap]
    refine rA fI ?_;obtain⟨τ,h0,h1⟩:=ZN X.ι s.M F.x.st;obtain⟨O',hB',hk,hO⟩:=Vy (t:=p.τ) (r:=q.τ.gr X.P) h.ok0 h.base τ h0.1;refine hK _ _ _ (h.obj (φ:=.ob s.n) (Ext.alloc w (.map #[] 0)) hd (u:=.map (some w.heap.size)) hB' hk h0 h1 fun X' e1 e2 e3 e4 e5 e6 e7 e8 fG=>⟨⟨e7.symm,by omega,rfl⟩,?_⟩) (Inv.obj _ _ _ _) hr
    show YA _ _ _ _ _ _ _ _
    rw[e7,e8,e1,e4];show YA _ _ _ X'.F _ _ _ _
    rw[e3,h.Fn];exact hO
   ·cases hr
  ·cases hr
 ·cases hr
theorem rZ(hE:E.ok X.P)(h:RelX F s a w X){m x v:Operand}:gN F s a w ⟨none,.mapUpdate Y m x v,T,pos,aft,g⟩ (ql E s Y k (rdO s.ep s.L [] [] m) (rdO s.ep s.L [] [] x) (rdO s.ep s.L [] [] v)) k:=by
 intro nf y hr K Q hK;rw[<-h.P];rw[<-h.ep]at hr;unfold ql at hr;split at hr
 ·rename_i φ ψ χ hφ hψ hχ
  have k1:=h.rd #[m] m φ (by simp) hφ
  have k2:=h.rd #[x] x ψ (by simp) hψ
  have k3:=h.rd #[v] v χ (by simp) hχ
  split at hr
  ·rename_i i q hi hq
   split at hr
   ·rename_i kv hkv
    split at hr
    ·rename_i p hp
     split at hr
     ·rename_i y0 z hb hy hz
      rw[zLZ]at hb;obtain⟨hkq,hbe⟩:=hb;obtain⟨rfl,st,hk⟩:=N4 hq;have ht:=(hE.T Y i hi).ty
      rw[Rc hkv]at ht;have hK':=(hE.T _ p hp).key hkq
      rw[Ty.wB hbe]at hK';have hy':=S6 hK'.clo (AV.Z7 hE.G h.m hy k2)
      have fD:=h.pos _ _ hk rfl;have hO:YA (X.ι q.1) (gj q.2.2.1) (q.2.2.2.1.gr X.P) (X.B q.2.1) X.O w (X.U q.1) q.2.2.2.2:=h.m _ _ hk
      refine pj h.ok0 h.base (h.okB q.2.1) ht hK' k1.1 hO fD.1 hy' (AV.Z7 hE.G h.m hz k3) fun w' q1 q2 q3=>hK _ undef _ (h.mod hk rfl q2 q3 fun X' e1 e2 e3 e4 e5 e6 fG=>?_) (Inv.mod _ _ _) hr
      show YA _ _ _ _ _ _ _ _
      rw[e6,e1,e4,e5,Cx.Ka e2 e3];exact q1
     ·cases hr
    ·cases hr
   ·cases hr
  ·cases hr
 ·cases hr
theorem NG(hE:E.ok X.P)(h:RelX F s a w X){m x v:Operand}:gN F s a w ⟨none,.insert Y m x v,T,pos,aft,g⟩ (ql E s Y k (rdO s.ep s.L [] [] m) (rdO s.ep s.L [] [] x) (rdO s.ep s.L [] [] v)) k :=
 rZ (T:=T) (pos:=pos) (aft:=aft) (g:=g) hE h
end
abbrev OwQ:=TypeId×(t:Ty)×List t.D
def Yo:List (Option TypeId)->(rs:Ty)->rs.D->Option (List OwQ)
 |some T::ks,.cons a b,y=>match slT a y.1 with
  |some q=>match q.1.closed,Yo ks b y.2 with
   |true,some l=>some ((T,q)::l)
   |_,_=>none
  |none=>none
 |none::ks,.cons a b,y=>match a.closed with
  |true=>Yo ks b y.2
  |false=>none
 | [],.nil,_=>some []
 |_,_,_=>none
def Ct(k:Nat):List (Option TypeId)->(rs:Ty)->rs.D->AV
 |some _::ks,.cons _ b,y=>.pr (.ob k) (Ct (k+1) ks b y.2)
 |none::ks,.cons a b,y=>.pr (.rd a y.1) (Ct k ks b y.2)
 |_,_,_=>.un
def nR(φ:AV):AV:=match φ with
 |.pr ψ .un=>ψ
 |φ=>.tp φ
theorem GM{X':Cx}{w1:World}{φ:AV}{vs:List Value}{v:Value}(h:(φ.sem X' w1).l vs)(fD:vs≠[])(ht:kh vs v):(nR φ).holds X' w1 v:=by
 have hv:v=tup vs:=ht.resolve_left fD;by_cases hu:∃ψ,φ=.pr ψ .un
 ·obtain⟨ψ,rfl⟩:=hu
  obtain⟨v1,aZ,h1,h2,h3⟩:=h;rw[show aZ=[] from h3]at h1
  show ψ.holds X' w1 v
  rw[hv,h1];exact h2
 ·have e:nR φ=.tp φ:=by
   cases φ<;>try rfl
   rename_i a b;cases b<;>first|rfl|grind
  rw[e]
  match vs,fD with
  | [v1],_ =>
   exfalso;cases φ<;>try exact h.elim
   ·cases h
   ·rename_i a b
    obtain⟨_,aZ,h1,_,h3⟩:=h;cases h1;cases b<;>try exact h3.elim
    ·grind
    ·obtain⟨_,_,h4,_⟩:=h3;cases h4
  |v1::v2::vs,_=>exact⟨_,h,hv⟩
structure OwU(P:Program)(B:Nat)(w:World)(q:OwQ)(u:Value):Prop where
 c:q.2.1.closed=true
 o:∃vs,OwnS w B q.1 (q.2.1.gr P).sz u vs/\∀O,y5 (q.2.1.gr P) O w vs q.2.2
theorem JD{P:Program}{t:Ty}(hc:t.closed=true){O O' w}:∀ {vs:List Value} {xs:List t.D},y5 (t.gr P) O w vs xs->y5 (t.gr P) O' w vs xs
 | [],[],_=>trivial
 |v::vs,x::xs,h=>⟨Xa hc h.1,JD hc h.2⟩
 | [],_::_,h=>h.elim
 |_::_,[],h=>h.elim
def Ue(P:Program)(B:Nat)(w:World):List OwQ->List Value->Prop
 | [],[]=>True
 |q::qs,u::us=>OwU P B w q u/\Ue P B w qs us/\∀g,u.ownBlock=some g->∀u'∈us,u'.ownBlock≠some g
 |_,_=>False
theorem JF{P:Program}{O:zR}{B:Nat}{w1:World}:∀ {ks:List (Option TypeId)} {rs:Ty} {y:rs.D} {vs:List Value} {qs:List OwQ},Yo ks rs y=some qs->XA P O B w1 ks rs vs y ->
  ∃us,Ue P B w1 qs us/\(∀u∈us,∀g,u.ownBlock=some g->g∈K9 ks vs)/\∀(X':Cx) (k:Nat),X'.P=P->(∀(j:Nat) u,us[j]?=some u->X'.U (k+j)=u/\k+j<X'.n/\u.oneCell'=true)->((Ct k ks rs y).sem X' w1).l vs
 |some T::ks,.cons a b,y,vs,qs,hq,h=>by
  simp only[Yo]at hq;split at hq
  ·rename_i q hs
   split at hq
   ·rename_i l hc hl
    cases hq
    obtain⟨v,vs',h1,h2,h3,h4⟩:=h;obtain⟨e,he⟩:=Qv hs;subst e;obtain⟨us,f1,f2,f3⟩:=JF hl h3;have h2:Zo (q.1.gr P) T B O w1 v y.1:=h2
    have he:y.1=q.2:=he;rw[he]at h2;obtain⟨zs,g1,g2⟩:=h2;refine⟨v::us,⟨⟨hc,zs,g1,fun O=>JD hc g2⟩,f1,fun g hg u' hu' hg'=>h4 g hg (f2 u' hu' g hg')⟩,?_,fun X' k hP hU=>⟨v,vs',h1,?_,f3 X' (k+1) hP fun j u hj=>?_⟩⟩
    ·intro u hu g hg
     rw[h1];simp only[K9,zLi,Option.mem_toList];rcases zLd.1 hu with rfl|hu
     ·exact .inl hg
     grind
    ·obtain⟨p1,p2,p3⟩:=hU 0 v rfl
     exact⟨p1.symm,p2,p3⟩
    ·have:=hU (j+1) u hj
     grind
   ·cases hq
  ·cases hq
 |none::ks,.cons a b,y,vs,qs,hq,h=>by
  simp only[Yo]at hq;split at hq
  ·rename_i hc
   obtain⟨v,vs',h1,h2,h3,_⟩:=h;obtain⟨us,f1,f2,f3⟩:=JF hq h3;refine⟨us,f1,fun u hu g hg=>by grind [K9],fun X' k hP hU=>⟨v,vs',h1,?_,f3 X' k hP hU⟩⟩
   show (a.gr X'.P).v _ _ _ _
   rw[hP];exact Xa hc h2
  ·cases hq
 | [],.nil,y,vs,qs,hq,h=>by
  cases hq
  exact⟨[],trivial,(fun u hu=>by cases hu),fun X' k hP hU=>h⟩
 | [],.int _,_,_,_,h,_ | [],.bool,_,_,_,h,_ | [],.str,_,_,_,h,_ | [],.sl _,_,_,_,h,_ | [],.cons ..,_,_,_,h,_ | [],.arr ..,_,_,_,h,_ | [],.box ..,_,_,_,h,_ | [],.fn ..,_,_,_,h,_ | [],.seq ..,_,_,_,h,_ | [],.slo ..,_,_,_,h,_ | [],.mp ..,_,_,_,h,_=>by cases h
 |some _::_,.int _,_,_,_,h,_|some _::_,.bool,_,_,_,h,_|some _::_,.str,_,_,_,h,_|some _::_,.sl _,_,_,_,h,_|some _::_,.nil,_,_,_,h,_|some _::_,.arr ..,_,_,_,h,_|some _::_,.box ..,_,_,_,h,_|some _::_,.fn ..,_,_,_,h,_|some _::_,.seq ..,_,_,_,h,_|some _::_,.slo ..,_,_,_,h,_|some _::_,.mp ..,_,_,_,h,_=>by cases h
 |none::_,.int _,_,_,_,h,_|none::_,.bool,_,_,_,h,_|none::_,.str,_,_,_,h,_|none::_,.sl _,_,_,_,h,_|none::_,.nil,_,_,_,h,_|none::_,.arr ..,_,_,_,h,_|none::_,.box ..,_,_,_,h,_|none::_,.fn ..,_,_,_,h,_|none::_,.seq ..,_,_,_,h,_|none::_,.slo ..,_,_,_,h,_|none::_,.mp ..,_,_,_,h,_=>by cases h
def tgs(O:zR):Nat->List Value->zR
 |_,[]=>O
 |τ,u::us=>tag (tgs O (τ+1) us) u.ownBlock τ
theorem uc{O:zR}{b:Nat}:∀ {τ:Nat} {us:List Value},(∀u∈us,u.ownBlock≠some b)->tgs O τ us b=O b
 |_,[],_=>rfl
 |τ,u::us,h=>by
  unfold tgs;rw[gH (h u (by simp)),uc fun u' hu'=>h u' (by grind)]
theorem qM{A:Nat->Prop}{O Oc:zR}{w0 w:World}(h:Base A O w0 Oc w):∀ {τ:Nat} {us:List Value},τ≠0->(∀u∈us,∀g,u.ownBlock=some g->A g/\g<w.heap.size)->Base A O w0 (tgs Oc τ us) w
 |_,[],_,_=>h
 |τ,u::us,h0,hu=>(qM h (τ:=τ+1) (us:=us) (by omega) fun u' hu'=>hu u' (by grind)).tag h0 (hu u (by simp))
def S.rU(s:S)(d:Option Tmp)(φ:AV):List OwQ->S
 | []=>s.put d φ
 |q::qs=>(s.obj none (.sl true q.2.1 q.1 q.2.2) .top).rU d φ qs
theorem Inv.rU{d:Option Tmp}{φ:AV}:∀(qs:List OwQ) (s:S),Inv s (s.rU d φ qs)
 | [],s=>Inv.put _ _ _
 |q::qs,s=>(Inv.obj _ _ _ _).trans (Inv.rU qs _)
section
variable {F:Frm} {a:Act} {d:Option Tmp} {v:Value} {φ:AV} {O':zR} {w':World}
theorem mZ(hd:F.dst d)(hB:Base F.A F.O0 F.w0 O' w'):∀ {qs:List OwQ} {us:List Value} {s:S} {X:Cx} {w:World} {τ:Nat},RelX F s a w X->Ext w w'->KX none X.O w O' w'->(qs=[]->X.O=O')->(τ≠0/\F.x.st<τ)->(∀k e,look s.M k=some e->X.ι k<τ) ->
  qs.length=us.length->(∀(j:Nat) q u,qs[j]?=some q->us[j]?=some u->zo (τ+j) (q.2.1.gr X.P) q.1 (Go.Lift.Fr F.w0) O' w' u q.2.2) ->
  (∀X':Cx,X'.P=X.P->X'.O=O'->(∀k,k<X.n->X'.U k=X.U k)->X.n<=X'.n->(∀(j:Nat) u,us[j]?=some u->X'.U (s.n+j)=u/\s.n+j<X'.n/\u.oneCell'=true)->φ.holds X' w' v)->Rel F (s.rU d φ qs) (a.put d v) w'
 | [],us,s,X,w,τ,h,hE,hk,h0,hτ,hι,hl,hO,hφ=>by
  have cQ:us=[]:=List.eq_nil_of_length_eq_zero hl.symm;subst cQ;exact⟨_,h.val hE hd (hφ X rfl (h0 rfl) (fun _ _=>rfl) (zLb _) fun j u hj=>by grind)⟩
 |q::qs,[],s,X,w,τ,h,hE,hk,h0,hτ,hι,hl,hO,hφ=>by cases hl
 |q::qs,u::us,s,X,w,τ,h,hE,hk,h0,hτ,hι,hl,hO,hφ=>by
  have sY:zo τ (q.2.1.gr X.P) q.1 (Go.Lift.Fr F.w0) O' w' u q.2.2:=hO 0 q u rfl rfl;obtain⟨X2,r1,r2,r3,r4,r5,r6,r7,r8⟩:=h.zHT (d:=none) hE (fun _ e=>nomatch e) (v:=u) (u:=u) (mv:=.sl true q.2.1 q.1 q.2.2) (φ:=.top) hB hk ⟨hτ.1,by omega⟩ (fun k e he=>by grind)
   (fun X' e1 e2 e3 e4 e5 e6 e7 e8 fG=>⟨trivial,by
    show zo _ _ _ _ _ _ _ _
    rw[e7,e8,e1,e4];show zo _ _ _ (X'.F) _ _ _ _
    rw[e3,h.Fn];exact sY⟩)
  have hn:(s.obj none (.sl true q.2.1 q.1 q.2.2) .top).n=s.n+1:=rfl;refine mZ hd hB (qs:=qs) (us:=us) (τ:=τ+1) r1 (Ext.refl _) ⟨zLb _,fun b _ _=>⟨by rw[r3],rfl⟩⟩ (fun _=>r3) ⟨by omega,by omega⟩ (fun k e he=>?_) (by grind) (fun j q' u' hq hu=>?_) (fun X' hP hO' hUo c6 hU=>hφ X' (hP.trans r2) hO' (fun k hk=>(hUo k (by rw[r8];have:=h.n;omega)).trans (r7.U k hk)) (zLg r7.n c6) fun j u' hj=>?_)
  ·rcases zC he with ⟨h1,h2⟩|⟨h1,h2⟩
   ·grind
   grind
  ·have:=hO (j+1) q' u' hq hu
   grind
  ·cases j with
   |zero =>
    grind [ZQ]
   |succ j =>
    grind
end
theorem qh{P:Program}{B:Nat}{w:World}:∀ {qs:List OwQ} {us:List Value},Ue P B w qs us->qs.length=us.length
 | [],[],_=>rfl
 |q::qs,u::us,h=>by simp[qh h.2.1]
 | [],_::_,h=>h.elim
 |_::_,[],h=>h.elim
theorem CY{P:Program}{B:Nat}{w:World}:∀ {qs:List OwQ} {us:List Value},Ue P B w qs us->∀u∈us,∃q,OwU P B w q u
 | [],[],_,u,hu=>by cases hu
 |q::qs,u0::us,h,u,hu=>by
  rcases zLd.1 hu with rfl|hu
  ·exact⟨q,h.1⟩
  ·exact CY h.2.1 u hu
 | [],_::_,h,_,_=>h.elim
 |_::_,[],h,_,_=>h.elim
theorem CX{P:Program}{B:Nat}{w:World}{O:zR}:∀ {qs:List OwQ} {us:List Value} {τ:Nat},Ue P B w qs us->∀(j:Nat) q u,qs[j]?=some q->us[j]?=some u->OwU P B w q u/\∀g,u.ownBlock=some g->tgs O τ us g=τ+j
 | [],[],_,_,j,q,u,hq,_=>by grind
 |q0::qs,u0::us,τ,h,j,q,u,hq,hu=>by
  cases j with
  |zero =>
   simp only[List.getElem?_cons_zero,zLw]at hq hu;subst hq hu;exact⟨h.1,fun g hg=>by simp_all [tgs,yk]⟩
  |succ j =>
   have hq':qs[j]?=some q:=by grind
   have hu':us[j]?=some u:=by grind
   obtain⟨r1,r2⟩:=CX (O:=O) (τ:=τ+1) h.2.1 j q u hq' hu';refine⟨r1,fun g hg=>?_⟩
   unfold tgs;rw[gH (fun e=>h.2.2 g e u (zLe hu') hg),r2 g hg]
   omega
 | [],_::_,_,h,_,_,_,_,_=>h.elim
 |_::_,[],_,h,_,_,_,_,_=>h.elim
def zAr(ks:List (Option TypeId)):Bool:=Nat.ble 2 (ks.filter Option.isSome).length
theorem RelX.zDd{F:Frm}{s:S}{a:Act}{w w':World}{X:Cx}(h:RelX F s a w X)(hE:Ext w w'){d:Option Tmp}(hd:F.dst d){v:Value}{ks:List (Option TypeId)}{rs:Ty}{y:rs.D}{vs:List Value}{qs:List OwQ}(hm:zAr ks=true)(hq:Yo ks rs y=some qs)(hr:XA X.P X.O w.heap.size w' ks rs vs y)(ht:kh vs v) :
  Rel F (s.rU d (nR (Ct s.n ks rs y)) qs) (a.put d v) w':=by
 have fD:vs≠[]:=by
  intro e;subst e
  match ks,rs,y,hq,hr,hm with
  | [],_,_,_,_,hm=>cases hm
  |k::ks,.cons a b,y,hq,h,_=>obtain⟨v,vs',h1,_⟩:=h;cases h1
 obtain⟨us,f1,_,f3⟩:=JF hq hr;obtain⟨τ,b9,hτ1⟩:∃τ,(τ≠0/\F.x.st<τ)/\∀k e,look s.M k=some e->X.ι k<τ:=by
  refine⟨1+F.x.st+(s.M.map fun e=>X.ι e.1).sum,⟨by omega,by omega⟩,fun k e h=>?_⟩
  have:=uG (l:=s.M.map fun e=>X.ι e.1) (x:=X.ι k) (List.mem_map.2 ⟨_,ZK h,rfl⟩)
  omega
 have tW:∀u∈us,∀g,u.ownBlock=some g->w.heap.size<=g/\g<w'.heap.size:=fun u hu g hg=>by
  obtain⟨q,hq⟩:=CY f1 u hu;obtain⟨zs,g1,_⟩:=hq.o;exact⟨g1.JO g hg,g1.gK g hg⟩
 have hB:=h.base.step hE h.ok0;have hs:=h.base.size
 refine mZ hd (qM (τ:=τ) (us:=us) hB b9.1 fun u hu g hg=>⟨hB.new g (by grind),(tW u hu g hg).2⟩) h hE ⟨hE.size,fun b hb _=>⟨uc fun u hu e=>by grind,hE.block b hb⟩⟩ (fun e=>?_) b9 hτ1 (qh f1) (fun j q u hqj nP=>?_) fun X' hP _ _ _ hU=>GM (f3 X' s.n hP hU) fD ht
 ·subst e
  have:=qh f1;have:us=[]:=List.eq_nil_of_length_eq_zero this.symm
  subst this;rfl
 ·obtain⟨r1,r2⟩:=CX (O:=X.O) (τ:=τ) f1 j q u hqj nP
  obtain⟨zs,g1,g2⟩:=r1.o;exact⟨zs,g1.mono (Nat.zero_le _),g2 _,fun g hg=>⟨r2 g hg,by have:=(tW u (zLe nP) g hg).1;show F.w0.heap.size<=g;omega⟩⟩
def Knd.q:(k:Knd)->k.D->List OwQ
 |.o _ t T,xs=>[(T,⟨t,xs⟩)]
 |.pr a b,x=>a.q x.1++b.q x.2
 |.ag l,x=>l.q x
 |_,_=>[]
def Knd.a(n:Nat):(k:Knd)->k.D->AV
 |.v t,x=>.rd t x
 |.o ..,_=>.ob n
 |.un,_=>.un
 |.pr a b,x=>.pr (a.a n x.1) (b.a (n+(a.q x.1).length) x.2)
 |.ag l,x=>.ag (l.a n x)
 |_,_=>.top
theorem uD{P:Program}{O:zR}{w:World}{B:Nat}:∀ {k:Knd} {x:k.D} {cs us:List Value},Ce P O w B k x cs us->(k.q x).length=us.length/\∀(j:Nat) q u,(k.q x)[j]?=some q->us[j]?=some u->u.oneCell'=true/\∃vs,OwnS w B q.1 (q.2.1.gr P).sz u vs/\y5 (q.2.1.gr P) O w vs q.2.2
 |.v t,x,cs,us,h=>by obtain⟨_,rfl⟩:=h;exact⟨rfl,fun j q u hq=>by grind⟩
 |.o nw t T,xs,cs,us,h=>by
  obtain⟨u,vs,rfl,rfl,h0,h1,h2⟩:=h;refine⟨rfl,fun j q u' hq hu=>?_⟩
  grind [Knd.q]
 |.un,_,cs,us,h=>by obtain⟨_,rfl⟩:=h;exact⟨rfl,fun j q u hq=>by grind⟩
 |.pr a b,x,cs,us,h=>by
  obtain⟨c1,c2,u1,u2,rfl,rfl,h1,h2⟩:=h;obtain⟨a1,a2⟩:=uD h1;obtain⟨b1,b2⟩:=uD h2;refine⟨by grind [Knd.q],fun j q u hq hu=>?_⟩
  simp only[Knd.q]at hq;grind
 |.ag l,x,cs,us,h=>uD (k:=l) h
 |.m ..,_,_,_,h=>h.elim
 |.bv ..,_,_,_,h=>h.elim
theorem l6{P:Program}{O:zR}{w:World}{B:Nat}{X':Cx}(hP:X'.P=P)(hk:zb 0 O w X'.O w):∀ {k:Knd} {x:k.D} {cs us:List Value} {n:Nat},Ce P O w B k x cs us->(∀(j:Nat) u,us[j]?=some u->X'.U (n+j)=u/\n+j<X'.n)->((k.a n x).sem X' w).c cs
 |.v t,x,cs,us,n,h,hU=>by
  show (t.gr X'.P).rel X'.O w cs x
  rw[hP];exact GR.mono _ hk h.1
 |.o nw t T,xs,cs,us,n,h,hU=>by
  obtain⟨u,vs,rfl,rfl,h0,h1,h2⟩:=h;obtain⟨g1,g2⟩:=hU 0 u rfl;exact⟨u,rfl,h0,g1.symm,g2,h0⟩
 |.un,_,cs,us,n,h,hU=>by obtain⟨rfl,rfl⟩:=h;exact rfl
 |.pr a b,x,cs,us,n,h,hU=>by
  obtain⟨c1,c2,u1,u2,rfl,rfl,h1,h2⟩:=h;have hl:=(uD h1).1
  have a1:=l6 hP hk (n:=n) h1 fun j u hj=>hU j u (by grind)
  have b1:=l6 hP hk (n:=n+(a.q x.1).length) h2 fun j u hj=>by
   simp_all [zLo,Nat.add_assoc]
  exact⟨c1,c2,rfl,a1,b1⟩
 |.ag l,x,cs,us,n,h,hU=>l6 (k:=l) hP hk (n:=n) h hU
 |.m ..,_,_,_,_,h,_=>h.elim
 |.bv ..,_,_,_,_,h,_=>h.elim
def Knd.zEp:Knd->Bool
 |.v _|.o .. | .ag _=>true
 |_=>false
theorem zBX{P:Program}{O:zR}{w:World}{B:Nat}{X':Cx}(hP:X'.P=P)(hk:zb 0 O w X'.O w){k:Knd}{x:k.D}{cs us:List Value}{n:Nat}(hv:k.zEp=true)(h:Ce P O w B k x cs us)(hU:∀(j:Nat) u,us[j]?=some u->X'.U (n+j)=u/\n+j<X'.n):(k.a n x).holds X' w (yD k.agg cs):=by
 have hc:=l6 hP hk (n:=n) h hU
 cases k with
 |v t=>exact zHN hc
 |o nw t T =>
  obtain⟨u,vs,rfl,rfl,h0,h1,h2⟩:=h;obtain⟨g1,g2⟩:=hU 0 u rfl;exact⟨g1.symm,g2,h0⟩
 |ag l=>exact⟨cs,hc,rfl⟩
 |_=>cases hv
def Knd.EB:Knd->Bool
 |.pr a b=>a.zEp && b.EB
 |.un=>true
 |_=>false
theorem Gi{P:Program}{O:zR}{w:World}{B:Nat}{X':Cx}(hP:X'.P=P)(hk:zb 0 O w X'.O w):∀ {k:Knd} {x:k.D} {vs us:List Value} {n:Nat},k.EB=true->K8 P O w B k x vs us->(∀(j:Nat) u,us[j]?=some u->X'.U (n+j)=u/\n+j<X'.n)->((k.a n x).sem X' w).l vs
 |.pr a b,x,vs,us,n,hv,h,hU=>by
  simp only[Knd.EB,zLZ]at hv;obtain⟨v,vs',u1,u2,cs,rfl,rfl,rfl,h1,h2⟩:=h;have hl:=(uD h1).1
  refine⟨_,vs',rfl,zBX hP hk hv.1 h1 fun j u hj=>hU j u (by grind),Gi hP hk hv.2 h2 fun j u hj=>?_⟩
  simp_all [zLo,Nat.add_assoc]
 |.un,_,vs,us,n,_,h,hU=>h.1
 |.v _,_,_,_,_,_,h,_|.o ..,_,_,_,_,_,h,_|.m ..,_,_,_,_,_,h,_|.bv ..,_,_,_,_,_,h,_|.ag _,_,_,_,_,_,h,_=>h.elim
theorem Gg{P:Program}{O:zR}{w:World}{B:Nat}:∀ {k:Knd} {x:k.D} {vs us:List Value},K8 P O w B k x vs us->(k.q x).length=us.length/\∀(j:Nat) q u,(k.q x)[j]?=some q->us[j]?=some u->u.oneCell'=true/\∃vs,OwnS w B q.1 (q.2.1.gr P).sz u vs/\y5 (q.2.1.gr P) O w vs q.2.2
 |.pr a b,x,vs,us,h=>by
  obtain⟨v,vs',u1,u2,cs,rfl,rfl,_,h1,h2⟩:=h;obtain⟨a1,a2⟩:=uD h1;obtain⟨b1,b2⟩:=Gg h2;refine⟨by grind [Knd.q],fun j q u hq hu=>?_⟩
  simp only[Knd.q]at hq;grind
 |.un,_,vs,us,h=>by obtain⟨_,rfl⟩:=h;exact⟨rfl,fun j q u hq=>by grind⟩
 |.v _,_,_,_,h|.o ..,_,_,_,h|.m ..,_,_,_,h|.bv ..,_,_,_,h|.ag _,_,_,_,h=>h.elim
def Knd.un?:Knd->Bool
 |.un=>true
 |_=>false
theorem NW{P:Program}{O:zR}{w:World}{B:Nat}{k:Knd}{x:k.D}{vs us:List Value}(hn:k.un?=false)(h:K8 P O w B k x vs us):vs≠[]:=by
 cases k<;>first|exact h.elim|cases hn|skip
 obtain⟨v,vs',u1,u2,cs,rfl,_⟩:=h;simp
theorem U1{O:zR}{us:List Value}{b:Nat}(h:uI O us b=0):O b=0/\∀u∈us,u.ownBlock≠some b:=by
 grind [uI]
theorem Qo{O:zR}:∀ {us:List Value} {τ:Nat},(us.filterMap Value.ownBlock).Nodup->∀(j:Nat) u g,us[j]?=some u->u.ownBlock=some g->tgs O τ us g=τ+j
 | [],_,_,j,u,g,h,_=>by simp at h
 |u0::us,τ,hn,j,u,g,hu,hg=>by
  have hnt:(us.filterMap Value.ownBlock).Nodup:=by
   grind
  cases j with
  |zero =>
   simp_all [tgs,yk]
  |succ j =>
   have hu':us[j]?=some u:=by grind
   have fD:u0.ownBlock≠some g:=fun h0=>by
    grind
   unfold tgs;rw[gH fD,Qo (τ:=τ+1) hnt j u g hu' hg];omega
section
variable {F:Frm} {s:S} {a:Act} {w w':World} {X:Cx}
theorem RelX.zKx(h:RelX F s a w X)(hE:Ext w w'){d:Option Tmp}(hd:F.dst d){v:Value}{kd:Knd}{y:kd.D}{vs us:List Value}(hv:kd.EB=true)(oW:kd.un?=false)(hr:K8 X.P (uI X.O us) w' w.heap.size kd y vs us)(sA:(us.filterMap Value.ownBlock).Nodup)(ht:kh vs v) :
  Rel F (s.rU d (nR (kd.a s.n y)) (kd.q y)) (a.put d v) w':=by
 have fD:=NW oW hr;obtain⟨f1,f2⟩:=Gg hr;obtain⟨τ,b9,hτ1⟩:∃τ,(τ≠0/\F.x.st<τ)/\∀k e,look s.M k=some e->X.ι k<τ:=by
  refine⟨1+F.x.st+(s.M.map fun e=>X.ι e.1).sum,⟨by omega,by omega⟩,fun k e h=>?_⟩
  have:=uG (l:=s.M.map fun e=>X.ι e.1) (x:=X.ι k) (List.mem_map.2 ⟨_,ZK h,rfl⟩)
  omega
 have xP:∀u∈us,∀g,u.ownBlock=some g->w.heap.size<=g/\g<w'.heap.size:=fun u hu g hg=>by
  obtain⟨j,hj⟩:=List.mem_iff_getElem?.1 hu;have gF:j<(kd.q y).length:=by grind
  obtain⟨_,zs,g1,_⟩:=f2 j _ u (zMD gF) hj;exact⟨g1.JO g hg,g1.gK g hg⟩
 have hB:=h.base.step hE h.ok0;have hs:=h.base.size
 have hkt:zb 0 (uI X.O us) w' (tgs X.O τ us) w':=⟨zLb _,fun b _ hz=>by
  obtain⟨q1,q2⟩:=U1 hz;exact⟨(uc q2).trans q1,rfl⟩⟩
 refine mZ hd (qM (τ:=τ) (us:=us) hB b9.1 fun u hu g hg=>⟨hB.new g (by grind),(xP u hu g hg).2⟩) h hE ⟨hE.size,fun b hb _=>⟨uc fun u hu e=>by grind,hE.block b hb⟩⟩ (fun e=>?_) b9 hτ1 f1 (fun j q u hqj nP=>?_) fun X' hP hO' _ _ hU=>?_
 ·have:us=[]:=List.eq_nil_of_length_eq_zero (by grind)
  subst this;rfl
 ·obtain⟨_,zs,g1,g2⟩:=f2 j q u hqj nP
  exact⟨zs,g1.mono (Nat.zero_le _),g2.mono hkt,fun g hg=>⟨Qo sA j u g nP hg,by have:=(xP u (zLe nP) g hg).1;show F.w0.heap.size<=g;omega⟩⟩
 ·exact GM (Gi hP (by grind) hv hr fun j u hj=>⟨(hU j u hj).1,(hU j u hj).2.1⟩) fD ht
variable {E:VE} {d:Option Tmp} {T:TypeId} {pos:String} {aft:Array Edge} {g:Option (Nat×Bool)} {k:S->Comp β}
def mO(E:VE)(s:S)(d:Option Tmp)(φ:Option AV)(l:Option (List AV))(k:S->Comp β):Comp β:=match φ,l with
 |some (.cl f ca cb),some l=>match E.J f with
  |none=>Comp.fail
  |some fs=>match fs.kd.EB && !fs.kd.un?,Xs ((ca.asv E.G s.M).2.2++(l.map (fun φ=>φ.asT E.G s.M)++(cb.asv E.G s.M).2.2)) fs.ps with
   |true,some z=>(fs.sem z).bind fun y=>k (s.rU d (nR (fs.kd.a s.n y)) (fs.kd.q y))
   |_,_=>Comp.fail
 |_,_=>Comp.fail
theorem DO(hE:E.ok X.P)(h:RelX F s a w X)(hd:F.dst d){x:Operand}{xs:Array Operand}{ts:Array TypeId}:gN F s a w ⟨d,.call ⟨.value x,xs,ts⟩,T,pos,aft,g⟩ (mO E s d (rdO s.ep s.L [] [] x) (jE (rdO s.ep s.L [] []) xs.toList) k) k:=by
 intro nf y hr K Q hK;rw[<-h.P];rw[<-h.ep]at hr;unfold mO at hr;split at hr
 ·rename_i f ca cb l hφ hl
  split at hr
  ·cases hr
  ·rename_i fs hs
   split at hr
   ·rename_i z hvu hz
    rw[zLZ]at hvu;obtain⟨y0,cP,hr⟩:=run_bind hr;have H:=h.rd (Op.operands (.call ⟨.value x,xs,ts⟩))
    have k1:=H x _ (by simp[Op.operands,Call.operands]) hφ
    have fA:=jV hl;have fB:=Kp hE.G h.m (a:=a) hl fun z ψ hz hψ=>H z ψ (by grind [Op.operands,Call.operands]) hψ
    have tR:(xs.map a.eval)=(xs.toList.map a.eval).toArray:=by grind
    obtain⟨vs,us,e1,e2,e3⟩:=k1;have A:=AV.jR hE.G ca h.m
    have B:=AV.jR hE.G cb h.m;obtain⟨f1,f2⟩:=hE.J f fs hs;have n1:=A.n e1
    have n2:=B.n e2;have fU:fs.ps.args X.P X.O w (vs++(xs.toList.map a.eval++us)) z:=kg hz (by grind) (XH (R:=fun f v=>∀t x,f t=some x->(t.gr X.P).v X.O w v x) n1 (A.e e1) (XH (by grind) fB (B.e e2)))
    have hp:=f2 X.O w h.okO _ _ fU nf y0 cP;refine Kd (d:=d) (T:=T) (pos:=pos) (aft:=aft) (g:=g) (ts:=ts) e3 tR (Xm f1 (by rw[Yx];exact hp)) K Q fun v w' fX hv=>?_
    obtain⟨rs,us',h3,h4,h5⟩:=hv;exact hK _ _ _ (h.zKx fX hd hvu.1 (by grind) h4 h5 h3) (Inv.rU _ _) hr
   ·cases hr
 ·cases hr
end
section
variable {F:Frm} {s:S} {a:Act} {w:World} {X:Cx} {E:VE}
variable {d:Option Tmp} {T Y:TypeId} {pos:String} {aft:Array Edge} {g:Option (Nat×Bool)} {k:S->Comp β}
theorem CT(hE:E.ok X.P){M:MS}(hM:yE M X w)(hO:OkO X.O w){rd:Operand->Option AV}{x:Operand}{xs:Array Operand}{ts:Array TypeId}(H:ZY X w a rd (Op.operands (.call ⟨.value x,xs,ts⟩))){f:FuncId}{ca cb:AV}{l:List AV}(h1:rd x=some (.cl f ca cb))(h2:jE rd xs.toList=some l){fs:FS}(hs:E.G f=some fs)
  {z:fs.ps.D} (hz:Xs ((ca.asv E.G M).2.2++(l.map (fun φ=>φ.asT E.G M)++(cb.asv E.G M).2.2)) fs.ps=some z) {nf:Nat} {y:fs.rs.D} (hy:(fs.sem z).run nf=some y) :
  Ok X.P ⟨d,.call ⟨.value x,xs,ts⟩,T,pos,aft,g⟩ a w (fun w' v=>∃rs,kh rs v/\XA X.P X.O w.heap.size w' fs.rk fs.rs rs y):=by
 have k1:=H x _ (by simp[Op.operands,Call.operands]) h1
 have fA:=jV h2;have fB:=Kp hE.G hM (a:=a) h2 fun y ψ hy hψ=>H y ψ (by grind [Op.operands,Call.operands]) hψ
 have tR:(xs.map a.eval)=(xs.toList.map a.eval).toArray:=by grind
 obtain⟨vs,us,e1,e2,e3⟩:=k1;have A:=AV.jR hE.G ca hM
 have B:=AV.jR hE.G cb hM;obtain⟨f1,f2⟩:=hE.G f fs hs;refine Kd e3 tR (Xm f1 ?_);rw[Yx];have n1:=A.n e1
 have n2:=B.n e2;have fU:fs.ps.args X.P X.O w (vs++(xs.toList.map a.eval++us)) z:=kg hz (by grind) (XH (R:=fun f v=>∀t x,f t=some x->(t.gr X.P).v X.O w v x) n1 (A.e e1) (XH (by grind) fB (B.e e2)))
 grind
def zDt(G:FE):Option AV->Bool
 |some (.cl f _ _)=>match G f with
  |some fs=>fs.rk.any Option.isSome
  |none=>false
 |_=>false
def zGj(G:ME):Option AV->Bool
 |some (.cl f _ _)=>(G f).isSome
 |_=>false
def H7{α:Type}(G:FuncId->Option α):Option AV->Bool
 |some (.cl f _ _)=>(G f).isSome
 |_=>false
def tlV:Option (List AV)->List AV
 |some (_::l)=>l
 |_=>[]
def rG:List (Option TypeId)->Ty->Bool
 |none::ks,.cons a b=>a.closed && rG ks b
 |some _::ks,.cons a b=>(match a with
  |.sl e=>e.closed
  |_=>false) && rG ks b
 | [],.nil=>true
 |_,_=>false
def H5(G:FE)(M:MS)(fs:FS):MS:=match rG fs.rk fs.rs with
 |true=>Sz G M
 |false=>M
theorem wJ{P:Program}{O O':zR}{B:Nat}{w:World}:∀ {ks:List (Option TypeId)} {rs:Ty} {vs:List Value} {y:rs.D},rG ks rs=true->XA P O B w ks rs vs y->XA P O' B w ks rs vs y
 |k::ks,.cons a b,vs,y,hl,h=>by
  obtain⟨v,vs',h1,h2,h3,h4⟩:=h
  cases k with
  |none =>
   simp only[rG,zLZ]at hl;exact⟨v,vs',h1,Xa hl.1 h2,wJ hl.2 h3,h4⟩
  |some T =>
   simp only[rG,zLZ]at hl;refine⟨v,vs',h1,?_,wJ hl.2 h3,h4⟩;cases a<;>first|exact h2.elim|skip
   obtain⟨zs,g1,g2⟩:=h2;exact⟨zs,g1,JD hl.1 g2⟩
 | [],.nil,vs,_,_,h=>h
 | [],.int _,_,_,h,_ | [],.bool,_,_,h,_ | [],.str,_,_,h,_ | [],.sl _,_,_,h,_ | [],.cons ..,_,_,h,_ | [],.arr ..,_,_,h,_ | [],.box ..,_,_,h,_ | [],.fn ..,_,_,h,_ | [],.seq ..,_,_,h,_ | [],.slo ..,_,_,h,_ | [],.mp ..,_,_,h,_=>by cases h
 |_::_,.int _,_,_,_,h|_::_,.bool,_,_,_,h|_::_,.str,_,_,_,h|_::_,.sl _,_,_,_,h|_::_,.nil,_,_,_,h|_::_,.arr ..,_,_,_,h|_::_,.box ..,_,_,_,h|_::_,.fn ..,_,_,_,h|_::_,.seq ..,_,_,_,h|_::_,.slo ..,_,_,_,h|_::_,.mp ..,_,_,_,h=>h.elim
def EY(E:VE)(s:S)(d:Option Tmp)(φ:Option AV)(l:Option (List AV))(k:S->Comp β):Comp β:=match φ,l with
 |some (.cl f ca cb),some l=>match E.G f with
  |none=>Comp.fail
  |some fs=>match Xs ((ca.asv E.G (H5 E.G s.M fs)).2.2++(l.map (fun φ=>φ.asT E.G (H5 E.G s.M fs))++(cb.asv E.G (H5 E.G s.M fs)).2.2)) fs.ps with
   |some z=>(fs.sem z).bind fun y=>match YW fs.rk fs.rs y with
    |some q=>k (s.obj d (.sl true q.2.1 q.1 q.2.2) (Hy s.n fs.rk fs.rs y))
    |none=>match zAr fs.rk,Yo fs.rk fs.rs y with
     |true,some qs=>k (s.rU d (nR (Ct s.n fs.rk fs.rs y)) qs)
     |_,_=>k (s.put d (Cn fs.rs y))
   |none=>Comp.fail
 |_,_=>Comp.fail
theorem VH{P:Program}{O:zR}{B:Nat}{w:World}{ks:List (Option TypeId)}{rs:Ty}{vs:List Value}{y:rs.D}{q:TypeId×(t:Ty)×List t.D}(hq:YW ks rs y=some q)(h:XA P O B w ks rs vs y):vs≠[]:=by
 intro e;subst e
 match ks,rs,y,hq,h with
 |k::ks,.cons a b,y,hq,h=>obtain⟨v,vs',h1,_⟩:=h;cases h1
theorem Ic(hE:E.ok X.P)(h:RelX F s a w X)(hd:F.dst d){x:Operand}{xs:Array Operand}{ts:Array TypeId}:gN F s a w ⟨d,.call ⟨.value x,xs,ts⟩,T,pos,aft,g⟩ (EY E s d (rdO s.ep s.L [] [] x) (jE (rdO s.ep s.L [] []) xs.toList) k) k:=by
 intro nf y hr K Q hK;rw[<-h.P];rw[<-h.ep]at hr;unfold EY at hr;split at hr
 ·rename_i f ca cb l hφ hl
  split at hr
  ·cases hr
  ·rename_i fs hs
   split at hr
   ·rename_i z hz
    obtain⟨y0,cP,hr⟩:=run_bind hr;have kA:Ok X.P ⟨d,.call ⟨.value x,xs,ts⟩,T,pos,aft,g⟩ a w (fun w' v=>∃rs,kh rs v/\XA X.P X.O w.heap.size w' fs.rk fs.rs rs y0):=by
     unfold H5 at hz;split at hz
     ·rename_i hlr
      refine yR (CT (X:=X.lent) (d:=d) (T:=T) (pos:=pos) (aft:=aft) (g:=g) (ts:=ts) hE (Bm hE.G h.m) (Nz w) (fun z ψ hz hψ=>(ψ.mono (X.le_lent w) fun _=>Ext.refl w).1 _ (h.rd _ z ψ hz hψ)) hφ hl hs hz cP) fun w' v _ hv=>?_
      obtain⟨rs,h3,h4⟩:=hv;exact⟨rs,h3,wJ hlr h4⟩
     ·exact CT (d:=d) (T:=T) (pos:=pos) (aft:=aft) (g:=g) (ts:=ts) hE h.m h.okO (h.rd _) hφ hl hs hz cP
    split at hr
    ·rename_i q hq
     refine kA K Q fun v w' fX hv=>?_
     obtain⟨rs,h3,h4⟩:=hv;obtain⟨u,h5,h6⟩:=J2 (k:=s.n) hq h4;refine hK _ _ _ (h.Cy fX hd h5 fun X' e1 fG e2 e3 e4=>?_) (Inv.obj _ _ _ _) hr
     grind [Gu,VH]
    ·split at hr
     ·rename_i qs hm iI
      refine kA K Q fun v w' fX hv=>?_
      obtain⟨rs,h3,h4⟩:=hv;exact hK _ _ _ (h.zDd fX hd hm iI h4 h3) (Inv.rU _ _) hr
     ·refine kA K Q fun v w' fX hv=>?_
      obtain⟨rs,h3,h4⟩:=hv;exact hK _ _ _ ⟨_,h.val fX hd (uh (XT (fun b hb=>h.okO b hb) h4) h3)⟩ (Inv.put _ _ _) hr
   ·cases hr
 ·cases hr
def Wq{α:Type}:List α->Option (α×α)
 | [x,y]=>some (x,y)
 |_=>none
theorem mA{α:Type}{l:Array α}{p:α×α}(h:Wq l.toList=some p):l=#[p.1,p.2]:=by
 unfold Wq at h;grind
def zAt:Builtin->Bool
 |.clear=>true
 |_=>false
theorem N8{b:Builtin}(h:zAt b=true):b=.clear:=by cases b<;>first|rfl|cases h
def one? {α:Type}:List α->Option α
 | [x]=>some x
 |_=>none
theorem Gv{α:Type}{l:Array α}{p:α}(h:one? l.toList=some p):l=#[p]:=by
 unfold one? at h;grind
def zAY(E:VE)(s:S)(Y:TypeId)(x:Operand)(l h m:Option Operand):Option (Operand×(Nat×Bool×TypeId×(t:Ty)×List t.D)):=match l,h,m with
 |none,some y,none=>match rdO s.ep s.L [] [] x with
  |some φ=>match X6 s.M φ,look E.T Y with
   |some p,some i=>match slD i.dd with
    |some e=>match look E.T e with
     |some j=>match Nat.beq p.2.2.2.1.sz j.sz with
      |true=>some (y,p)
      |false=>none
     |none=>none
    |none=>none
   |_,_=>none
  |none=>none
 |_,_,_=>none
def isApp:Builtin->Bool
 |.append=>true
 |_=>false
theorem N9{b:Builtin}(h:isApp b=true):b=.append:=by cases b<;>first|rfl|cases h
def AV.refs:AV->List Nat
 |.ob k|.bx k _|.ba k .. | .el k .. | .sx k .. | .px k _=>[k]
 |.cl _ a b|.pr a b=>a.refs++b.refs
 |.tp l|.ag l=>l.refs
 |_=>[]
def Co(rd:Operand->Option AV):List Operand->List Nat
 | []=>[]
 |x::xs=>match rd x with
  |some φ=>φ.refs++Co rd xs
  |none=>Co rd xs
def zLB:Option AV->Bool
 |some (.bx _ _)=>true
 |_=>false
def clC(G:FE):Option AV->Bool
 |some (.cl f _ _)=>match G f with
  |some fs=>fs.rs.closed || rG fs.rk fs.rs
  |none=>true
 |some (.rd (.fn _ tr) _)=>tr.closed
 |_=>true
def UN(E:VE)(s:S)(o:Op):S:=match o with
 |.buildSlice _ _ ps=>s.Jy (Co (rdO s.ep s.L [] []) (ps.toList.map (·.2)))
 |.store _ x z=>match zLB (rdO s.ep s.L [] [] x) with
  |true=>s
  |false=>s.Jy (Co (rdO s.ep s.L [] []) [z])
 |.call c=>match c.callee with
  |.value x=>match clC E.G (rdO s.ep s.L [] [] x) && !H7 E.J (rdO s.ep s.L [] [] x) with
   |true=>s
   |false=>s.Jy (Co (rdO s.ep s.L [] []) (x::c.args.toList))
  |_=>s
 |_=>s
def Ht(E:VE)(wr:List Nat)(s:S)(o:Oper)(k:S->Comp β):Comp β:=match o.op with
 |.alloc Y=>ud E s o.dst Y k
 |.box Y x=>Sd s o.dst Y (rdO s.ep s.L [] [] x) k
 |.store Y x z=>match o.dst with
  |none=>mD E s Y (rdO s.ep s.L [] [] x) (rdO s.ep s.L [] [] z) k
  |some _=>Comp.fail
 |.buildSlice Y n ps=>Sc E s o.dst (UH E.T E.G s.M (rdO s.ep s.L [] []) Y n ps.toList) k
 |.makeSlice Y x z=>EX E s o.dst Y x z ((rdO s.ep s.L [] [] z).bind AV.int?) k
 |.call c=>match c.callee with
  |.builtin b=>match isApp b with
   |true=>match Wq c.args.toList,Wq c.argTypes.toList with
    |some p,some q=>match Nat.beq q.1 q.2 with
     |true=>match zEn (rdO s.ep s.L [] [] p.1) with
      |some r=>Ea E s o.dst q.1 r.1 r.2 (rdO s.ep s.L [] [] p.2) k
      |none=>Sf E s o.dst q.1 (rdO s.ep s.L [] [] p.1) (rdO s.ep s.L [] [] p.2) k
     |false=>EZ E s o.dst q.1 q.2 (rdO s.ep s.L [] [] p.1) ((rdO s.ep s.L [] [] p.2).bind AV.int?) k
    |_,_=>Comp.fail
   |false=>match zAt b with
    |true=>match one? c.args.toList,one? c.argTypes.toList with
     |some x,some Y=>mH E s o.dst Y (rdO s.ep s.L [] [] x) k
     |_,_=>Comp.fail
    |false=>nU (val E s.M s.ep s.L [] [] wr o.dst o.op) s o.dst k
  |.value x=>match zGj E.H (rdO s.ep s.L [] [] x) with
   |true=>mL E s o.dst (rdO s.ep s.L [] [] x) (jE (rdO s.ep s.L [] []) c.args.toList) k
   |false=>match H7 E.O (rdO s.ep s.L [] [] x) with
   |true =>
    let s1:=s.YC E (tlV (jE (rdO s.ep s.L [] []) c.args.toList))
    mI E s1 o.dst (rdO s1.ep s1.L [] [] x) (jE (rdO s1.ep s1.L [] []) c.args.toList) k
   |false=>match H7 E.J (rdO s.ep s.L [] [] x) with
   |true=>mO E s o.dst (rdO s.ep s.L [] [] x) (jE (rdO s.ep s.L [] []) c.args.toList) k
   |false=>match H7 E.N (rdO s.ep s.L [] [] x) with
   |true=>mK E s o.dst (rdO s.ep s.L [] [] x) (jE (rdO s.ep s.L [] []) c.args.toList) k
   |false=>match zDt E.G (rdO s.ep s.L [] [] x) with
   |true=>EY E s o.dst (rdO s.ep s.L [] [] x) (jE (rdO s.ep s.L [] []) c.args.toList) k
   |false=>nU (val E s.M s.ep s.L [] [] wr o.dst o.op) s o.dst k
  |.invoke _ _=>Comp.fail
 |.makeMap Y n=>mG E s o.dst Y k n
 |.mapUpdate Y m x v=>match o.dst with
  |none=>ql E s Y k (rdO s.ep s.L [] [] m) (rdO s.ep s.L [] [] x) (rdO s.ep s.L [] [] v)
  |some _=>Comp.fail
 |.insert Y m x v=>match o.dst with
  |none=>ql E s Y k (rdO s.ep s.L [] [] m) (rdO s.ep s.L [] [] x) (rdO s.ep s.L [] [] v)
  |some _=>Comp.fail
 |.slice Y x l h m=>match zAY E s Y x l h m with
  |some q=>SZ s o.dst q.2 ((rdO s.ep s.L [] [] q.1).bind AV.int?) k
  |none=>nU (val E s.M s.ep s.L [] [] wr o.dst o.op) s o.dst k
 |_=>nU (val E s.M s.ep s.L [] [] wr o.dst o.op) s o.dst k
theorem M8(hE:E.ok X.P)(h:RelX F s a w X)(wr:List Nat)(o:Oper)(hd:F.dst o.dst):gN F s a w o (Ht E wr s o k) k:=by
 have hv:gN F s a w o (nU (val E s.M s.ep s.L [] [] wr o.dst o.op) s o.dst k) k:=by
  refine M9 h hd ?_;rw[<-h.ep];exact KJ (R:=[]) (g:=[]) hE trivial h.okO h.m o (h.zGh o) trivial
 have hC1:gN F s a w o (Comp.fail:Comp β) k:=fun nf y hr=>nomatch hr
 obtain⟨d,op,T,pos,aft,g⟩:=o;unfold Ht;split
 ·grind [DP]
 ·grind [NH]
 ·grind [DH]
 ·grind [NF]
 ·grind [Ib]
 ·rename_i c e
  simp only at e;obtain⟨cal,xs,ts⟩:=c;split
  ·rename_i b e2
   simp only at e2;split
   ·rename_i hb
    rw[N9 hb]at e2;split
    ·rename_i p q hp hq
     split
     ·rename_i cA
      have h1:=mA hp;have h2:=mA hq
      simp only at h1 h2;have h3:=zLY cA
      rw[<-h3]at h2;subst e2 h1 h2 e;split
      ·grind [Ig,VJ]
      grind [NI]
     grind [mA,Ie]
    omega
   ·split
    ·rename_i hb
     rw[N8 hb]at e2;split
     ·rename_i x Y hx hY
      have h1:=Gv hx;have h2:=Gv hY
      simp only at h1 h2;subst e2 h1 h2 e
      cases d with
      |none=>exact DJ hE h
      |some d=>exact fun nf y hr=>(by cases hr)
     omega
    ·exact hv
  ·rename_i x e2
   simp only at e2;split
   ·grind [DM]
   ·split
    ·subst e2 e
     obtain⟨X1,h1⟩:=Rel.YC (E:=E) (by rw[<-h.P];exact hE) ⟨X,h⟩ (tlV (jE (rdO s.ep s.L [] []) xs.toList))
     intro nf y hr K Q hK;exact DK (by rw[h1.P,<-h.P];exact hE) h1 hd nf y hr K Q fun s' v w' q1 q2 q3=>hK s' v w' q1 ((Inv.YC _ _).trans q2) q3
    grind [DO,DL,Ic]
  omega
 ·grind [DI]
 ·grind [rZ]
 ·grind [NG]
 ·rename_i Y x l h' m e
  simp only at e;split
  ·rename_i q hq
   unfold zAY at hq;split at hq
   ·rename_i y
    split at hq
    ·grind [NB]
    ·cases hq
   ·cases hq
  ·exact hv
 ·exact hv
def step(E:VE)(wr:List Nat)(s:S)(o:Oper)(k:S->Comp β):Comp β:=Ht E wr (UN E s o.op) o k
theorem VM(h:Rel F s a w)(o:Op):Rel F (UN E s o) a w/\Inv s (UN E s o):=by
 unfold UN;grind [Rel.Jy,Inv.Jy,Inv.refl]
theorem Ku(hE:E.ok F.P)(h:Rel F s a w)(wr:List Nat)(o:Oper)(hd:F.dst o.dst):gN F s a w o (step E wr s o k) k:=by
 intro nf y hr K Q hK;obtain⟨⟨X,h1⟩,h2⟩:=VM (E:=E) h o.op;exact M8 (by rw[h1.P];exact hE) h1 wr o hd nf y hr K Q fun s' v w' g1 g2 g3=>hK s' v w' g1 (h2.trans g2) g3
def Hr(E:VE)(wr:List Nat)(k:S->Comp β):List Oper->S->Comp β
 | [],s=>k s
 |o::os,s=>step E wr s o (Hr E wr k os)
theorem BA(hE:E.ok F.P)(wr:List Nat){nf:Nat}{y:β}{ops:Array Oper}{Q:Exit->Act->World->Prop}{s0:S}:∀ {os:List Oper} {s:S} {a:Act} {w:World},Rel F s a w->Inv s0 s->(Hr E wr k os s).run nf=some y->(∀o∈os,(o.guard.isNone=true/\∀c,o.op≠.defer c)/\F.dst o.dst) ->
  (∀s' a' w',Rel F s' a' w'->Inv s0 s'->(k s').run nf=some y->Q .normal a' w')->vt (F.W Q) ops (Q .normal) os a w
 | [],s,a,w,h,hi,hr,_,hK=>hK s a w h hi hr
 |o::os,s,a,w,h,hi,hr,ho,hK=>by
  have h1:=ho o (by simp)
  have hg:o.guard=none:=by simp_all
  have hw:Region.wanted o (yielded ops a.tmps)=true:=by grind [Region.wanted]
  simp only[vt,hw,if_true];refine jz h1.1.2 (Ku (k:=Hr E wr k os) hE h wr o h1.2 nf y hr _ _ fun s' v w' hR hi' hr'=>?_)
  exact BA hE wr hR (hi.trans hi') hr' (fun o' ho'=>ho o' (by grind)) hK
end
def zLI:Builtin->Bool
 |.len|.max|.min|.cap=>false
 |_=>true
def eff(G:FE):Op->Bool
 |.alloc _|.box .. | .store .. | .buildSlice .. | .makeSlice .. | .makeMap .. | .mapUpdate .. | .insert .. | .panic _|.defer _=>true
 |.call c=>match c.callee with
  |.builtin b=>zLI b
  |.value (.func f)=>match G f with
   |some fs=>!fs.rs.closed
   |none=>true
  |_=>false
 |_=>false
def Mk:List Oper->Bool
 | []=>false
 |o::os=>o.guard.isSome || Mk os
def cut(G:FE)(draw:Bool)(all:List Oper):Nat->List Oper->Nat
 |i,[]=>i
 |i,o::os=>match eff G o.op && (!Mk (o::os) && (!draw || X4 all i)) with
  |true=>i
  |false=>cut G draw all (i+1) os
def wrS:List Oper->List Nat
 | []=>[]
 |o::os=>match o.op with
  |.store _ (.tmp t) _=>t::wrS os
  |.fieldAddr _ (.tmp t) _=>match D6 o.dst (wrS os) with
   |true=>t::wrS os
   |false=>wrS os
  |.indexAddr _ (.tmp t) _=>match D6 o.dst (wrS os) with
   |true=>t::wrS os
   |false=>wrS os
  |_=>wrS os
def S8{β:Type}(c:Nat)(E:VE)(draw:Bool)(os:List Oper)(s:S)(k:S->Comp β):Comp β :=
 D8 E s.M s.ep s.L s.n (wrS os) (fun tl R F=>match !Mk tl && (!draw || X4 os R.length) with
  |true=>Hr E (wrS os) k tl { s with L:=F,n:=s.n+1 }
  |false=>Comp.fail) c 0 os [] s.L
def zLK{β:Type}(E:VE)(draw:Bool)(os:List Oper)(s:S)(k:S->Comp β):Comp β:=S8 (cut E.G draw os 0 os) E draw os s k
theorem mr:∀ {os:List Oper},Mk os=false->∀o∈os,o.guard.isNone=true
 | [],_,o,h=>by cases h
 |o'::os,h,o,ho=>by
  simp only[Mk,Bool.or_eq_false_iff]at h;rcases zLd.1 ho with rfl|ho
  ·simp_all
  ·exact mr h.2 o ho
theorem CK{F:Frm}{c:Nat}(fC:∀t φ,¬F.Lh t φ){E:VE}(hE:E.ok F.P){s0 s:S}{a:Act}{w:World}(hR:Rel F s a w)(hi:Inv s0 s){os:List Oper}{id nf:Nat}{draw:Bool}{β:Type}{y:β}{k:S->Comp β}{Q:Exit->Act->World->Prop}(hm:F.P.follows .mixedOrders=true)
  (kA:Xq F.N os=true) (h:(S8 c E draw os s k).run nf=some y) (hK:∀s' a' w',Rel F s' a' w'->Inv s0 s'->(k s').run nf=some y->Q .normal a' w'):F.wp (Code.region id os.toArray draw) Q a w:=by
 refine DZ fC hE hR (draw:=draw) (fun _=>hm) kA h fun tl R' F' hF hr=>?_
 split at hr
 ·rename_i hb
  rw[zLZ]at hb;have hg:Mk tl=false:=by grind
  refine⟨zME.2 (mr hg),fun hd=>?_,fun a' w' hR' sT=>?_⟩
  ·grind
  ·refine BA hE (wrS os) hR' (hi.trans ⟨zLk _,hF,yc⟩) hr (fun o ho=>⟨⟨mr hg o ho,Kw kA o (sT o ho)⟩,fun t ht=>?_⟩) hK
   obtain⟨j,hj⟩:=List.mem_iff_getElem?.1 (sT o ho);exact⟨((zS (Xw kA) hj).2.1 t ht).1,fun φ=>fC t φ⟩
 ·cases hr
def AV.bd(n:Nat):AV->Prop
 |.ob k|.bx k _|.ba k .. | .el k .. | .sx k .. | .px k _=>k<n
 |.cl _ a b|.pr a b=>a.bd n/\b.bd n
 |.tp l|.ag l=>l.bd n
 |_=>True
theorem AV.UB{X:Cx}{w:World}(φ:AV):(∀u,(φ.sem X w).v u->φ.bd X.n)/\(∀vs,(φ.sem X w).l vs->φ.bd X.n)/\(∀cs,(φ.sem X w).c cs->φ.bd X.n):=by
 have one_case:∀ {q:Value->Prop} {p:Prop},(∀u,q u->p)->(∀u,(one q).v u->p)/\(∀vs,(one q).l vs->p)/\(∀cs,(one q).c cs->p) :=
  fun h=>⟨h,fun _ h=>h.elim,fun cs ⟨u,_,_,h3⟩=>h u h3⟩
 induction φ with
 |ob k=>exact one_case fun u h=>h.2.1
 |bx k off=>exact one_case fun u h=>h.1
 |ba k off sz i esz off2=>exact one_case fun u h=>h.1
 |el k i esz off2=>exact one_case fun u h=>h.1
 |sx k lo esz=>exact one_case fun u h=>h.2
 |px k n=>exact one_case fun u h=>h.2
 |yl=>exact one_case fun u h=>trivial
 |cl f a b iha ihb =>
  refine one_case fun u h=>?_
  obtain⟨vs,us,h1,h2,_⟩:=h;exact⟨iha.2.1 _ h1,ihb.2.1 _ h2⟩
 |pr a b iha ihb =>
  refine⟨fun _ h=>h.elim,fun vs h=>?_,fun cs h=>?_⟩
  ·obtain⟨v,vs',_,h2,h3⟩:=h;exact⟨iha.1 _ h2,ihb.2.1 _ h3⟩
  ·obtain⟨c1,c2,_,h2,h3⟩:=h;exact⟨iha.2.2 _ h2,ihb.2.2 _ h3⟩
 |tp l ih=>exact⟨fun u ⟨vs,h1,_⟩=>ih.2.1 _ h1,fun _ h=>h.elim,fun _ h=>h.elim⟩
 |ag l ih=>exact⟨fun u ⟨cs,h1,_⟩=>ih.2.2 _ h1,fun _ h=>h.elim,fun cs h=>ih.2.2 _ h⟩
 |_=>exact⟨fun _ _=>trivial,fun _ _=>trivial,fun _ _=>trivial⟩
structure Cx.al(X X':Cx)(n:Nat):Prop where
 P:X'.P=X.P
 O:X'.O=X.O
 U:∀k,k<n->X'.U k=X.U k
 n:n<=X'.n
 L:X'.Lp=X.Lp
theorem AV.al{X X':Cx}{n:Nat}(hX:X.al X' n){w:World}(φ:AV)(hb:φ.bd n):(∀u,(φ.sem X w).v u->(φ.sem X' w).v u)/\(∀vs,(φ.sem X w).l vs->(φ.sem X' w).l vs)/\(∀cs,(φ.sem X w).c cs->(φ.sem X' w).c cs):=by
 induction φ with
 |rd t x =>
  refine⟨fun u h=>?_,fun _ h=>h,fun cs h=>?_⟩
  ·show (t.gr X'.P).v _ _ _ _;rw[hX.P,hX.O];exact h
  ·show (t.gr X'.P).rel _ _ _ _;rw[hX.P,hX.O];exact h
 |pt t x=>refine ym fun u h=>?_;rw[hX.P,hX.O];exact h
 |ob k=>exact ym fun u h=>⟨by rw[h.1,hX.U k hb],zLm hb hX.n,h.2.2⟩
 |bx k off =>
  refine ym fun u h=>?_
  obtain⟨h1,b,h2,h3⟩:=h;exact⟨zLm hb hX.n,b,by rw[hX.U k hb];exact h2,h3⟩
 |ba k off sz i esz off2 =>
  refine ym fun u h=>?_
  obtain⟨h1,h2,h3,b,h4,h5⟩:=h;exact⟨zLm hb hX.n,h2,h3,b,by rw[hX.U k hb];exact h4,h5⟩
 |el k i esz off2 =>
  refine ym fun u h=>?_
  obtain⟨h1,h2,h3,h4⟩:=h;exact⟨zLm hb hX.n,h2,by rw[hX.U k hb];exact h3,by rw[hX.U k hb];exact h4⟩
 |pq t x =>
  refine⟨fun u h=>?_,fun _ h=>h,fun _ h=>h⟩
  show ∃v,Y9 w u v/\(t.gr X'.P).v X'.O w v x
  rw[hX.P,hX.O];exact h
 |cl f a b iha ihb =>
  refine ym fun u h=>?_
  obtain⟨vs,us,h1,h2,h3⟩:=h;exact⟨vs,us,(iha hb.1).2.1 _ h1,(ihb hb.2).2.1 _ h2,h3⟩
 |un=>exact⟨fun _ h=>h,fun _ h=>h,fun _ h=>h⟩
 |pr a b iha ihb =>
  refine⟨fun _ h=>h,fun vs h=>?_,fun cs h=>?_⟩
  ·obtain⟨v,vs',h1,h2,h3⟩:=h
   exact⟨v,vs',h1,(iha hb.1).1 _ h2,(ihb hb.2).2.1 _ h3⟩
  ·obtain⟨c1,c2,h1,h2,h3⟩:=h
   exact⟨c1,c2,h1,(iha hb.1).2.2 _ h2,(ihb hb.2).2.2 _ h3⟩
 |tp l ih =>
  refine⟨fun u h=>?_,fun _ h=>h,fun _ h=>h⟩
  obtain⟨vs,h1,h2⟩:=h;exact⟨vs,(ih hb).2.1 _ h1,h2⟩
 |ag l ih =>
  refine⟨fun u h=>?_,fun _ h=>h,fun cs h=>(ih hb).2.2 _ h⟩
  obtain⟨cs,h1,h2⟩:=h;exact⟨cs,(ih hb).2.2 _ h1,h2⟩
 |ex v=>exact⟨fun _ h=>h,fun _ h=>h,fun _ h=>h⟩
 |nb p e=>exact⟨fun _ h=>h,fun _ h=>h,fun _ h=>h⟩
 |sx k lo esz=>exact ym fun u h=>⟨by rw[h.1,hX.U k hb],zLm hb hX.n⟩
 |px k n=>exact ym fun u h=>⟨by rw[hX.U k hb];exact h.1,zLm hb hX.n⟩
 |yl=>exact ym fun u h=>by rw[hX.L];exact h
 |em t xs=>exact ym fun u h=>by rw[hX.P,hX.O];exact h
 |top=>exact⟨fun _ h=>h,fun _ h=>h,fun _ h=>h⟩
def Knd.put(st:Nat):(k:Knd)->k.D->Nat->AV×MS×Nat
 |.v t,x,n=>(.rd t x,[],n)
 |.o nw t T,xs,n=>(.ob n,[(n,st,.sl nw t T xs)],n+1)
 |.m nw a b,xs,n=>(.ob n,[(n,st,.mp nw a b xs)],n+1)
 |.bv nw t T,x,n=>(.bx n 0,[(n,st,.bx nw (.rd t x) T)],n+1)
 |.un,_,n=>(.un,[],n)
 |.pr a b,x,n =>
  let p:=a.put st x.1 n
  let q:=b.put st x.2 p.2.2
  (.pr p.1 q.1,p.2.1++q.2.1,q.2.2)
 |.ag l,x,n =>
  let p:=l.put st x n
  (.ag p.1,p.2.1,p.2.2)
def K5:AV->Option AV
 |.ag l=>some l
 |.rd t x=>match t.agg && okE t with
  |true=>some (UX t x)
  |false=>none
 |_=>none
def Ty.zEt:Ty->Bool
 |.slo _=>false
 |_=>true
theorem Vu{P:Program}{k:Nat}{B:Nat->Prop}{O:zR}{w:World}{u:Value}{a b a' b':Ty}{xs:List (a.D×b.D)}{ys:List (a'.D×b'.D)}(e:Ty.mp a b=.mp a' b')(h:Ty.cast e xs=ys)(hO:YA k (gj a) (b.gr P) B O w u xs):YA k (gj a') (b'.gr P) B O w u ys:=by
 injection e with e1 e2
 subst e1 e2;subst h;exact hO
def W2(M:MS):AV->Option (Nat×Bool×(a:Ty)×(b:Ty)×List (a.D×b.D))
 |.ob k=>match look M k with
  |some (_,.mp nw a b xs)=>some (k,nw,⟨a,b,xs⟩)
  |_=>none
 |_=>none
theorem Vv{M:MS}{φ:AV}{p:Nat×Bool×(a:Ty)×(b:Ty)×List (a.D×b.D)}(h:W2 M φ=some p):φ=.ob p.1/\∃e,look M p.1=some e/\e.2=.mp p.2.1 p.2.2.1 p.2.2.2.1 p.2.2.2.2:=by
 unfold W2 at h;split at h
 ·split at h
  ·rename_i k _ st nw a b xs hk
   cases h
   grind
  ·cases h
 ·cases h
def zAJ(M:MS):AV->Option (Nat×Bool×AV×TypeId)
 |.bx k 0=>match look M k with
  |some (_,.bx nw c T)=>some (k,nw,c,T)
  |_=>none
 |_=>none
theorem WW{M:MS}{φ:AV}{p:Nat×Bool×AV×TypeId}(h:zAJ M φ=some p):φ=.bx p.1 0/\∃st,look M p.1=some (st,.bx p.2.1 p.2.2.1 p.2.2.2):=by
 unfold zAJ at h;grind
def Knd.get(G:FE)(M:MS):(k:Knd)->AV->Option (k.D×List (Option Nat))
 |.v t,φ=>match t.zEt,φ.asT G M t with
  |true,some x=>some (x,[])
  |_,_=>none
 |.o nw t T,φ=>match X6 M φ with
  |some p=>match lp p.2.1 nw && Nat.beq p.2.2.1 T,(Ty.sl p.2.2.2.1).to (.sl t) p.2.2.2.2 with
   |true,some xs=>some ((xs:List t.D),[some p.1])
   |_,_=>none
  |none=>match Ys φ && nw with
   |true=>some (([]:List t.D),[none])
   |false=>none
 |.m nw a b,φ=>match W2 M φ with
  |some p=>match lp p.2.1 nw,(Ty.mp p.2.2.1 p.2.2.2.1).to (.mp a b) p.2.2.2.2 with
   |true,some xs=>some ((xs:List (a.D×b.D)),[some p.1])
   |_,_=>none
  |none=>none
 |.bv nw t T,φ=>match zAJ M φ with
  |some p=>match lp p.2.1 nw && (Nat.beq p.2.2.2 T && t.zEt),p.2.2.1.asT G M t with
   |true,some x=>some (x,[some p.1])
   |_,_=>none
  |none=>none
 |.un,φ=>match φ with
  |.un=>some ((),[])
  |_=>none
 |.pr a b,φ=>match φ with
  |.pr φ1 φ2=>match a.get G M φ1,b.get G M φ2 with
   |some p,some q=>some ((p.1,q.1),p.2++q.2)
   |_,_=>none
  |_=>none
 |.ag l,φ=>match K5 φ with
  |some φ=>l.get G M φ
  |none=>none
structure Ren(X X':Cx)(n:Nat)(olds:List (Option Nat)):Prop where
 P:X'.P=X.P
 O:X'.O=X.O
 A:X'.A=X.A
 F:X'.F=X.F
 L:X'.Lp=X.Lp
 U:∀i k,olds[i]?=some (some k)->X'.U (n+i)=X.U k/\X'.ι (n+i)=X.ι k
 N:∀i,olds[i]?=some none->X'.U (n+i)=.slice none 0 0
 n:n+olds.length<=X'.n
theorem Ren.left{X X':Cx}{n:Nat}{a b:List (Option Nat)}(h:Ren X X' n (a++b)):Ren X X' n a :=
 ⟨h.P,h.O,h.A,h.F,h.L,fun i k hi=>h.U i k (by grind),fun i hi=>h.N i (by grind),by have:=h.n;grind⟩
theorem Ren.right{X X':Cx}{n:Nat}{a b:List (Option Nat)}(h:Ren X X' n (a++b)):Ren X X' (n+a.length) b :=
 ⟨h.P,h.O,h.A,h.F,h.L,fun i k hi=>by
   have:=h.U (a.length+i) k (by grind)
   grind,fun i hi=>by
   have:=h.N (a.length+i) (by grind)
   grind,by have:=h.n;grind⟩
theorem Z4{α:Type}{l m:List (Nat×α)}{t:Nat}{e:α}(h:look (l++m) t=some e):look l t=some e\/(look l t=none/\look m t=some e):=by
 induction l with
 |nil=>exact .inr ⟨rfl,h⟩
 |cons x l ih =>
  grind [look]
def IJ(M:MS)(k:Nat):Prop:=∃e,look M k=some e/\e.2.own=true
theorem Knd.ok{X X':Cx}{G:FE}(hG:FOk X.P G){M:MS}{w:World}(hM:yE M X w){st:Nat}:∀ {kd:Knd} {φ:AV} {x:kd.D} {olds:List (Option Nat)} {n:Nat},kd.get G M φ=some (x,olds)->Ren X X' n olds ->
  (kd.put st x n).2.2=n+olds.length/\(∀u,(φ.sem X w).v u->((kd.put st x n).1.sem X' w).v u)/\(∀cs,(φ.sem X w).c cs->((kd.put st x n).1.sem X' w).c cs/\(kd.put st x n).1.ze=false)/\(kd.put st x n).1.ze=false /\
  (∀j e,look (kd.put st x n).2.1 j=some e->e.1=st/\n<=j/\j<n+olds.length/\e.2.holds X' w j)/\(∀(i:Nat) k,olds[i]?=some (some k)->IJ M k):=by
 intro kd
 induction kd with
 |v t =>
  intro φ x olds n h hR;simp only[Knd.get]at h;split at h
  ·rename_i y _ hy
   cases h
   have hA:=AV.jR hG φ hM;refine⟨rfl,fun u hu=>?_,fun cs hc=>⟨?_,rfl⟩,rfl,fun j e he=>(nomatch he),fun i k hi=>by grind⟩
   ·show (t.gr X'.P).v _ _ _ _;rw[hR.P,hR.O];exact hA.v hy hu
   ·show (t.gr X'.P).rel _ _ _ _;rw[hR.P,hR.O];exact hA.vc hy hc
  ·cases h
 |o nw t T =>
  intro φ x olds n h hR;simp only[Knd.get]at h;have e9:olds.length=1->n<X'.n:=fun hl=>by have:=hR.n;omega
  split at h
  ·rename_i p hp
   split at h
   ·rename_i xs hb hx
    cases h
    rw[zLZ]at hb;have tC:=Xy hb.1
    have aF:=zLY hb.2;obtain⟨hU,hι⟩:=hR.U 0 p.1 rfl;rw[Nat.add_zero]at hU hι;have hn:=e9 rfl
    have eA:∀u,φ.holds X w u->(AV.ob n).holds X' w u/\∃e,look M p.1=some e/\e.2=.sl p.2.1 p.2.2.2.1 p.2.2.1 p.2.2.2.2:=by
     intro u hu;obtain⟨e,h1,h2,h3,h4⟩:=uC hM hu hp;exact⟨⟨by grind,hn,ZQ h3⟩,e,h1,h2⟩
    have bD:∃k,φ=.ob k/\p.1=k/\∃e,look M k=some e/\e.2=.sl p.2.1 p.2.2.2.1 p.2.2.1 p.2.2.2.2:=by
     unfold X6 at hp;grind
    obtain⟨k,hφ,iJ,e,c9,iA⟩:=bD;refine⟨rfl,fun u hu=>(eA u hu).1,fun cs hc=>⟨?_,rfl⟩,rfl,fun j e' he'=>?_,fun i k' hi=>?_⟩
    ·subst hφ
     obtain⟨u,h1,h2,h3⟩:=hc;exact⟨u,h1,h2,(eA u h3).1⟩
    ·rcases zC he' with ⟨h1,h2⟩|⟨_,h2⟩
     ·subst h1 h2
      refine⟨rfl,zLb _,zLl _,?_⟩;have:=hM k e c9
      rw[iA]at this;show zo _ _ _ _ _ _ _ _
      rw[hU,hι,hR.P,hR.O,Cx.Ka hR.A hR.F,iJ];obtain⟨e3,hx⟩:=Ty.jN hx;rw[tC,aF]at this;cases e3;cases hx;exact this
     ·cases h2
    ·match i,hi with
     |0,hi=>cases hi;rw[iJ];exact⟨e,c9,by rw[iA];rfl⟩
     |i+1,hi=>grind
   ·cases h
  ·split at h
   ·rename_i hb
    cases h
    rw[zLZ]at hb;have hφ:=jW hb.1
    subst hφ;have hU:=hR.N 0 rfl
    rw[Nat.add_zero]at hU;have hn:=e9 rfl
    refine⟨rfl,fun u hu=>⟨by rw[hU];exact hu,hn,by rw[show u=_ from hu];rfl⟩,fun cs hc=>⟨⟨.slice none 0 0,hc,rfl,hU.symm,hn,rfl⟩,rfl⟩,rfl,fun j e' he'=>?_,fun i k' hi=>?_⟩
    ·rcases zC he' with ⟨h1,h2⟩|⟨_,h2⟩
     ·subst h1 h2
      refine⟨rfl,zLb _,zLl _,?_⟩;show zo _ _ _ _ _ _ _ _
      grind [zo.nil]
     ·cases h2
    grind
   ·cases h
 |m nw a b =>
  intro φ x olds n h hR;simp only[Knd.get]at h;split at h
  ·rename_i p hp
   split at h
   ·rename_i xs hb hx
    cases h
    have tC:=Xy hb;obtain⟨hU,hι⟩:=hR.U 0 p.1 rfl;rw[Nat.add_zero]at hU hι;have hn:n<X'.n:=by have:=hR.n;grind
    obtain⟨hφ,e,c9,iA⟩:=Vv hp;have hmm:=hM _ e c9
    rw[iA]at hmm;have h1c:(X.U p.1).oneCell'=true:=by
     obtain⟨c,es,clock,q1,_⟩:=hmm;rw[q1];rfl
    have eA:∀u,(φ.sem X w).v u->(AV.ob n).holds X' w u:=fun u hu=>by
     subst hφ;exact⟨by rw[hU];exact hu.1,hn,hu.2.2⟩
    refine⟨rfl,fun u hu=>eA u hu,fun cs hc=>⟨?_,rfl⟩,rfl,fun j e' he'=>?_,fun i k' hi=>?_⟩
    ·subst hφ
     obtain⟨u,g1,g2,g3⟩:=hc;exact⟨u,g1,g2,eA u g3⟩
    ·rcases zC he' with ⟨h1,h2⟩|⟨_,h2⟩
     ·subst h1 h2
      refine⟨rfl,zLb _,zLl _,?_⟩;show YA _ _ _ _ _ _ _ _
      rw[hU,hι,hR.P,hR.O,Cx.Ka hR.A hR.F];obtain⟨e3,hx⟩:=Ty.jN hx;rw[tC]at hmm;exact Vu e3 hx hmm
     ·cases h2
    ·match i,hi with
     |0,hi=>cases hi;exact⟨e,c9,by rw[iA];rfl⟩
     |i+1,hi=>grind
   ·cases h
  ·cases h
 |bv nw t T =>
  intro φ x olds n h hR;simp only[Knd.get]at h;split at h
  ·rename_i p hp
   split at h
   ·rename_i x' hb hx
    cases h
    rw[zLZ,zLZ]at hb;have tC:=Xy hb.1
    have aF:=zLY hb.2.1;obtain⟨hU,hι⟩:=hR.U 0 p.1 rfl;rw[Nat.add_zero]at hU hι;have hn:n<X'.n:=by have:=hR.n;grind
    obtain⟨hφ,st',hk⟩:=WW hp;obtain⟨b',cs,q1,q2,q3,q4⟩:=hM _ _ hk;have eA:∀u,(φ.sem X w).v u->(AV.bx n 0).holds X' w u:=fun u hu=>by
     subst hφ;obtain⟨_,b2,h2,h3⟩:=hu;exact⟨hn,b2,by grind,h3⟩
    refine⟨rfl,fun u hu=>eA u hu,fun cs hc=>⟨?_,rfl⟩,rfl,fun j e' he'=>?_,fun i k' hi=>?_⟩
    ·subst hφ
     obtain⟨u,g1,g2,g3⟩:=hc;exact⟨u,g1,g2,eA u g3⟩
    ·rcases zC he' with ⟨h1,h2⟩|⟨_,h2⟩
     ·subst h1 h2
      refine⟨rfl,zLb _,zLl _,b',cs,by grind,?_,?_,rfl⟩
      ·rw[hι,hR.O,Cx.Ka hR.A hR.F,<-tC,<-aF];exact q2
      ·show (t.gr X'.P).rel X'.O w cs.toList _
       rw[hR.P,hR.O];exact(AV.jR hG p.2.2.1 hM).vc hx q3
     ·cases h2
    ·match i,hi with
     |0,hi=>cases hi;exact⟨_,hk,rfl⟩
     |i+1,hi=>grind
   ·cases h
  ·cases h
 |un =>
  intro φ x olds n h hR;simp only[Knd.get]at h;split at h
  ·cases h
   exact⟨rfl,fun u hu=>hu,fun cs hc=>⟨hc,rfl⟩,rfl,fun j e he=>(nomatch he),fun i k hi=>by grind⟩
  ·cases h
 |pr a b iha ihb =>
  intro φ x olds n h hR;simp only[Knd.get]at h;split at h
  ·rename_i φ1 φ2
   split at h
   ·rename_i p q hp hq
    cases h
    obtain⟨a1,a2,a3,a4,a5,a6⟩:=iha hp hR.left;obtain⟨b1,b2,b3,b4,b5,b6⟩:=ihb hq hR.right;simp only[Knd.put];rw[a1];refine⟨by rw[b1,zLa];omega,fun u hu=>hu.elim,fun cs hc=>?_,by simp[AV.ze,a4,b4],fun j e he=>?_,fun i k hi=>?_⟩
    ·obtain⟨c1,c2,h1,h2,h3⟩:=hc
     exact⟨⟨c1,c2,h1,(a3 _ h2).1,(b3 _ h3).1⟩,by simp[AV.ze,a4,b4]⟩
    ·rw[zLa]
     rcases Z4 he with h1|⟨_,h1⟩
     ·obtain⟨g1,g2,g3,g4⟩:=a5 j e h1;exact⟨g1,g2,by omega,g4⟩
     ·obtain⟨g1,g2,g3,g4⟩:=b5 j e h1;exact⟨g1,by omega,by omega,g4⟩
    ·by_cases gF:i<p.2.length
     ·rw[zLn gF]at hi;exact a6 i k hi
     ·rw[zLo (by omega)]at hi;exact b6 _ k hi
   ·cases h
  ·cases h
 |ag l ih =>
  intro φ x olds n h hR;simp only[Knd.get]at h;split at h
  ·rename_i ψ hψ
   obtain⟨a1,a2,a3,a4,a5,a6⟩:=ih h hR;simp only[Knd.put];have hc:∀cs,(φ.sem X w).c cs->(ψ.sem X w).c cs:=by
    intro cs hc;unfold K5 at hψ;split at hψ
    ·cases hψ;exact hc
    ·split at hψ
     ·rename_i hb
      cases hψ
      rw[zLZ]at hb;exact E3 hb.2 hc
     ·cases hψ
    ·cases hψ
   refine⟨a1,fun u hu=>?_,fun cs h1=>⟨(a3 cs (hc cs h1)).1,a4⟩,a4,a5,a6⟩
   unfold K5 at hψ;split at hψ
   ·obtain⟨cs,h1,h2⟩:=hu
    exact⟨cs,(a3 cs (hc cs h1)).1,h2⟩
   ·split at hψ
    ·rename_i hb
     rw[zLZ]at hb;obtain⟨cs,h1,h2⟩:=hu;refine⟨cs,(a3 cs (hc cs h1)).1,?_⟩;rw[h2,Ty.jI,hb.1];rfl
    ·cases hψ
   ·cases hψ
  ·cases h
abbrev KE:=Bool×Nat×Knd
def LD:List KE->Type
 | []=>Unit
 | [e]=>e.2.2.D
 |e::e'::l=>e.2.2.D×LD (e'::l)
def LD.hd:(e:KE)->(l:List KE)->LD (e::l)->e.2.2.D
 |_,[],x=>x
 |_,_::_,x=>x.1
def LD.tl:(e:KE)->(l:List KE)->LD (e::l)->LD l
 |_,[],_=>()
 |_,_::_,x=>x.2
def LD.mk:(e:KE)->(l:List KE)->e.2.2.D->LD l->LD (e::l)
 |_,[],x,_=>x
 |_,_::_,x,y=>(x,y)
theorem LD.S1{e:KE}{l:List KE}{x:e.2.2.D}{y:LD l}:LD.hd e l (LD.mk e l x y)=x:=by cases l<;>rfl
theorem LD.SY{e:KE}{l:List KE}{x:e.2.2.D}{y:LD l}:LD.tl e l (LD.mk e l x y)=y:=by
 cases l with
 |nil=>cases y;rfl
 |cons _ _=>rfl
def C4(s:S)(t:Nat):Option (Nat×Bool×TypeId):=match look s.L t with
 |some (_,.bx k 0)=>match look s.M k with
  |some (_,.bx nw _ T)=>some (k,nw,T)
  |_=>none
 |_=>none
theorem D2{s:S}{t:Nat}{p:Nat×Bool×TypeId}(h:C4 s t=some p):∃st c,look s.M p.1=some (st,.bx p.2.1 c p.2.2):=by
 grind [C4]
def Wt(s:S)(t:Nat):Option (Nat×Bool×TypeId):=match look s.L t with
 |some (_,.ob k)=>match look s.M k with
  |some (_,.sl nw _ T _)=>some (k,nw,T)
  |_=>none
 |_=>none
theorem Ij{s:S}{t:Nat}{p:Nat×Bool×TypeId}(h:Wt s t=some p):∃e,look s.M p.1=some e:=by
 grind [Wt]
def slM(M:MS)(b:Nat×Bool×TypeId):Option ((t:Ty)×List t.D):=match look M b.1 with
 |some (_,.sl nw t T xs)=>match lp nw b.2.1 && Nat.beq T b.2.2 with
  |true=>some ⟨t,xs⟩
  |false=>none
 |_=>none
theorem NQ{M:MS}{b:Nat×Bool×TypeId}{r:(t:Ty)×List t.D}(h:slM M b=some r):∃st,look M b.1=some (st,.sl b.2.1 r.1 b.2.2 r.2):=by
 unfold slM at h;split at h
 ·rename_i st nw t T xs hk
  split at h
  ·rename_i hb
   rw[zLZ]at hb;grind [Xy,zLY]
  ·cases h
 ·cases h
def zFS(k st:Nat)(nw:Bool)(T:TypeId):AV->MS
 |.rd (.sl t) xs=>[(k,st,.sl nw t T xs)]
 |_=>[]
theorem zBL{a b:Ty}{x:a.D}{y:b.D}(sX:a.agg=false)(hn:b.zEt=true)(h:a.toN b x=some y):a.to b x=some y:=by
 unfold Ty.toN at h;split at h
 ·grind
 ·split at h
  ·cases hn
  ·grind [Ty.jN]
  ·cases h
theorem zDq{G:FE}{M:MS}{ek:Knd}{t:Ty}{xs:List t.D}{p:ek.D×List (Option Nat)}(h:ek.get G M (.rd (.sl t) xs)=some p)(st n:Nat):ek.put st p.1 n=(.rd (.sl t) xs,[],n)/\p.2=[]:=by
 cases ek with
 |v t' =>
  simp only[Knd.get]at h;split at h
  ·rename_i x hn hx
   cases h
   have hx:(Ty.sl t).toN t' xs=some x:=hx;obtain⟨e,h2⟩:=Ty.jN (zBL rfl hn hx);subst e;have h2:xs=x:=h2
   subst h2;exact⟨rfl,rfl⟩
  ·cases h
 |o nw t' T=>grind [Knd.get,X6,Ys]
 |m nw a b=>grind [Knd.get,W2]
 |bv nw t' T=>grind [Knd.get,zAJ]
 |un=>grind [Knd.get]
 |pr a b=>grind [Knd.get]
 |ag l=>grind [Knd.get,K5,Ty.agg]
def lf(s:S):(l:List KE)->LD l->Nat->LS×MS×Nat
 | [],_,n=>([],[],n)
 |e::l,x,n =>
  let p:=e.2.2.put s.n (LD.hd e l x) n
  let q:=lf s l (LD.tl e l x) p.2.2
  match e.1 with
  |false=>((e.2.1,s.n,p.1)::q.1,p.2.1++q.2.1,q.2.2)
  |true=>match C4 s e.2.1 with
   |some b=>(q.1,(b.1,s.n,.bx b.2.1 p.1 b.2.2)::(p.2.1++q.2.1),q.2.2)
   |none=>match Wt s e.2.1 with
    |none=>(q.1,p.2.1++q.2.1,q.2.2)
    |some b=>(q.1,zFS b.1 s.n b.2.1 b.2.2 p.1++(p.2.1++q.2.1),q.2.2)
def bxM(M:MS)(b:Nat×Bool×TypeId):Option AV:=match look M b.1 with
 |some (_,.bx nw c T)=>match lp nw b.2.1 && Nat.beq T b.2.2 with
  |true=>some c
  |false=>none
 |_=>none
theorem Qa{M:MS}{b:Nat×Bool×TypeId}{c:AV}(h:bxM M b=some c):∃st,look M b.1=some (st,.bx b.2.1 c b.2.2):=by
 unfold bxM at h;split at h
 ·rename_i st nw c' T hk
  split at h
  ·rename_i hb
   cases h
   rw[zLZ]at hb;grind [Xy,zLY]
  ·cases h
 ·cases h
def Ml(G:FE)(s s1:S):(l:List KE)->Option (LD l×List (Option Nat)×List Nat)
 | []=>some ((),[],[])
 |e::l=>match Ml G s s1 l with
  |none=>none
  |some q=>match e.1 with
   |false=>match look s1.L e.2.1 with
    |none=>none
    |some f=>match fresh s1.ep f,e.2.2.get G s1.M f.2 with
     |true,some p=>some (LD.mk e l p.1 q.1,p.2++q.2.1,q.2.2)
     |_,_=>none
   |true=>match C4 s e.2.1 with
    |none=>match Wt s e.2.1 with
     |none=>none
     |some b=>match slM s1.M b with
      |none=>none
      |some r=>match e.2.2.get G s1.M (.rd (.sl r.1) r.2) with
       |some p=>some (LD.mk e l p.1 q.1,p.2++q.2.1,b.1::q.2.2)
       |none=>none
    |some b=>match bxM s1.M b with
     |none=>none
     |some c=>match e.2.2.get G s1.M c with
      |some p=>some (LD.mk e l p.1 q.1,p.2++q.2.1,b.1::q.2.2)
      |none=>none
theorem J0{α:Type}{l m:List (Nat×α)}{t:Nat}(h:look (l++m) t=none):look l t=none/\look m t=none:=by
 induction l with
 |nil=>exact⟨rfl,h⟩
 |cons x l ih =>
  grind [look,Nat.beq]
theorem ZF{α:Type}{k:Nat}{x:α}{l:List (Nat×α)}{t:Nat}(h:look ((k,x)::l) t=none):k≠t/\look l t=none:=by
 grind [look,Nat.beq,zU]
structure AOk(s s1:S)(X':Cx)(w:World)(a:Act)(n:Nat)(olds:List (Option Nat))(obs:List Nat)(r:LS×MS×Nat):Prop where
 nn:r.2.2=n+olds.length
 l:∀t e,look r.1 t=some e->e.1=s.n/\e.2.holds X' w (a.get t)
 m:∀j e,look r.2.1 j=some e->e.1=s.n/\e.2.holds X' w j/\((n<=j/\j<n+olds.length)\/j∈obs)
 o:∀(i:Nat) k,olds[i]?=some (some k)->IJ s1.M k
 b:∀k,k∈obs->IJ s1.M k/\k<s.n/\look r.2.1 k≠none
theorem uq{s s1:S}{a:Act}{w:World}{X X':Cx}{E:VE}(hE:E.ok X.P)(hM:yE s1.M X w)(hL:Xt s1.L X w a)(xI:X.ep=s1.ep)(dA:∀k e,look s.M k=some e->k<s.n)(hU:∀k,k<s.n->X'.U k=X.U k/\X'.ι k=X.ι k):∀ {l:List KE} {x:LD l} {olds:List (Option Nat)} {obs:List Nat} {n:Nat},Ml E.G s s1 l=some (x,olds,obs)->s.n<=n->Ren X X' n olds->AOk s s1 X' w a n olds obs (lf s l x n)
 | [],x,olds,obs,n,h,hn,hR=>by
  cases h
  exact⟨rfl,fun t e he=>(nomatch he),fun j e he=>(nomatch he),fun i k hi=>by grind,fun k hk=>by cases hk⟩
 |e::l,x,olds,obs,n,h,hn,hR=>by
  obtain⟨eb,et,ek⟩:=e;simp only[Ml]at h
  cases hq:Ml E.G s s1 l with
  |none=>grind
  |some q =>
   obtain⟨y,oX,obs2⟩:=q;rw[hq]at h;simp only at h
   cases eb with
   |false =>
    simp only at h;split at h
    ·cases h
    ·rename_i f hf
     split at h
     ·rename_i p f8 hp
      cases h
      obtain⟨k1,k2,k3,k4,k5,k6⟩:=Knd.ok hE.G hM (st:=s.n) hp hR.left;have ih:=uq hE hM hL xI dA hU hq (n:=n+p.2.length) (by omega) hR.right
      simp only[lf];rw[LD.S1,LD.SY,k1];refine⟨by rw[ih.nn,zLa];omega,fun t e' he'=>?_,fun j e' he'=>?_,fun i k hi=>?_,fun k hk=>?_⟩
      ·rcases zC he' with ⟨h1,h2⟩|⟨_,h2⟩
       ·subst h1 h2
        exact⟨rfl,k2 _ (hL _ f hf (by grind))⟩
       ·exact ih.l t e' h2
      ·rw[zLa]
       rcases Z4 he' with h1|⟨_,h1⟩
       ·grind
       ·obtain⟨g1,g2,g3⟩:=ih.m j e' h1
        grind
      ·by_cases gF:i<p.2.length
       ·grind
       ·rw[zLo (by omega)]at hi;exact ih.o _ k hi
      ·obtain⟨g1,g2,g3⟩:=ih.b k hk
       exact⟨g1,g2,fun iK=>g3 (J0 iK).2⟩
     ·cases h
   |true =>
    simp only at h;split at h
    ·rename_i hnb
     split at h
     ·cases h
     ·rename_i b hb
      split at h
      ·cases h
      ·rename_i r hr
       split at h
       ·rename_i p hp
        cases h
        obtain⟨pe1,pe2⟩:=zDq hp s.n n;have ih:=uq hE hM hL xI dA hU hq (n:=n) hn (by grind)
        simp only[lf,hnb,hb];rw[LD.S1,LD.SY,pe1,pe2];obtain⟨st1,tC⟩:=NQ hr;obtain⟨e0,bX⟩:=Ij hb;have gF:=dA _ _ bX
        have hO:zo _ _ _ _ _ _ _ _:=hM _ _ tC;obtain⟨u1,u2⟩:=hU _ gF;show AOk s s1 X' w a n ([]++oX) (b.1::obs2) ((lf s l y n).1,(b.1,s.n,MV.sl b.2.1 r.1 b.2.2 r.2)::([]++(lf s l y n).2.1),(lf s l y n).2.2)
        refine⟨ih.nn,ih.l,fun j e' he'=>?_,ih.o,fun k hk=>?_⟩
        ·rcases zC he' with ⟨h1,h2⟩|⟨_,h2⟩
         ·subst h1 h2
          refine⟨rfl,?_,.inr (by simp)⟩
          show zo _ _ _ _ _ _ _ _
          rw[u1,u2,hR.P,hR.O,Cx.Ka hR.A hR.F];exact hO
         ·obtain⟨g1,g2,g3⟩:=ih.m j e' h2
          grind
        ·rcases zLd.1 hk with rfl|hk
         ·refine⟨⟨_,tC,rfl⟩,gF,fun iK=>?_⟩
          exact(ZF iK).1 rfl
         ·obtain⟨g1,g2,g3⟩:=ih.b k hk
          grind [ZF]
       ·cases h
    ·rename_i b hb
     split at h
     ·cases h
     ·rename_i c hc
      split at h
      ·rename_i p hp
       cases h
       obtain⟨k1,k2,k3,k4,k5,k6⟩:=Knd.ok hE.G hM (st:=s.n) hp hR.left;have ih:=uq hE hM hL xI dA hU hq (n:=n+p.2.length) (by omega) hR.right
       simp only[lf,hb];rw[LD.S1,LD.SY,k1];obtain⟨st0,c0,bX⟩:=D2 hb;obtain⟨st1,tC⟩:=Qa hc;have gF:=dA _ _ bX
       obtain⟨bb,cs,m1,m2,m3,m4⟩:=hM _ _ tC;obtain⟨u1,u2⟩:=hU _ gF;refine⟨by rw[ih.nn,zLa];omega,ih.l,fun j e' he'=>?_,fun i k hi=>?_,fun k hk=>?_⟩
       ·rw[zLa]
        rcases zC he' with ⟨h1,h2⟩|⟨_,h2⟩
        ·subst h1 h2
         refine⟨rfl,⟨bb,cs,by grind,?_,(k3 _ m3).1,k4⟩,.inr (by simp)⟩
         rw[u2,hR.O,Cx.Ka hR.A hR.F];exact m2
        ·rcases Z4 h2 with h1|⟨_,h1⟩
         ·grind
         ·obtain⟨g1,g2,g3⟩:=ih.m j e' h1
          grind
       ·by_cases gF:i<p.2.length
        ·grind
        ·rw[zLo (by omega)]at hi;exact ih.o _ k hi
       ·rcases zLd.1 hk with rfl|hk
        ·refine⟨⟨_,tC,rfl⟩,gF,fun iK=>?_⟩
         exact(ZF iK).1 rfl
        ·obtain⟨g1,g2,g3⟩:=ih.b k hk
         exact⟨g1,g2,fun iK=>g3 (J0 (ZF iK).2).2⟩
      ·cases h
def rI(L:LS):List Nat->LS
 | []=>[]
 |t::l=>match look L t with
  |some e=>match e.2.ze with
   |false=>(t,e)::rI L l
   |true=>rI L l
  |none=>rI L l
theorem Zd{L:LS}:∀ {l:List Nat} {t:Nat} {e:Nat×AV},look (rI L l) t=some e->look L t=some e/\e.2.ze=false/\vh t l=true
 | [],t,e,h=>by cases h
 |u::l,t,e,h=>by
  have st:vh t l=true->vh t (u::l)=true:=fun h=>by grind [vh,Nat.beq]
  simp only[rI]at h;split at h
  ·rename_i f hf
   split at h
   ·rename_i f8
    rcases zC h with ⟨h1,h2⟩|⟨_,h2⟩
    ·grind [vh,zU]
    ·obtain⟨g1,g2,g3⟩:=Zd h2;grind
   ·obtain⟨g1,g2,g3⟩:=Zd h;grind
  ·obtain⟨g1,g2,g3⟩:=Zd h;grind
def C0(M:MS):List Nat->MS
 | []=>[]
 |t::l=>match look M t with
  |some e=>(t,e)::C0 M l
  |none=>C0 M l
theorem J8{M:MS}:∀ {l:List Nat} {t:Nat} {e:Nat×MV},look (C0 M l) t=some e->look M t=some e/\vh t l=true
 | [],t,e,h=>by cases h
 |u::l,t,e,h=>by
  have st:vh t l=true->vh t (u::l)=true:=fun h=>by grind [vh,Nat.beq]
  simp only[C0]at h;split at h
  ·rename_i f hf
   rcases zC h with ⟨h1,h2⟩|⟨_,h2⟩
   ·grind [vh,zU]
   ·obtain⟨g1,g3⟩:=J8 h2;grind
  ·obtain⟨g1,g3⟩:=J8 h;grind
def zAH(s s1:S):List Nat->Bool
 | []=>true
 |t::l=>(match look s.L t with
  |none=>true
  |some e=>match e.2.ze with
   |true=>true
   |false=>match look s1.L t with
    |some e1=>Nat.blt e1.1 s.n
    |none=>false) && zAH s s1 l
theorem HV{s s1:S}(hi:Inv s s1):∀ {l:List Nat},zAH s s1 l=true->∀ {t e},vh t l=true->look s.L t=some e->e.2.ze=false->look s1.L t=some e
 | [],_,t,e,h,_,_=>by cases h
 |u::l,hc,t,e,h,he,hf=>by
  simp only[zAH,zLZ]at hc;simp only[vh]at h
  cases hb:Nat.beq u t with
  |false=>rw[hb]at h;exact HV hi hc.2 h he hf
  |true =>
   have:=zLY hb;subst this;have h1:=hc.1
   rw[he]at h1;simp only[hf]at h1;split at h1
   ·rename_i e1 c9
    rw[za]at h1;have h2:=hi.l u e1 c9 (by grind)
    grind
   ·cases h1
def zAG(s s1:S)(obs:List Nat):List Nat->Bool
 | []=>true
 |t::l=>(vh t obs || match look s.M t with
  |none=>true
  |some e=>match look s1.M t with
   |some e1=>Nat.blt e1.1 s.n
   |none=>false) && zAG s s1 obs l
theorem JH{t:Nat}:∀ {l:List Nat},vh t l=true↔t∈l
 | []=>by simp[vh]
 |u::l=>by
  simp only[vh,zLd]
  cases hb:Nat.beq u t with
  |true=>simp_all
  |false =>
   rw[zU]at hb;have:¬u=t:=by grind
   simp only[cond_false,JH];grind
theorem HU{s s1:S}(hi:Inv s s1){obs:List Nat}:∀ {l:List Nat},zAG s s1 obs l=true->∀ {t e},vh t l=true->t ∉ obs->look s.M t=some e->look s1.M t=some e
 | [],_,t,e,h,_,_=>by cases h
 |u::l,hc,t,e,h,ho,he=>by
  simp only[zAG,zLZ,zLx]at hc;simp only[vh]at h
  cases hb:Nat.beq u t with
  |false=>rw[hb]at h;exact HU hi hc.2 h ho he
  |true =>
   have:=zLY hb;subst this;rcases hc.1 with h1|h1
   ·grind [JH]
   ·rw[he]at h1
    simp only at h1;split at h1
    ·rename_i e1 c9
     rw[za]at h1;have h2:=hi.m u e1 c9 (by grind)
     grind
    ·cases h1
def UZ(no:List Nat):List (Option Nat)->Bool
 | []=>true
 |none::l=>UZ no l
 |some k::l=>!vh k no && UZ (k::no) l
theorem lI:∀ {l:List (Option Nat)} {no:List Nat},UZ no l=true->(∀(i:Nat) k,l[i]?=some (some k)->k ∉ no)/\∀(i j:Nat) k,l[i]?=some (some k)->l[j]?=some (some k)->i=j
 | [],no,_=>⟨fun i k h=>by simp at h,fun i j k h=>by simp at h⟩
 |none::l,no,h=>by
  obtain⟨h1,h2⟩:=lI (l:=l) h;grind
 |some k0::l,no,h=>by
  simp only[UZ,zLZ]at h;obtain⟨h1,h2⟩:=lI (l:=l) h.2;grind [JH]
def zAX:LS->List Nat
 | []=>[]
 |e::L=>e.2.2.refs++zAX L
def Cp(M:MS):List Nat->List Nat
 | []=>[]
 |k::l=>match look M k with
  |some (_,.bx _ c _)=>c.refs++Cp M l
  |_=>Cp M l
structure Sh where
 l:List KE
 keep:List Nat
 fz:List Nat
def Si(s:S):List Nat->List Nat
 | []=>[]
 |t::l=>match look s.L t with
  |some (_,φ)=>φ.refs++(Cp s.M φ.refs++Si s l)
  |none=>Si s l
def IE(s:S):List KE->List Nat
 | []=>[]
 |e::l=>match e.1 with
  |false=>IE s l
  |true=>match C4 s e.2.1 with
   |some b=>b.1::IE s l
   |none=>IE s l
def AB(no:List Nat):List Nat->List Nat
 | []=>[]
 |k::l=>match vh k no with
  |true=>AB no l
  |false=>k::AB no l
def Sh.tags(sh:Sh)(s:S):List Nat :=
 let no:=IE s sh.l
 let a:=zAX (rI s.L sh.keep)
 let b:=Cp s.M (AB no a)
 a++(b++Cp s.M (AB no b))
abbrev Sh.D(sh:Sh):Type:=LD sh.l
def Sh.put(sh:Sh)(s:S)(x:sh.D):S :=
 let p:=lf s sh.l x s.n
 { L:=p.1++rI s.L sh.keep,M:=p.2.1++C0 s.M (sh.tags s),n:=p.2.2+1,ep:=s.n }
def Sh.zFB(sh:Sh)(G:FE)(s s1:S):Option sh.D:=match Ml G s s1 sh.l with
 |none=>none
 |some q=>match zAH s s1 sh.keep && (zAG s s1 q.2.2 (sh.tags s) && UZ (q.2.2++sh.tags s) q.2.1) with
  |true=>some q.1
  |false=>none
def Knd.uP:Knd->AV->List Nat
 |.v _,φ=>φ.refs
 |.o ..,_=>[]
 |.m ..,_=>[]
 |.bv ..,_=>[]
 |.un,_=>[]
 |.pr a b,φ=>match φ with
  |.pr x y=>a.uP x++b.uP y
  |_=>[]
 |.ag l,φ=>match K5 φ with
  |some ψ=>l.uP ψ
  |none=>[]
def nQ(s1:S):List KE->List Nat
 | []=>[]
 |e::l=>match look s1.L e.2.1 with
  |none=>nQ s1 l
  |some f=>match e.1 with
   |false=>e.2.2.uP f.2++nQ s1 l
   |true=>match f.2 with
    |.bx k _=>match look s1.M k with
     |some (_,.bx _ c _)=>e.2.2.uP c++nQ s1 l
     |_=>nQ s1 l
    |_=>nQ s1 l
def Sh.get(sh:Sh)(G:FE)(s s1:S):Option sh.D:=sh.zFB G s (s1.Jy (nQ s1 sh.l++Si s1 sh.fz))
theorem zBN(ι:Nat->Nat)(M:MS):∃B,0<B/\∀k e,look M k=some e->ι k<B :=
 ⟨1+(M.map fun e=>ι e.1).sum,by omega,fun k e h=>by
  have:=uG (l:=M.map fun e=>ι e.1) (x:=ι k) (List.mem_map.2 ⟨_,ZK h,rfl⟩)
  omega⟩
structure Frm.kin(F F0:Frm):Prop where
 fe:F0.fe=F.fe
 bl:F0.bl=F.bl
 kv:F0.x.kv=F.x.kv
theorem Frm.Ki(F:Frm):F.kin F:=⟨rfl,rfl,rfl⟩
theorem Frm.Same.kin{F F':Frm}(h:F.Same F'):F'.kin F:=⟨h.fe.symm,h.bl.symm,h.kv.symm⟩
theorem N7{F:Frm}(fC:∀t φ,¬F.Lh t φ){E:VE}(hE:E.ok F.P){s s1:S}{a0 a1:Act}{w0 w1:World}{F0:Frm}(cR:F.kin F0)(h0:Rel F0 s a0 w0)(h1:Rel F s1 a1 w1)(hi:Inv s s1){sh:Sh}{x:sh.D}(hg:sh.zFB E.G s s1=some x):Rel F (sh.put s x) a1 w1/\Inv s (sh.put s x):=by
 obtain⟨X0,h0⟩:=h0;obtain⟨X,h1⟩:=h1;unfold Sh.zFB at hg
 cases hq:Ml E.G s s1 sh.l with
 |none=>grind
 |some q =>
  obtain⟨y,olds,obs⟩:=q;rw[hq]at hg;simp only at hg;split at hg
  ·rename_i hc
   cases hg
   simp only[zLZ]at hc;obtain⟨c1,c2,c3⟩:=hc;obtain⟨t1,t2⟩:=lI c3;obtain⟨B,hB0,hBs,hB⟩:∃B,0<B/\F.x.st<B/\∀k e,look s1.M k=some e->X.ι k<B:=by
    obtain⟨B,hB0,hB⟩:=zBN X.ι s1.M;exact⟨B+F.x.st,by omega,by omega,fun k e he=>by grind⟩
   have hfe0:=cR.fe ▸ h0.fe;have hbl0:=cR.bl ▸ h0.bl
   let pick:Nat->Option Nat:=fun k=>(olds[k-s.n]?).bind id
   let X':Cx:={ X with
    U:=fun k=>if k<s.n then X.U k else match pick k with|some j=>X.U j|none=>.slice none 0 0
    ι:=fun k=>if k<s.n then X.ι k else match pick k with|some j=>X.ι j|none=>B+k
    n:=s.n+olds.length+1
    ep:=s.n }
   have hU:∀k,k<s.n->X'.U k=X.U k/\X'.ι k=X.ι k:=fun k hk=>⟨zLz hk,zLz hk⟩
   have iJ:∀i o,olds[i]?=some o->pick (s.n+i)=o:=fun i o hi'=>by
    grind
   have hU2:∀i o,olds[i]?=some o->X'.U (s.n+i)=(match o with|some j=>X.U j|none=>.slice none 0 0)/\X'.ι (s.n+i)=(match o with|some j=>X.ι j|none=>B+(s.n+i)):=fun i o hi'=>by
    grind
   have hR:Ren X X' s.n olds:=⟨rfl,rfl,rfl,rfl,rfl,fun i k hi'=>hU2 i _ hi',fun i hi'=>(hU2 i _ hi').1,zLk _⟩
   have dA:∀k e,look s.M k=some e->k<s.n:=fun k e he=>(h0.mn k e he).2
   have hA:=uq (by rw[h1.P];exact hE) h1.m h1.l h1.ep dA hU hq (zLb _) hR
   have hn:(sh.put s x).n=s.n+olds.length+1:=by show (lf s sh.l x s.n).2.2+1=_;rw[hA.nn]
   have sW:X.al X' s.n:=⟨rfl,rfl,fun k hk=>(hU k hk).1,by grind,rfl⟩
   -- the objects
   have cls:∀k e,look (sh.put s x).M k=some e->e.1=s.n/\e.2.holds X' w1 k/\(s.n<=k/\k<s.n+olds.length)\/(e.1=s.n/\e.2.holds X' w1 k/\k∈obs/\k<s.n)\/(k ∉ obs/\k<s.n/\vh k (sh.tags s)=true/\look s.M k=some e/\look s1.M k=some e):=by
    intro k e he;rcases Z4 he with h2|⟨h2,h3⟩
    ·obtain⟨g1,g2,g3⟩:=hA.m k e h2
     rcases g3 with g3|g3
     ·grind
     ·exact .inr (.inl ⟨g1,g2,g3,(hA.b k g3).2.1⟩)
    ·obtain⟨g1,g2⟩:=J8 h3
     have c6:k ∉ obs:=fun hm=>(hA.b k hm).2.2 h2
     grind [HU]
   -- the tags of the call's own objects
   have tg:∀k e,look (sh.put s x).M k=some e->e.2.own=true->(∃k0,IJ s1.M k0/\X'.ι k=X.ι k0/\((k0=k/\k<s.n/\(k∈obs\/vh k (sh.tags s)=true))\/(∃i,k=s.n+i/\olds[i]?=some (some k0))))\/X'.ι k=B+k:=by
    intro k e he ho;rcases cls k e he with ⟨_,_,g1,g2⟩|⟨_,_,g1,g2⟩|⟨g1,g2,g3,g4,g5⟩
    ·have gF:k-s.n<olds.length:=by omega
     have fB:olds[k-s.n]?=some olds[k-s.n]:=zMD gF;have h2:=(hU2 (k-s.n) _ fB).2
     have e1:s.n+(k-s.n)=k:=by omega
     rw[e1]at h2
     cases ho2:olds[k-s.n] with
     |none=>grind
     |some k0 =>
      rw[ho2]at h2 fB;exact .inl ⟨k0,hA.o _ k0 fB,h2,.inr ⟨k-s.n,e1.symm,fB⟩⟩
    ·exact .inl ⟨k,(hA.b k g1).1,(hU k g2).2,.inl ⟨rfl,g2,.inl g1⟩⟩
    ·exact .inl ⟨k,⟨e,g5,ho⟩,(hU k g2).2,.inl ⟨rfl,g2,.inr g3⟩⟩
   refine⟨⟨X',?_⟩,?_⟩
   ·refine⟨h1.P,h1.A,h1.Fn,hn.symm,rfl,h1.ok0,h1.fit,h1.base,fun t e he hf=>?_,fun k e he=>?_,fun t e he=>?_,fun k e he=>?_,fun k k' e e' he he' ho ho' fV=>?_,fun k e he ho=>?_,by rw[hn];show s.n<=_;omega,by omega,fun t φ hp=>zLp hp (fC t φ),⟨by omega,fun j b hj=>(hU j (zLm (zLf.1 hj).1 hbl0.1)).1.trans (h1.bl.2 j b hj)⟩,⟨h1.ex.st,h1.ex.sys,fun v φ hv=>⟨(h1.ex.kv v φ hv).1,(AV.al sW φ (by have:=(AV.UB φ).1 _ (h0.ex.kv v φ (by rw[cR.kv];exact hv)).2;rwa[h0.n]at this)).1 _ (h1.ex.kv v φ hv).2⟩,h1.ex.since,h1.ex.L⟩⟩
    ·rcases Z4 he with h2|⟨_,h2⟩
     ·exact(hA.l t e h2).2
     ·obtain⟨g1,g2,g3⟩:=Zd h2
      have g4:=HV hi c1 g3 g1 g2;have f8:∀ep,fresh ep e=true:=fun ep=>by grind [fresh]
      have hb:e.2.bd s.n:=by
       have:=(AV.UB e.2).1 _ (h0.l t e g1 (f8 _));rwa[h0.n]at this
      exact(AV.al sW e.2 hb).1 _ (h1.l t e g4 (f8 _))
    ·rcases cls k e he with ⟨_,g2,_⟩|⟨_,g2,_⟩|⟨g1,g2,g3,g4,g5⟩
     ·exact g2
     ·exact g2
     ·have hh:=h1.m k e g5
      have hh0:=h0.m k e g4;obtain⟨st,mv⟩:=e
      cases mv with
      |sl nw t T xs =>
       show zo _ _ _ _ _ _ _ _
       rw[(hU k g2).1,(hU k g2).2];exact hh
      |bx nw c T =>
       obtain⟨b,cs,m1,m2,m3,m4⟩:=hh;obtain⟨_,cs0,_,_,m5,_⟩:=hh0;have hb:=(AV.UB c).2.2 _ m5
       rw[h0.n]at hb;refine⟨b,cs,by grind,?_,(AV.al sW c hb).2.2 _ m3,m4⟩
       rw[(hU k g2).2];exact m2
      |fs t xs=>show (rSl _).v _ _ _ _;rw[(hU k g2).1];exact hh
      |fb t x=>show (KV _).v _ _ _ _;rw[(hU k g2).1];exact hh
      |fg f=>intro t x hx;show (KV _).v _ _ _ _;rw[(hU k g2).1];exact hh t x hx
      |mp nw a b xs =>
       show YA _ _ _ _ _ _ _ _
       rw[(hU k g2).1,(hU k g2).2];exact hh
      |fm a b xs=>show ((Ty.mp a b).gr X.P).v _ _ _ _;rw[(hU k g2).1];exact hh
      |dead=>trivial
    ·rw[hn]
     rcases Z4 he with h2|⟨_,h2⟩
     ·rw[(hA.l t e h2).1];omega
     ·have:=h0.ln t e (Zd h2).1;omega
    ·rw[hn]
     rcases cls k e he with ⟨g1,_,g2⟩|⟨g1,_,_,g2⟩|⟨_,g2,_,g4,_⟩
     ·omega
     ·omega
     ·have:=(h0.mn k e g4).1;omega
    ·rcases tg k e he ho with ⟨k0,a1,a2,a3⟩|a2<;>rcases tg k' e' he' ho' with ⟨k1,b1,b2,b3⟩|b2
     ·have cO:k0=k1:=by
       obtain⟨e1,f1,f2⟩:=a1;obtain⟨e2,f3,f4⟩:=b1;exact h1.inj k0 k1 e1 e2 f1 f3 f2 f4 (by omega)
      subst cO;rcases a3 with ⟨a3,a4,a5⟩|⟨i,a3,a4⟩<;>rcases b3 with ⟨b3,b4,b5⟩|⟨j,b3,b4⟩
      ·omega
      ·refine zLp ?_ (t1 j k0 b4)
       grind [id,JH]
      ·refine zLp ?_ (t1 i k0 a4)
       grind [id,JH]
      grind
     ·obtain⟨e1,f1,_⟩:=a1
      grind
     ·obtain⟨e1,f1,_⟩:=b1
      grind
     omega
    ·rcases tg k e he ho with ⟨k0,⟨e1,f1,f2⟩,a2,_⟩|a2
     ·rw[a2];exact h1.pos k0 e1 f1 f2
     omega
   ·refine⟨by omega,fun t e he hl=>?_,fun k e he hl=>?_⟩
    ·rcases Z4 he with h2|⟨_,h2⟩
     ·rw[(hA.l t e h2).1]at hl;omega
     ·exact(Zd h2).1
    grind
  ·cases hg
theorem YX{F:Frm}(fC:∀t φ,¬F.Lh t φ){E:VE}(hE:E.ok F.P){s s1:S}{a0 a1:Act}{w0 w1:World}{F0:Frm}(cR:F.kin F0)(h0:Rel F0 s a0 w0)(h1:Rel F s1 a1 w1)(hi:Inv s s1){sh:Sh}{x:sh.D}(hg:sh.get E.G s s1=some x):Rel F (sh.put s x) a1 w1/\Inv s (sh.put s x) :=
 N7 fC hE cR h0 (Rel.Jy _ h1) (hi.trans (Inv.Jy _ _)) hg
section
variable {F:Frm} {s:S} {a:Act} {w w':World} {X:Cx} {E:VE}
theorem RelX.ghost(h:RelX F s a w X)(fC:∀t φ,¬F.Lh t φ)(hL:s.L=[])(hE:Ext w w')(sD:F.x.sb<=F.w0.heap.size){d:Option Tmp}{v:Value}{b:Nat}{o0:Obj}(hb:w.heap.size<=b)(ho:w'.heap[b]?=some o0) :
  RelX (F.sys fun c o=>F.x.sys c o\/(c=b/\o=o0)) s (a.put d v) w' { X with O:=tag X.O (some b) F.x.st }:=by
 have gF:=(zLy.1 ho).1;have hk:KX none X.O w (tag X.O (some b) F.x.st) w':=KX.tag hE fun g hg=>by grind
 have hB:Base F.A F.O0 F.w0 (tag X.O (some b) F.x.st) w':=(h.base.step hE h.ok0).tag h.ex.st (fun g hg=>by cases hg;exact⟨h.base.new _ (zLg h.base.size hb),gF⟩)
 have h1:RelX F s (a.put d v) w' { X with O:=tag X.O (some b) F.x.st }:=h.go (ZS h.fit d v) rfl rfl rfl (fun _ _=>hk.keep (by simp)) (fun _ _=>rfl) h.n h.ep (zLb _) h.epn hB (fun hf=>⟨hf,hE⟩) (fun t φ hp=>zLp hp (fC t φ)) (fun t e he=>by rw[hL]at he;cases he) (fun k e he=>.inr ⟨he,rfl,fun _=>hk.keep (by simp)⟩) h.inj h.pos
 refine⟨h1.P,h1.A,h1.Fn,h1.n,h1.ep,h1.ok0,h1.fit,h1.base,h1.l,h1.m,h1.ln,h1.mn,h1.inj,h1.pos,h1.epn,h1.fe,h1.lh,h1.bl,h1.ex.st,fun c o hc=>?_,h1.ex.kv,h1.ex.since,h1.ex.L⟩
 rcases hc with hc|⟨rfl,rfl⟩
 ·exact h1.ex.sys c o hc
 ·exact⟨⟨ho,yk _ _ _⟩,zLg sD (zLg h.base.size hb)⟩
theorem RelX.take{q:Nat->Obj->Prop}{b:Nat}{cs:Array Value}{Y:TypeId}{o0:Obj}{d:Nat}{c:AV}(h:RelX (F.sys q) s a w X)(hq:∀c o,F.x.sys c o->c≠b/\q c o)(hb:q b o0)(hw:F.w0.heap.size<=b)(hO:∀w:World,w.heap[b]?=some o0->Own w b cs Y)
  (hd:a.get d=.pointer (some ⟨b,0,none⟩)) (hc:(c.sem X w).c cs.toList) (hf:c.ze=false) (hdl:∀φ,¬F.Lh d φ):Rel F (s.obj (some d) (.bx true c Y) (.bx s.n 0)) a w:=by
 obtain⟨τ,b9,hτ⟩:=ZN X.ι s.M F.x.st;obtain⟨⟨e1,e2⟩,e3⟩:=h.ex.sys b o0 hb;have gF:=(zLy.1 e1).1
 have eB:∀k,k≠F.x.st->zb k X.O w (tag X.O (some b) τ) w:=fun k hk=>⟨zLb _,fun c hc hO=>⟨by grind [gH],rfl⟩⟩
 have hB:Base F.A F.O0 F.w0 (tag X.O (some b) τ) w:=Base.tag h.base b9.1 (fun g hg=>by cases hg;exact⟨Base.new h.base _ hw,gF⟩)
 let X':Cx:={ X with O:=tag X.O (some b) τ,U:=q7 X.U s.n (.pointer (some ⟨b,0,none⟩)),ι:=q7 X.ι s.n τ,n:=s.n+1 }
 have hU:∀k,k<s.n->X'.U k=X.U k:=fun k hk=>XC _ _ (by omega)
 have hι:∀k,k≠s.n->X'.ι k=X.ι k:=fun k hk=>XC _ _ hk
 have bN:X'.ι s.n=τ:=gW _ _ _;have oY:X'.U s.n=.pointer (some ⟨b,0,none⟩):=gW _ _ _
 have fG:X.le w X' w:=⟨rfl,eB 0 h.ex.st.symm,fun k hk=>hU k (by rw[<-h.n];exact hk),by rw[h.n];grind,rfl⟩
 have mono:∀ {φ:AV} {v:Value},φ.holds X w v->φ.holds X' w v:=fun {φ v} hv=>(φ.mono fG fun _=>Ext.refl _).1 v hv
 have dA:∀k e,look s.M k=some e->k<s.n:=fun k e he=>(h.mn k e he).2
 refine⟨X',h.P,h.A,h.Fn,rfl,h.ep,h.ok0,h.fit,hB,fun t e he hf'=>?_,fun k e he=>?_,fun t e he=>?_,fun k e he=>?_,fun k k' e e' he he' ho ho' fV=>?_,fun k e he ho=>?_,Nat.le_succ_of_le h.epn,Nat.lt_succ_of_lt h.fe,fun t φ hp hf'=>mono (h.lh t φ hp hf'),⟨Nat.le_succ_of_le h.bl.1,fun j b' hj=>(hU j (zLm (zLf.1 hj).1 h.bl.1)).trans (h.bl.2 j b' hj)⟩,?_⟩
 ·rcases zC he with ⟨h1,h2⟩|⟨h1,h2⟩
  ·subst h1 h2
   exact⟨zLl _,b,oY,hd⟩
  ·exact mono (h.l t e h2 hf')
 ·rcases zC he with ⟨h1,h2⟩|⟨h1,h2⟩
  ·subst h1 h2
   refine⟨b,cs,oY,⟨hO w e1,?_,?_⟩,(c.mono fG fun h=>by grind).2.2 _ hc,hf⟩
   ·show X'.F b
    rw[show X'.F=X.F from rfl,h.Fn];exact hw
   grind [yk]
  ·exact MV.le fG (h.mnX k e h2) (hι k (Nat.ne_of_lt (dA k e h2))) rfl rfl _ (fun ho=>eB _ (h.pos k e h2 ho).2) (h.m k e h2)
 ·rcases zC he with ⟨h1,h2⟩|⟨h1,h2⟩
  ·subst h1 h2;exact zLl _
  ·exact Nat.lt_succ_of_lt (h.ln t e h2)
 ·rcases zC he with ⟨h1,h2⟩|⟨h1,h2⟩
  ·subst h1 h2;exact⟨zLl _,zLl _⟩
  ·exact⟨Nat.lt_succ_of_lt (h.mn k e h2).1,Nat.lt_succ_of_lt (h.mn k e h2).2⟩
 ·rcases zC he with ⟨h1,h2⟩|⟨h1,h2⟩<;>rcases zC he' with ⟨h3,h4⟩|⟨h3,h4⟩
  ·omega
  ·grind
  ·grind
  ·rw[hι k (Ne.symm h1),hι k' (Ne.symm h3)]at fV
   exact h.inj k k' e e' h2 h4 ho ho' fV
 ·rcases zC he with ⟨h1,h2⟩|⟨h1,h2⟩
  ·grind
  ·rw[hι k (Ne.symm h1)];exact h.pos k e h2 ho
 ·refine⟨h.ex.st,fun c o hc=>?_,fun v φ hv=>⟨(h.ex.kv v φ hv).1,mono (h.ex.kv v φ hv).2⟩,h.ex.since.trans fG.k,h.ex.L⟩
  obtain⟨g1,g2⟩:=hq c o hc;obtain⟨⟨g3,g4⟩,g5⟩:=h.ex.sys c o g2;exact⟨⟨g3,by rw[show X'.O=tag X.O (some b) τ from rfl,gH (fun e=>g1 (by grind))];exact g4⟩,g5⟩
end
structure It where
 i:Nat
 d:Nat
 n:Nat
 φ:AV
 L:LS
 M:MS
 ep:Nat
def bit(b:Array Nat)(i k:Nat):Bool:=(b.getD i 0).testBit k
def wOf:List Oper->Nat->Nat->Option Nat
 | [],_,_=>none
 |o::os,i,t=>match D6 o.dst [t] with
  |true=>some i
  |false=>wOf os (i+1) t
def ndD:List Oper->Bool
 | []=>true
 |o::os=>(match o.dst with
  |some d=>(wOf os 0 d).isNone
  |none=>true) && ndD os
def W6:List It->Nat->Option It
 | [],_=>none
 |e::l,i=>bif Nat.beq e.i i then some e else W6 l i
def rdX(b:Array Nat)(os:List Oper)(C:List It)(L0:LS)(i t:Nat):Option (Nat×AV):=match wOf os 0 t with
 |none=>look L0 t
 |some j=>match bit b i j with
  |true=>match W6 C j with
   |some e=>some (e.n,e.φ)
   |none=>none
  |false=>match bit b j i with
   |true=>look L0 t
   |false=>none
def tmps:List Operand->List Nat
 | []=>[]
 |.tmp t::l=>t::tmps l
 |_::l=>tmps l
def lof(b:Array Nat)(os:List Oper)(C:List It)(L0:LS)(i:Nat):List Nat->LS
 | []=>[]
 |t::l=>match rdX b os C L0 i t with
  |some e=>(t,e)::lof b os C L0 i l
  |none=>lof b os C L0 i l
def frX(b:Array Nat)(i:Nat):List Nat->Bool
 | []=>true
 |e::l=>(bit b i e || bit b e i) && frX b i l
def UV(kill:List Nat):MS->MS
 | []=>[]
 |p::M=>match vh p.1 kill with
  |true=>UV kill M
  |false=>p::UV kill M
def zHz:LS->Bool
 | []=>false
 |e::l=>e.2.2.ze || zHz l
def mvX(b:Array Nat)(i:Nat)(ch:List Nat)(kill:Nat->List Nat)(s:S)(L:LS):MS×Nat:=match frX b i ch with
 |true=>(s.M,s.ep)
 |false=>(UV (kill i) s.M,match zHz L with
  |true=>s.ep
  |false=>s.n+1000000000)
def UJ(M M':MS):MS->Bool
 | []=>true
 |p::l=>(match look M p.1,look M' p.1 with
  |some e,some e'=>Nat.beq e.1 e'.1
  |_,_=>false) && UJ M M' l
def stays(b:Array Nat)(i:Nat)(s':S):List It->Bool
 | []=>true
 |it::C=>(bit b i it.i || (UJ it.M s'.M it.M && Nat.ble s'.ep it.ep)) && stays b i s' C
def qw(b:Array Nat)(i:Nat):List Nat->Bool
 | []=>true
 |j::l=>bit b j i && qw b i l
def rJ(al:Nat):List Nat->List Nat
 | []=>[]
 |i::l=>match Nat.beq i al with
  |true=>rJ al l
  |false=>i::rJ al l
def alX(b:Array Nat)(os:List Oper)(ch:List Nat):List Nat->Nat
 | []=>os.length
 |i::l=>match os[i]? with
  |some o=>match o.op with
   |.alloc _=>match frX b i (rJ i ch) with
    |true=>alX b os ch l
    |false=>i
   |_=>alX b os ch l
  |none=>alX b os ch l
def Mo(E:VE)(os:List Oper)(ch:List Nat)(al:Nat):Bool:=match os[al]? with
 |none=>true
 |some o=>vh al ch && (match o.op,o.dst with
  |.alloc Y,some _=>(look E.T Y).isSome
  |_,_=>false)
def Hh:List It->LS
 | []=>[]
 |it::C=>(it.d,it.n,it.φ)::Hh C
def gOk(gs:List Nat)(i:Nat)(φ:AV):Bool:=match vh i gs with
 |false=>true
 |true=>match φ.bool? with
  |some x=>x
  |none=>false
def KC{β:Type}(E:VE)(wr:List Nat)(b:Array Nat)(os:List Oper)(ch:List Nat)(al:Nat)(gs:List Nat)(kill:Nat->List Nat)(L0:LS)(k:S->Comp β):List Nat->List It->S->Comp β
 | [],C,s=>k { s with L:=Hh C++L0,n:=s.n+1 }
 |i::rest,C,s=>match vh i rest,os[i]? with
  |false,some o=>match vh i ch with
   |true=>match qw b i (rJ al rest) with
    |true=>step E wr { L:=lof b os C L0 i (tmps o.op.operands.toList),M:=s.M,n:=s.n+1,ep:=s.ep } o fun s'=>match Nat.ble s.ep s'.ep && stays b i s' C with
     |true=>match o.dst with
      |none=>KC E wr b os ch al gs kill L0 k rest C { L:=[],M:=s'.M,n:=s'.n,ep:=s'.ep }
      |some d=>match look s'.L d with
       |some e=>match Nat.ble s.n e.1 with
        |true=>match gOk gs i e.2 with
         |true=>KC E wr b os ch al gs kill L0 k rest (⟨i,d,e.1,e.2,[],[],s.n+1000000000⟩::C) { L:=[],M:=s'.M,n:=s'.n,ep:=s'.ep }
         |false=>Comp.fail
        |false=>Comp.fail
       |none=>Comp.fail
     |false=>Comp.fail
    |false=>Comp.fail
   |false=>match o.dst with
    |none=>Comp.fail
    |some d=>match val E (mvX b i ch kill s (lof b os C L0 i (tmps o.op.operands.toList))).1 (mvX b i ch kill s (lof b os C L0 i (tmps o.op.operands.toList))).2 (lof b os C L0 i (tmps o.op.operands.toList)) [] [] wr (some d) o.op with
     |.no=>Comp.fail
     |.tot φ=>match gOk gs i φ with
      |true=>KC E wr b os ch al gs kill L0 k rest (⟨i,d,s.n,φ,lof b os C L0 i (tmps o.op.operands.toList),(mvX b i ch kill s (lof b os C L0 i (tmps o.op.operands.toList))).1,(mvX b i ch kill s (lof b os C L0 i (tmps o.op.operands.toList))).2⟩::C) s
      |false=>Comp.fail
     |.par t c mk=>c.bind fun x=>match gOk gs i (mk x) with
      |true=>KC E wr b os ch al gs kill L0 k rest (⟨i,d,s.n,mk x,lof b os C L0 i (tmps o.op.operands.toList),(mvX b i ch kill s (lof b os C L0 i (tmps o.op.operands.toList))).1,(mvX b i ch kill s (lof b os C L0 i (tmps o.op.operands.toList))).2⟩::C) s
      |false=>Comp.fail
  |_,_=>Comp.fail
def Ub:List Oper->List Nat
 | []=>[]
 |o::os=>match o.op with
  |.call c=>match c.callee with
   |.builtin .append=>tmps (c.args.toList.take 1)++Ub os
   |_=>Ub os
  |_=>Ub os
def nX(L:LS):List Nat->List Nat
 | []=>[]
 |t::l=>match look L t with
  |some e=>e.2.refs++nX L l
  |none=>nX L l
def gLs:List Oper->List Nat
 | []=>[]
 |o::os=>match o.guard with
  |none=>gLs os
  |some g=>g.1::gLs os
def US(all:List Oper)(al:Nat):List Oper->Bool
 | []=>true
 |o::os=>(match o.guard with
  |none=>true
  |some (g,w)=>w && (!Nat.beq g al && (match all[g]? with
   |some p=>p.dst.isSome
   |none=>false))) && US all al os
def IH(can:List Nat):Nat->Bool
 |0=>true
 |n+1=>vh n can && IH can n
def Ed(M:MS):List Nat->List Nat
 | []=>[]
 |k::l=>match look M k with
  |some (_,.bx _ c _)=>c.refs++Ed M l
  |_=>Ed M l
def S0(L:LS)(M:MS)(Hl:List Nat):List (Nat×List Nat)->Nat->List Nat
 | [],_=>Hl
 |e::l,i=>match Nat.beq e.1 i with
  |true=>nX L e.2++Ed M (nX L e.2)
  |false=>S0 L M Hl l i
def zFD{β:Type}(E:VE)(os:List Oper)(ch can:List Nat)(kl:List (Nat×List Nat))(s:S)(k:S->Comp β):Comp β:=match ndD os && (US os (alX (bitsOf os) os ch ch) os && (IH can os.length && Mo E os ch (alX (bitsOf os) os ch ch))) with
 |true=>KC E (wrS os) (bitsOf os) os ch (alX (bitsOf os) os ch ch) (gLs os) (S0 s.L s.M (nX s.L (wrS os++Ub os)) kl) s.L k can [] { s with L:=[] }
 |false=>Comp.fail
theorem ky{d:Nat}:∀ {l:List Nat},vh d l=true↔d∈l
 | []=>by simp[vh]
 |e::l=>by
  unfold vh
  cases hb:Nat.beq e d with
  |true=>simp_all
  |false =>
   rw[zU]at hb;have fD:¬e=d:=by grind
   simp only[cond_false,ky,zLd];grind
theorem Bl{o:Option Tmp}{t:Nat}:D6 o [t]=true↔o=some t:=by
 cases o with
 |none=>simp[D6]
 |some d =>
  show vh d [t]=true↔_
  grind [ky]
theorem qJ:∀ {os:List Oper} {i t j:Nat},wOf os i t=some j->i<=j/\∃o,os[j-i]?=some o/\o.dst=some t
 | [],_,_,_,h=>by cases h
 |o::os,i,t,j,h=>by
  unfold wOf at h
  cases hb:D6 o.dst [t] with
  |true=>simp_all [zLb,Bl]
  |false =>
   rw[hb]at h;obtain⟨h1,o',h2,h3⟩:=qJ h;grind
theorem qK:∀ {os:List Oper} {i t:Nat},wOf os i t=none->∀(j:Nat) o,os[j]?=some o->o.dst≠some t
 | [],_,_,_,j,o,h=>by simp at h
 |o::os,i,t,h,j,o',ho=>by
  unfold wOf at h
  cases hb:D6 o.dst [t] with
  |true=>grind
  |false =>
   rw[hb]at h
   cases j with
   |zero =>
    grind [List.getElem?_cons_zero,Bl]
   |succ j=>exact qK h j o' (by grind)
theorem uE:∀ {os:List Oper},ndD os=true->∀ {i j:Nat} {o o':Oper} {t:Nat},os[i]?=some o->os[j]?=some o'->o.dst=some t->o'.dst=some t->i=j
 | [],_,i,j,o,o',t,h,_,_,_=>by simp at h
 |x::os,hn,i,j,o,o',t,hi,hj,h1,h2=>by
  simp only[ndD,zLZ]at hn;have key:∀ {j:Nat} {o':Oper},x.dst=some t->os[j]?=some o'->o'.dst=some t->False:=by
   grind [qK,Option.isNone_iff_eq_none]
  cases i with
  |zero =>
   grind
  |succ i =>
   cases j with
   |zero =>
    grind
   |succ j=>exact zLq Nat.succ (uE (os:=os) (i:=i) (j:=j) hn.2 (by grind) (by grind) h1 h2)
theorem pN:∀ {C:List It} {j:Nat} {e:It},W6 C j=some e->e∈C/\e.i=j
 | [],_,_,h=>by cases h
 |x::C,j,e,h=>by
  unfold W6 at h
  cases hb:Nat.beq x.i j with
  |true=>simp_all
  |false =>
   rw[hb]at h;obtain⟨h1,h2⟩:=pN h;grind
theorem Kg{b:Array Nat}{os:List Oper}{C:List It}{L0:LS}{i:Nat}:∀ {l:List Nat} {t:Nat} {e:Nat×AV},look (lof b os C L0 i l) t=some e->rdX b os C L0 i t=some e
 | [],_,_,h=>by cases h
 |u::l,t,e,h=>by
  unfold lof at h;split at h
  ·rename_i e' he
   rcases zC h with ⟨h1,h2⟩|⟨_,h2⟩
   ·grind
   ·exact Kg h2
  ·exact Kg h
theorem wT{kill:List Nat}:∀ {M:MS} {k:Nat} {e:Nat×MV},look (UV kill M) k=some e->vh k kill=false/\look M k=some e
 | [],_,_,h=>by cases h
 |p::M,k,e,h=>by
  unfold UV at h
  cases hb:vh p.1 kill with
  |true =>
   rw[hb]at h;obtain⟨h1,h2⟩:=wT h;grind [look,zU,zMB]
  |false =>
   rw[hb]at h;rcases zC (k:=p.1) (x:=p.2) h with ⟨h1,h2⟩|⟨h1,h2⟩
   ·subst h1
    refine⟨hb,?_⟩;unfold look;simp_all
   ·obtain⟨h3,h4⟩:=wT h2
    grind [look,zU,zMB]
theorem GQ{M M':MS}:∀ {l:MS},UJ M M' l=true->∀ {k:Nat} {e x:Nat×MV},look M k=some e->look l k=some x->∃e',look M' k=some e'/\e'.1=e.1
 | [],_,k,e,x,_,h=>by cases h
 |p::l,h,k,e,x,he,hl=>by
  simp only[UJ,zLZ]at h;rcases zC (k:=p.1) (x:=p.2) hl with ⟨h1,_⟩|⟨_,h2⟩
  ·have h0:=h.1
   rw[h1,he]at h0
   cases hm:look M' k with
   |none=>grind
   |some e'=>simp_all
  ·exact GQ h.2 he h2
theorem BB{b:Array Nat}{i:Nat}{s':S}:∀ {C:List It},stays b i s' C=true->∀it∈C,bit b i it.i=true\/(UJ it.M s'.M it.M=true/\s'.ep<=it.ep)
 | [],_,it,h=>by cases h
 |x::C,h,it,hm=>by
  simp only[stays,zLZ,zLx]at h;rcases zLd.1 hm with rfl|hm
  ·simp_all
  ·exact BB h.2 it hm
theorem qb{al j:Nat}:∀ {l:List Nat},j∈l->j≠al->j∈rJ al l
 |x::l,hm,hj=>by
  unfold rJ;rcases zLd.1 hm with rfl|hm
  ·grind [zU,zMB,List.mem_cons_self]
  ·split
   ·exact qb hm hj
   ·exact zLj _ (qb hm hj)
theorem pM{b:Array Nat}{i:Nat}:∀ {l:List Nat},qw b i l=true->∀j∈l,bit b j i=true
 | [],_,j,h=>by cases h
 |x::l,h,j,hm=>by
  simp only[qw,zLZ]at h;rcases zLd.1 hm with rfl|hm
  ·exact h.1
  ·exact pM h.2 j hm
theorem pE:∀ {C:List It} {t:Nat} {e:Nat×AV},look (Hh C) t=some e->∃it∈C,it.d=t/\(it.n,it.φ)=e
 | [],_,_,h=>by cases h
 |it::C,t,e,h=>by
  rcases zC (k:=it.d) (x:=(it.n,it.φ)) h with ⟨h1,h2⟩|⟨_,h2⟩
  ·grind
  ·obtain⟨it',h3,h4⟩:=pE h2
   grind
theorem pD:∀ {C:List It} {t:Nat},look (Hh C) t=none->∀it∈C,it.d≠t
 | [],_,_,it,h=>by cases h
 |x::C,t,h,it,hm=>by
  unfold Hh look at h;simp only at h
  cases hb:Nat.beq x.d t with
  |true=>grind
  |false =>
   rw[hb]at h;rcases zLd.1 hm with rfl|hm
   ·grind [zU,zMC]
   ·exact pD h it hm
theorem u7{all:List Oper}{al:Nat}:∀ {os:List Oper},US all al os=true->∀o∈os,o.guard=none\/∃g p,o.guard=some (g,true)/\g≠al/\all[g]?=some p/\p.dst.isSome=true
 | [],_,o,h=>by cases h
 |x::os,h,o,hm=>by
  simp only[US,zLZ]at h;rcases zLd.1 hm with rfl|hm
  ·have h1:=h.1
   cases hg:o.guard with
   |none=>grind
   |some z =>
    obtain⟨g,w⟩:=z;rw[hg]at h1;simp only[zLZ,Bool.not_eq_true']at h1;obtain⟨h2,h3,h4⟩:=h1;subst h2
    cases hp:all[g]? with
    |none=>grind
    |some p =>
     rw[hp]at h4;refine .inr ⟨g,p,rfl,fun e=>?_,hp,h4⟩
     simp_all
  ·exact u7 h.2 o hm
theorem u5:∀ {os:List Oper} {o:Oper} {g:Nat} {w:Bool},o∈os->o.guard=some (g,w)->g∈gLs os
 | [],_,_,_,h,_=>by cases h
 |x::os,o,g,w,hm,hg=>by
  unfold gLs;rcases zLd.1 hm with rfl|hm
  ·grind
  ·cases x.guard with
   |none=>exact u5 hm hg
   |some _=>exact zLj _ (u5 hm hg)
theorem E2:∀ {os:List Oper} {g:Nat},g∈gLs os->∃o w,o∈os/\o.guard=some (g,w)
 | [],_,h=>by cases h
 |x::os,g,h=>by
  unfold gLs at h
  cases hg:x.guard with
  |none =>
   rw[hg]at h;obtain⟨o,w,h1,h2⟩:=E2 h;grind
  |some z =>
   rw[hg]at h;rcases zLd.1 h with h|h
   ·grind
   ·obtain⟨o,w,h1,h2⟩:=E2 h
    grind
def phG(gs:List Nat):Nat->List Oper->List SP
 |_,[]=>[]
 |i,_::os=>(bif vh i gs then SP.isv (.bool true) else SP.tt)::phG gs (i+1) os
theorem mX{gs:List Nat}:∀ {os:List Oper} {i j:Nat},j<os.length->(phG gs i os)[j]?=some (bif vh (i+j) gs then SP.isv (.bool true) else SP.tt)
 | [],_,_,h=>by cases h
 |o::os,i,0,_=>rfl
 |o::os,i,j+1,h=>by
  show (phG gs (i+1) os)[j]?=_
  rw[mX (by grind),show i+1+j=i+(j+1) by omega]
theorem CZ{can:List Nat}:∀ {n:Nat},IH can n=true->∀i,i<n->i∈can
 |0,_,i,h=>by omega
 |n+1,h,i,hi=>by
  simp only[IH,zLZ]at h;by_cases e:i=n
  ·grind [ky]
  ·exact CZ h.2 i (by omega)
structure Rdy(P:Program)(os:List Oper)(L0:LS)(C:List It)(s:S)(it:It):Prop where
 sub:∀k e,look it.M k=some e->look s.M k=some e
 ep:s.ep<=it.ep
 op:∀t e,look it.L t=some e->(wOf os 0 t=none/\look L0 t=some e)\/(∃j,wOf os 0 t=some j/\bit (bitsOf os) j it.i=true/\look L0 t=some e)\/(∃jt∈C,jt.i≠it.i/\wOf os 0 t=some jt.i/\bit (bitsOf os) it.i jt.i=true/\(jt.n,jt.φ)=e)
 ok:∃o,os[it.i]?=some o/\o.dst=some it.d/\∀ {X:Cx} {w:World} {a:Act},X.P=P->OkO X.O w->yE it.M X w->X.ep=it.ep->Xt it.L X w a->Ok P o a w (fun w v=>it.φ.holds X w v)
structure JS(F:Frm)(al:Nat)(gs:List Nat)(os:List Oper)(L0:LS)(M0:MS)(n0:Nat)(rest:List Nat)(C:List It)(s:S)(T:Nat->Bool)(a:Act)(w:World)(X:Cx):Prop where
 rel:RelX F s a w X
 sL:s.L=[]
 hn:n0<=s.n
 l0:∀t e,look L0 t=some e->e.1<n0
 im:∀k e,look s.M k=some e->e.1<n0->look M0 k=some e
 c:∀it∈C,T it.i=true->fresh s.ep (it.n,it.φ)=true->it.φ.holds X w (a.get it.d)
 l:∀t e,look L0 t=some e->(∀j o,os[j]?=some o->o.dst=some t->T j=false)->fresh s.ep e=true->e.2.holds X w (a.get t)
 rd:∀it∈C,T it.i=false->Rdy F.P os L0 C s it
 rs:∀i∈rest,T i=false\/i=al
 nc:∀it∈C,it.i ∉ rest
 un:∀it∈C,∀it'∈C,it.i=it'.i->it=it'
 cov:∀i o,os[i]?=some o->i∈rest\/(o.dst=none/\T i=true)\/∃it∈C,it.i=i
 dst:∀it∈C,∃o,os[it.i]?=some o/\o.dst=some it.d
 st:∀it∈C,n0<=it.n/\it.n<=s.n
 gi:∀it∈C,gOk gs it.i it.φ=true
section
variable {F:Frm} {E:VE} {os:List Oper} {L0:LS} {M0:MS} {n0 nf:Nat} {rest:List Nat} {C:List It} {s:S} {T:Nat->Bool} {a:Act} {w:World} {X:Cx} {wr ch gs:List Nat} {al:Nat} {kill:Nat->List Nat} {β:Type} {y:β} {k:S->Comp β}
theorem Rdy.cons{P:Program}{it:It}(h:Rdy P os L0 C s it)(x:It):Rdy P os L0 (x::C) s it :=
 ⟨h.sub,h.ep,fun t e he=>(h.op t e he).imp id (·.imp id fun ⟨jt,h1,h2⟩=>⟨jt,zLj _ h1,h2⟩),h.ok⟩
theorem BQ{b:Array Nat}{i t:Nat}{e:Nat×AV}(h:rdX b os C L0 i t=some e):(wOf os 0 t=none/\look L0 t=some e)\/(∃j,wOf os 0 t=some j/\bit b j i=true/\look L0 t=some e)\/(∃jt∈C,wOf os 0 t=some jt.i/\bit b i jt.i=true/\(jt.n,jt.φ)=e):=by
 unfold rdX at h;split at h
 ·grind
 ·rename_i j hw
  split at h
  ·rename_i hb
   split at h
   ·rename_i e' he
    cases h
    obtain⟨h1,h2⟩:=pN he;grind
   ·cases h
  grind
theorem Vt{b:Array Nat}{i:Nat}{L:LS}:∀k e,look (mvX b i ch kill s L).1 k=some e->look s.M k=some e:=by
 intro k e h;unfold mvX at h;split at h
 ·exact h
 ·exact(wT h).2
theorem zDh{b:Array Nat}{i:Nat}{L:LS}(h:s.ep<=s.n):s.ep<=(mvX b i ch kill s L).2:=by
 unfold mvX;grind
theorem JS.add(hE:E.ok F.P){i:Nat}(h:JS F al gs os L0 M0 n0 (i::rest) C s T a w X)(hn:i ∉ rest)(bE:i≠al){o:Oper}(ho:os[i]?=some o){d:Nat}(hd:o.dst=some d){φ:AV}
  (hv:∀ {X:Cx} {w:World} {a:Act},X.P=F.P->OkO X.O w->yE (mvX (bitsOf os) i ch kill s (lof (bitsOf os) os C L0 i (tmps o.op.operands.toList))).1 X w->X.ep=(mvX (bitsOf os) i ch kill s (lof (bitsOf os) os C L0 i (tmps o.op.operands.toList))).2->Xt (lof (bitsOf os) os C L0 i (tmps o.op.operands.toList)) X w a->Ok F.P o a w (fun w v=>φ.holds X w v)) (sM:gOk gs i φ=true) :
  JS F al gs os L0 M0 n0 rest (⟨i,d,s.n,φ,lof (bitsOf os) os C L0 i (tmps o.op.operands.toList),(mvX (bitsOf os) i ch kill s (lof (bitsOf os) os C L0 i (tmps o.op.operands.toList))).1,(mvX (bitsOf os) i ch kill s (lof (bitsOf os) os C L0 i (tmps o.op.operands.toList))).2⟩::C) s T a w X:=by
 have nS:T i=false:=(h.rs i (by simp)).resolve_right bE
 have hCi:∀it∈C,it.i≠i:=fun it hm e=>h.nc it hm (by grind)
 refine⟨h.rel,h.sL,h.hn,h.l0,h.im,fun it hm ht=>?_,h.l,fun it hm ht=>?_,fun j hj=>h.rs j (zLj _ hj),fun it hm=>?_,fun it hm it' hm' he=>?_,fun j o' hj=>?_,fun it hm=>?_,fun it hm=>?_,fun it hm=>?_⟩
 ·rcases zLd.1 hm with rfl|hm
  ·grind
  ·exact h.c it hm ht
 ·rcases zLd.1 hm with rfl|hm
  ·refine⟨Vt,zDh h.rel.epn,fun t e he=>?_,o,ho,hd,hv⟩
   rcases BQ (Kg he) with h1|h1|⟨jt,h1,h2⟩
   ·grind
   ·grind
   grind
  ·exact(h.rd it hm ht).cons _
 ·rcases zLd.1 hm with rfl|hm
  ·exact hn
  ·exact fun hr=>h.nc it hm (zLj _ hr)
 ·rcases zLd.1 hm with rfl|hm<;>rcases zLd.1 hm' with rfl|hm'
  ·rfl
  ·grind
  ·grind
  ·exact h.un it hm it' hm' he
 ·rcases h.cov j o' hj with h1|h1|⟨it,h1,h2⟩
  ·rcases zLd.1 h1 with rfl|h1
   ·simp_all
   grind
  ·grind
  grind
 ·rcases zLd.1 hm with rfl|hm
  ·grind
  ·exact h.dst it hm
 ·rcases zLd.1 hm with rfl|hm
  ·exact⟨h.hn,zLb _⟩
  ·exact h.st it hm
 ·rcases zLd.1 hm with rfl|hm
  ·exact sM
  ·exact h.gi it hm
theorem JS.zHS(sA:ndD os=true)(h:JS F al gs os L0 M0 n0 rest C s T a w X){i:Nat}(xX:∀k,bit (bitsOf os) k i=true->T k=false)(sH:∀k,bit (bitsOf os) i k=true->yh T i k=true){t:Nat}{e:Nat×AV}
  (hc:(wOf os 0 t=none/\look L0 t=some e)\/(∃j,wOf os 0 t=some j/\bit (bitsOf os) j i=true/\look L0 t=some e)\/(∃jt∈C,jt.i≠i/\wOf os 0 t=some jt.i/\bit (bitsOf os) i jt.i=true/\(jt.n,jt.φ)=e)) (hf:fresh s.ep e=true):e.2.holds X w (a.get t):=by
 rcases hc with ⟨h1,h2⟩|⟨j,h1,h2,h3⟩|⟨jt,h1,h2,h3,h4,h5⟩
 ·exact h.l t e h2 (fun j o hj hd=>zLp hd (qK h1 j o hj)) hf
 ·refine h.l t e h3 (fun j' o hj hd=>?_) hf
  obtain⟨_,o',g1,g2⟩:=qJ h1;grind [uE]
 ·obtain⟨_,o',g1,g2⟩:=qJ h3
  obtain⟨o2,g3,g4⟩:=h.dst jt h1;rw[Nat.sub_zero,g3]at g1;cases g1;rw[g4]at g2;cases g2;have hT:T jt.i=true:=by
   have:=sH _ h4;simp_all [yh,zLx,zLY]
  rw[<-h5]at hf |-;exact h.c jt h1 hT hf
theorem RelX.set(fC:∀t φ,¬F.Lh t φ)(h:RelX F s a w X)(hL:s.L=[]){w':World}(hE:Ext w w')(d:Option Tmp)(v:Value):RelX F s (a.put d v) w' X :=
 h.go (ZS h.fit d v) rfl rfl rfl (fun _ _=>zb.ext hE) (fun _ _=>rfl) h.n h.ep (zLb _) h.epn (h.base.step hE h.ok0) (fun hf=>⟨hf,hE⟩) (fun t φ hp=>zLp hp (fC t φ)) (fun t e he=>by rw[hL]at he;cases he) (fun k e he=>.inr ⟨he,rfl,fun _=>zb.ext hE⟩) h.inj h.pos
theorem lU{T:Nat->Bool}{i j:Nat}(h:yh T i j=true)(fD:j≠i):T j=true:=by
 simp_all [yh,zLx,zLY]
theorem kI(T:Nat->Bool)(i:Nat):yh T i i=true:=by simp[yh,zU]
theorem Xb{T:Nat->Bool}{i j:Nat}(h:yh T i j=false):T j=false/\j≠i:=by
 grind [yh,Bool.or_eq_false_iff,zU]
theorem JS.val(fC:∀t φ,¬F.Lh t φ)(kA:zz F.N os=true)(sA:ndD os=true)(h:JS F al gs os L0 M0 n0 rest C s T a w X){it:It}(hm:it∈C)(hT:T it.i=false)(xX:∀k,bit (bitsOf os) k it.i=true->T k=false)(sH:∀k,bit (bitsOf os) it.i k=true->yh T it.i k=true) :
  ∃o,os[it.i]?=some o/\Ok F.P o a w (fun w' v=>Ext w w'->JS F al gs os L0 M0 n0 rest C s (yh T it.i) (a.put o.dst v) w' X):=by
 obtain⟨r1,r2,r3,o,ho,hd,r4⟩:=h.rd it hm hT;refine⟨o,ho,fun K Q hK=>?_⟩
 let X1:Cx:={ X with ep:=it.ep }
 have to1:∀ {φ:AV} {w:World} {v:Value},φ.holds X w v->φ.holds X1 w v:=fun {φ w v} hv=>(φ.mono (X:=X) (X':=X1) (w:=w) (w':=w) ⟨rfl,zb.refl _ _ _,fun _ _=>rfl,zLb _,rfl⟩ fun _=>Ext.refl _).1 v hv
 have of1:∀ {φ:AV} {w:World} {v:Value},φ.holds X1 w v->φ.holds X w v:=fun {φ w v} hv=>(φ.mono (X:=X1) (X':=X) (w:=w) (w':=w) ⟨rfl,zb.refl _ _ _,fun _ _=>rfl,zLb _,rfl⟩ fun _=>Ext.refl _).1 v hv
 have bL:=h.rel.mnX;have hM1:yE it.M X1 w:=fun k e he=>MV.le (X:=X) (X':=X1) ⟨rfl,zb.refl _ _ _,fun _ _=>rfl,zLb _,rfl⟩ (bL k e (r1 k e he)) rfl rfl rfl _ (fun _=>zb.refl _ _ _) (h.rel.m k e (r1 k e he))
 have oZ:Xt it.L X1 w a:=fun t e he hf=>by
  have hf':fresh s.ep e=true:=by
   unfold fresh at hf |-;rw[zLx]at hf |-;exact hf.imp id fun hb=>by
    rw[jj,zLr]at hb |-;grind
  exact to1 (h.zHS sA xX sH (r3 t e he) hf')
 refine r4 (X:=X1) h.rel.P h.rel.okO hM1 rfl oZ K Q fun v w' fX hv=>?_
 refine hK v w' fX fun _=>?_
 rw[hd];have hv:=of1 hv
 have eS:=((zS kA ho).2.1 it.d hd).1;have iL:∀it'∈C,it'.i≠it.i->it.d≠it'.d:=fun it' hm' fD e=>by
  obtain⟨o',g1,g2⟩:=h.dst it' hm';grind [uE]
 refine⟨h.rel.set fC h.sL fX _ _,h.sL,h.hn,h.l0,h.im,fun it' hm' ht hf=>?_,fun t e he ht hf=>?_,fun it' hm' ht=>h.rd it' hm' (Xb ht).1,fun j hj=>?_,h.nc,h.un,fun j o' hj=>?_,h.dst,h.st,h.gi⟩
 ·by_cases fD:it'.i=it.i
  ·have:=h.un it' hm' it hm fD
   subst this;rw[yZ h.rel.fit eS];exact hv
  ·rw[vk (iL it' hm' fD)]
   exact it'.φ.ext fX (h.c it' hm' (lU ht fD) hf)
 ·have fD:it.d≠t:=fun e=>by
   grind [kI]
  rw[vk fD];exact e.2.ext fX (h.l t e he (fun j o' hj hd'=>(Xb (ht j o' hj hd')).1) hf)
 ·have h1:=h.rs j hj
  have fD:j≠it.i:=fun e=>h.nc it hm (by grind)
  grind [id,yh,zU,zMB]
 ·rcases h.cov j o' hj with h1|⟨h1,h2⟩|h1
  ·grind
  ·grind [yh]
  grind
def UU(ep:Nat)(os:List Oper)(L0:LS)(C:List It)(T:Nat->Bool)(i:Nat):Nat->AV->Prop:=fun t φ=>(∀o,os[i]?=some o->o.dst≠some t) /\
 ((∃it∈C,T it.i=true/\it.d=t/\it.φ=φ/\fresh ep (it.n,it.φ)=true)\/(∃x,look L0 t=some x/\x.2=φ/\fresh ep x=true/\∀j o,os[j]?=some o->o.dst=some t->T j=false))
theorem QF{ep:Nat}{e:Nat×AV}(h:e.2.ze=false):fresh ep e=true:=by simp[fresh,h]
theorem JS.nxt(fC:∀t φ,¬F.Lh t φ)(sA:ndD os=true){q:Nat->Obj->Prop}{i:Nat}(h:JS (F.sys q) al gs os L0 M0 n0 (i::rest) C s T a w X)(hn:i ∉ rest){o:Oper}(ho:os[i]?=some o)(sH:∀k,bit (bitsOf os) i k=true->yh T i k=true)
  {s':S} {a':Act} {w':World} {X':Cx} {Le:LS} (hX:RelX { F with Lh:=UU s.ep os L0 C T i,fe:=s.n } s' a' w' X') (hi:Inv { L:=Le,M:=s.M,n:=s.n+1,ep:=s.ep } s') (hC2:s.ep<=s'.ep) (fZ:stays (bitsOf os) i s' C=true)
  {nw:List It} (h1:∀it∈nw,it.i=i/\o.dst=some it.d/\look s'.L it.d=some (it.n,it.φ)/\s.n<=it.n) (h2:∀it∈nw,∀it'∈nw,it=it') (h3:o.dst=none\/∃it,it∈nw) (h4:∀it∈nw,gOk gs it.i it.φ=true) :
  JS F al gs os L0 M0 n0 rest (nw++C) { L:=[],M:=s'.M,n:=s'.n,ep:=s'.ep } (yh T i) a' w' X':=by
 have fG:s.n+1<=s'.n:=hi.le;have hCi:∀it∈C,it.i≠i:=fun it hm e=>h.nc it hm (by grind)
 have hXF:RelX F { L:=[],M:=s'.M,n:=s'.n,ep:=s'.ep } a' w' X':=⟨hX.P,hX.A,hX.Fn,hX.n,hX.ep,hX.ok0,hX.fit,hX.base,fun t e he=>(nomatch he),hX.m,fun t e he=>(nomatch he),hX.mn,hX.inj,hX.pos,hX.epn,zLm h.rel.fe (by grind),fun t φ hp=>zLp hp (fC t φ),hX.bl,hX.ex⟩
 have xI:∀ {e:Nat×AV},fresh s'.ep e=true->e.1<=s.n->e.2.ze=true->s'.ep<=s.n:=fun {e} hf hl f8=>by
  simp only[fresh,f8,Bool.not_true,Bool.false_or]at hf;rw[jj]at hf;grind
 have bZ:∀ {e:Nat×AV},fresh s'.ep e=true->fresh s.ep e=true:=fun {e} hf=>by
  unfold fresh at hf |-;rw[zLx]at hf |-;exact hf.imp id fun hb=>by
   rw[jj,zLr]at hb |-;omega
 refine⟨hXF,rfl,zLg h.hn (by grind),h.l0,fun k e he gF=>h.im k e (hi.m k e he (by have:=h.hn;grind)) gF,
  fun it hm ht hf=>?_,fun t e he ht hf=>?_,fun it hm ht=>?_,fun j hj=>?_,fun it hm=>?_,fun it hm it' hm' he=>?_,fun j o' hj=>?_,fun it hm=>?_,fun it hm=>?_,fun it hm=>?_⟩
 ·rcases zLi.1 hm with hm|hm
  ·obtain⟨_,_,g1,_⟩:=h1 it hm
   exact hX.l _ _ g1 (by rw[hX.ep];exact hf)
  ·refine hX.lh it.d it.φ ⟨fun o' ho' e=>?_,.inl ⟨it,hm,lU ht (hCi it hm),rfl,rfl,bZ hf⟩⟩ (xI hf (h.st it hm).2)
   obtain⟨o2,g1,g2⟩:=h.dst it hm;grind [uE]
 ·refine hX.lh t e.2 ⟨fun o' ho' e'=>?_,.inr ⟨e,he,rfl,bZ hf,fun j o' hj hd=>(Xb (ht j o' hj hd)).1⟩⟩ (xI hf (by have:=h.l0 t e he;have:=h.hn;omega))
  grind [kI]
 ·rcases zLi.1 hm with hm|hm
  ·grind [kI]
  ·obtain⟨r1,r2,r3,r4⟩:=h.rd it hm (Xb ht).1
   rcases BB fZ it hm with g|⟨g1,g2⟩
   ·grind
   ·refine⟨fun k e he=>?_,g2,fun t e he=>(r3 t e he).imp id (·.imp id fun ⟨jt,q1,q2⟩=>⟨jt,List.mem_append_right _ q1,q2⟩),r4⟩
    obtain⟨e',q1,q2⟩:=GQ g1 he he;have q3:=r1 k e he
    have q4:=(h.rel.mn k e q3).1;have q5:=hi.m k e' q1 (by grind)
    grind
 ·have g1:=h.rs j (zLj _ hj)
  grind [id,yh,zU,zMB]
 ·rcases zLi.1 hm with hm|hm
  ·grind
  ·exact fun hr=>h.nc it hm (zLj _ hr)
 ·rcases zLi.1 hm with hm|hm<;>rcases zLi.1 hm' with hm'|hm'
  ·grind
  ·grind
  ·grind
  ·exact h.un it hm it' hm' he
 ·rcases h.cov j o' hj with g|⟨g1,g2⟩|⟨it,g1,g2⟩
  ·rcases zLd.1 g with rfl|g
   ·grind [kI,List.mem_append_left]
   grind
  ·grind [yh]
  grind
 ·rcases zLi.1 hm with hm|hm
  ·grind
  ·exact h.dst it hm
 ·rcases zLi.1 hm with hm|hm
  ·exact⟨zLg h.hn (h1 it hm).2.2.2,Nat.le_of_lt (hX.ln _ _ (h1 it hm).2.2.1)⟩
  ·have:=h.st it hm;grind
 ·rcases zLi.1 hm with hm|hm
  ·grind
  ·exact h.gi it hm
theorem JS.Mj(h:JS F al gs os L0 M0 n0 rest C s T a w X)(i:Nat):RelX { F with Lh:=UU s.ep os L0 C T i,fe:=s.n } { L:=[],M:=s.M,n:=s.n+1,ep:=s.ep } a w { X with n:=s.n+1 }:=by
 let Xe:Cx:={ X with n:=s.n+1 }
 have toe:∀ {φ:AV} {v:Value},φ.holds X w v->φ.holds Xe w v:=fun {φ v} hv=>(φ.mono (X:=X) (X':=Xe) (w:=w) (w':=w) ⟨rfl,zb.refl _ _ _,fun _ _=>rfl,by rw[h.rel.n];grind,rfl⟩ fun _=>Ext.refl _).1 v hv
 have sM:RelX F { L:=[],M:=s.M,n:=s.n+1,ep:=s.ep } a w Xe :=
  h.rel.go (X':=Xe) h.rel.fit rfl rfl rfl (fun _ _=>zb.refl _ _ _) (fun _ _=>rfl) rfl h.rel.ep (zLk _) (Nat.le_succ_of_le h.rel.epn) h.rel.base (fun hf=>⟨hf,Ext.refl _⟩) (fun _ _ _=>rfl) (fun t e he=>nomatch he) (fun k e he=>.inr ⟨he,rfl,fun _=>zb.refl _ _ _⟩) h.rel.inj h.rel.pos
 refine⟨sM.P,sM.A,sM.Fn,sM.n,sM.ep,sM.ok0,sM.fit,sM.base,sM.l,sM.m,sM.ln,sM.mn,sM.inj,sM.pos,sM.epn,zLl _,fun t φ hp _=>toe ?_,sM.bl,sM.ex⟩
 rcases hp.2 with ⟨it,g1,g2,g3,g4,g5⟩|⟨x,g1,g2,g5,g3⟩
 ·rw[<-g3,<-g4];exact h.c it g1 g2 g5
 ·rw[<-g2];exact h.l t x g1 g3 g5
def Gh(E:VE)(F:Frm)(q:Nat->Obj->Prop)(al:Nat)(os:List Oper)(rest:List Nat)(T:Nat->Bool)(a:Act):Prop :=
 (q=F.x.sys/\(al∈rest->T al=false))\/(al∈rest/\T al=true/\(∀k,bit (bitsOf os) al k=true->T k=true)/\∃b Y d i o0 o,os[al]?=some o/\o.op=.alloc Y/\o.dst=some d/\look E.T Y=some i/\a.get d=.pointer (some ⟨b,0,none⟩) /\
  (∀c o,F.x.sys c o->c≠b/\q c o)/\q b o0/\F.w0.heap.size<=b/\∀w:World,w.heap[b]?=some o0->Own w b i.z.cells Y)
theorem Gh.no{q:Nat->Obj->Prop}(h:Gh E F q al os rest T a)(hT:al∈rest->T al=false):q=F.x.sys:=by
 rcases h with h|⟨h1,h2,_⟩
 ·exact h.1
 grind
theorem Gh.tail{q:Nat->Obj->Prop}{i:Nat}(h:Gh E F q al os (i::rest) T a)(hi:i≠al):Gh E F q al os rest T a :=
 h.imp (fun h=>⟨h.1,fun hm=>h.2 (zLj _ hm)⟩) fun h=>⟨(zLd.1 h.1).resolve_left (Ne.symm hi),h.2⟩
theorem Gh.step{q:Nat->Obj->Prop}(sA:ndD os=true)(h:Gh E F q al os rest T a){i:Nat}{o:Oper}(ho:os[i]?=some o)(hi:al∈rest->i≠al)(v:Value):Gh E F q al os rest (yh T i) (a.put o.dst v):=by
 rcases h with ⟨h1,h2⟩|⟨h1,h2,h3,b,Y,d,j,o0,o',h4,h5,h6,h7,h8,h9⟩
 ·refine .inl ⟨h1,fun hm=>?_⟩
  simp_all [yh,zU,zMB,Ne.symm]
 ·refine .inr ⟨h1,by grind [yh],fun k hk=>by grind [yh],b,Y,d,j,o0,o',h4,h5,h6,h7,?_,h9⟩
  grind [jO,uE]
theorem DG{o:Oper}{Y:TypeId}{i:TI}(aC:o.op=.alloc Y)(hi:look E.T Y=some i){k:S->Comp β}:step E wr s o k=k (s.obj o.dst (.bx true (q9 i) Y) (.bx s.n 0)):=by
 grind [step,UN,Ht,ud]
theorem Wl(h:T al=true):yh T al=T:=by
 funext j
 simp_all [yh,zU,zMB,Bool.or_false]
theorem JS.adv(fC:∀t φ,¬F.Lh t φ)(hE:E.ok F.P)(sA:ndD os=true)(sW:Mo E os ch al=true):∀ {rest:List Nat} {C:List It} {s:S} {X:Cx} {q:Nat->Obj->Prop},JS (F.sys q) al gs os L0 M0 n0 rest C s T a w X->Gh E F q al os rest T a->(KC E wr (bitsOf os) os ch al gs kill L0 k rest C s).run nf=some y ->
  ∃rest' C' s' X' q',JS (F.sys q') al gs os L0 M0 n0 rest' C' s' T a w X'/\Gh E F q' al os rest' T a/\(KC E wr (bitsOf os) os ch al gs kill L0 k rest' C' s').run nf=some y/\(∀i l,rest'=i::l->vh i ch=true/\T i=false)
 | [],C,s,X,q,h,hg,hr=>⟨[],C,s,X,q,h,hg,hr,fun _ _ e=>nomatch e⟩
 |i::rest,C,s,X,q,h,hg,hr=>by
  cases hc:vh i ch with
  |true =>
   cases hT:T i with
   |false=>grind
   |true =>
    obtain rfl:al=i:=((h.rs i (by simp)).resolve_left fun e=>by grind).symm
    rcases hg with hg|⟨_,_,g3,b,Y,d,j,o0,o',g4,g5,g6,g7,g8,g9,g10,g11,g12⟩
    ·grind
    simp only[KC]at hr;split at hr
    ·rename_i o hn ho
     rw[g4]at ho;cases ho;have hn':al ∉ rest:=fun hm=>by grind [ky]
     rw[hc]at hr;simp only at hr;split at hr
     ·rw[DG g5 g7]at hr
      have hlof:lof (bitsOf os) os C L0 al (tmps o'.op.operands.toList)=[]:=by rw[g5];rfl
      rw[hlof,g6]at hr;obtain⟨X',hX'⟩:=RelX.take (F:={ F with Lh:=UU s.ep os L0 C T al,fe:=s.n }) (d:=d) (h.Mj al) g9 g10 g11 g12 g8 GG GF fun φ hp=>hp.1 _ g4 g6
      have hi':=Inv.obj { L:=[],M:=s.M,n:=s.n+1,ep:=s.ep } (some d) (.bx true (q9 j) Y) (.bx (s.n+1) 0);have xW:=Wl hT
      have sH:∀k,bit (bitsOf os) al k=true->yh T al k=true:=fun k hk=>by simp_all
      split at hr
      ·rename_i fZ
       rw[zLZ]at fZ;obtain⟨eC,fZ⟩:=fZ;have eC:=Nat.le_of_ble_eq_true eC
       simp only at hr;split at hr
       ·rename_i e he
        split at hr
        ·rename_i hb
         split at hr
         rotate_left
         ·cases hr
         rename_i sM;have h2:=h.nxt (nw:=[⟨al,d,e.1,e.2,[],[],s.n+1000000000⟩]) fC sA hn' g4 sH hX' hi' eC fZ (fun it hm=>by
          simp_all) (fun it hm it' hm'=>by grind) (.inr ⟨_,List.Mem.head _⟩) (fun it hm=>by grind)
         rw[xW]at h2;have h3:JS (F.sys F.x.sys) al gs os L0 M0 n0 rest _ _ T a w X':=h2
         exact JS.adv fC hE sA sW h3 (.inl ⟨rfl,fun hm=>zLp hm hn'⟩) hr
        ·cases hr
       ·cases hr
      ·cases hr
     ·cases hr
    ·cases hr
  |false =>
   simp only[KC]at hr;split at hr
   ·rename_i o hn ho
    have hn':i ∉ rest:=fun hm=>by grind [ky]
    have bE:i≠al:=fun e=>by
     simp_all [Mo,zLZ]
    rw[hc]at hr;simp only at hr;split at hr
    ·cases hr
    ·rename_i d hd
     split at hr
     ·cases hr
     ·rename_i φ hv
      split at hr
      rotate_left
      ·cases hr
      rename_i sM;refine JS.adv fC hE sA sW (JS.add (F:=F.sys q) (ch:=ch) (kill:=kill) hE h hn' bE ho hd (fun {X w a} hP hO hM xI hL=>?_) sM) (hg.tail bE) hr
      have:=KJ (X:=X) (R:=[]) (g:=[]) (wr:=wr) (L:=lof (bitsOf os) os C L0 i (tmps o.op.operands.toList)) (by rw[hP];exact hE) trivial hO hM o (fun t _=>fun e he hf=>hL t e he hf) trivial
      rw[xI,hd,hv]at this;rw[<-hP];exact this
     ·rename_i t c mk hv
      obtain⟨x,hx,hr⟩:=run_bind hr;split at hr
      rotate_left
      ·cases hr
      rename_i sM;refine JS.adv fC hE sA sW (JS.add (F:=F.sys q) (ch:=ch) (kill:=kill) hE h hn' bE ho hd (fun {X w a} hP hO hM xI hL=>?_) sM) (hg.tail bE) hr
      have:=KJ (X:=X) (R:=[]) (g:=[]) (wr:=wr) (L:=lof (bitsOf os) os C L0 i (tmps o.op.operands.toList)) (by rw[hP];exact hE) trivial hO hM o (fun t _=>fun e he hf=>hL t e he hf) trivial
      rw[xI,hd,hv]at this;rw[<-hP];exact this nf x hx
   ·cases hr
theorem JS.early(fC:∀t φ,¬F.Lh t φ)(hE:E.ok F.P)(sD:F.x.sb<=F.w0.heap.size)(kA:zz F.N os=true)(sA:ndD os=true)(sW:Mo E os ch al=true)(h:JS F al gs os L0 M0 n0 rest C s T a w X)(hm:al∈rest)(hT:T al=false){o:Oper}(ho:os[al]?=some o)(sH:∀k,bit (bitsOf os) al k=true->yh T al k=true) :
  ∀(K:Act->World->Prop) (Q:Exit->Act->World->Prop),(∀v w',(∃q X',JS (F.sys q) al gs os L0 M0 n0 rest C s (yh T al) (a.put o.dst v) w' X'/\Gh E F q al os rest (yh T al) (a.put o.dst v))->K (a.put o.dst v) w')->o.wp F.P a w K Q:=by
 intro K Q hK;unfold Mo at sW;rw[ho]at sW;simp only[zLZ]at sW;obtain⟨_,sW⟩:=sW;split at sW
 ·rename_i Y d aC hd
  obtain⟨i,hi⟩:=Option.isSome_iff_exists.1 sW;obtain⟨d',op,T0,pos,aft,g⟩:=o;simp only at aC hd;subst aC hd;refine Bg (zLb _) (hE.T Y i hi).ty K Q fun v w' fX hv=>hK v w' ?_
  obtain⟨b,tC,aF,fr,hb3,hb4⟩:=hv;have hg:=h.rel.ghost fC h.sL fX sD (d:=some d) (v:=v) tC hb3
  have eS:=((zS kA ho).2.1 d rfl).1;have hk:KX none X.O w (tag X.O (some b) F.x.st) w':=KX.tag fX fun g hg=>by grind
  have fG:X.le w { X with O:=tag X.O (some b) F.x.st } w':=⟨rfl,hk.keep (by simp),fun _ _=>rfl,zLb _,rfl⟩
  have mono:∀ {φ:AV} {v:Value},φ.holds X w v->φ.holds { X with O:=tag X.O (some b) F.x.st } w' v:=fun {φ v} hv=>(φ.mono fG fun _=>fX).1 v hv
  refine⟨_,_,⟨hg,h.sL,h.hn,h.l0,h.im,fun it hi' ht hf=>?_,fun t e he ht hf=>?_,fun it hi' ht=>h.rd it hi' (Xb ht).1,fun j hj=>?_,h.nc,h.un,fun j o' hj=>?_,h.dst,h.st,h.gi⟩,.inr ⟨hm,kI _ _,sH,b,Y,d,i,_,_,ho,rfl,rfl,hi,?_,fun c o hc=>⟨fun e=>?_,.inl hc⟩,.inr ⟨rfl,rfl⟩,zLg h.rel.base.size tC,fun w hw=>⟨fr,hw,hb4⟩⟩⟩
  ·have fD:it.i≠al:=fun e=>h.nc it hi' (by grind)
   obtain⟨o',g1,g2⟩:=h.dst it hi';rw[vk (fun e=>fD (uE sA g1 ho g2 (by rw[e])))]
   exact mono (h.c it hi' (lU ht fD) hf)
  ·have fD:d≠t:=fun e=>by
    grind [kI]
   rw[vk fD];exact mono (h.l t e he (fun j o' hj hd'=>(Xb (ht j o' hj hd')).1) hf)
  ·by_cases e:j=al
   ·omega
   ·refine .inl ?_
    have:=(h.rs j hj).resolve_right e;grind [yh,zU,zMB]
  ·rcases h.cov j o' hj with h1|⟨h1,h2⟩|h1
   ·grind
   ·grind [yh]
   grind
  ·rw[yZ h.rel.fit eS];exact aF
  ·have:=(zLy.1 (h.rel.ex.sys c o hc).1.1).1
   omega
 grind
theorem JS.eff(fC:∀t φ,¬F.Lh t φ)(hE:E.ok F.P)(kA:zz F.N os=true)(sA:ndD os=true)(sW:Mo E os ch al=true){q:Nat->Obj->Prop}{i:Nat}(h:JS (F.sys q) al gs os L0 M0 n0 (i::rest) C s T a w X)(cB:Gh E F q al os (i::rest) T a)(nS:T i=false)(eD:vh i ch=true)(hr:(KC E wr (bitsOf os) os ch al gs kill L0 k (i::rest) C s).run nf=some y)
  (xX:∀k,bit (bitsOf os) k i=true->T k=false) (sH:∀k,bit (bitsOf os) i k=true->yh T i k=true) :
  ∃o,os[i]?=some o/\∀(K:Act->World->Prop) (Q:Exit->Act->World->Prop),(∀v w',(∃rest' C' s' X' q',JS (F.sys q') al gs os L0 M0 n0 rest' C' s' (yh T i) (a.put o.dst v) w' X'/\Gh E F q' al os rest' (yh T i) (a.put o.dst v)/\(KC E wr (bitsOf os) os ch al gs kill L0 k rest' C' s').run nf=some y/\(∀j l,rest'=j::l->vh j ch=true/\yh T i j=false))->K (a.put o.dst v) w')->o.wp F.P a w K Q:=by
 simp only[KC]at hr;split at hr
 ·rename_i o hn ho
  have hn':i ∉ rest:=fun hm=>by grind [ky]
  rw[eD]at hr;simp only at hr;split at hr
  ·refine⟨o,ho,fun K Q hK=>?_⟩
   have hCi:∀it∈C,it.i≠i:=fun it hm e=>h.nc it hm (by grind)
   let Xe:Cx:={ X with n:=s.n+1 }
   have toe:∀ {φ:AV} {v:Value},φ.holds X w v->φ.holds Xe w v:=fun {φ v} hv=>(φ.mono (X:=X) (X':=Xe) (w:=w) (w':=w) ⟨rfl,zb.refl _ _ _,fun _ _=>rfl,by rw[h.rel.n];grind,rfl⟩ fun _=>Ext.refl _).1 v hv
   have xY:∀t e,look (lof (bitsOf os) os C L0 i (tmps o.op.operands.toList)) t=some e->(wOf os 0 t=none/\look L0 t=some e)\/(∃j,wOf os 0 t=some j/\bit (bitsOf os) j i=true/\look L0 t=some e)\/(∃jt∈C,jt.i≠i/\wOf os 0 t=some jt.i/\bit (bitsOf os) i jt.i=true/\(jt.n,jt.φ)=e):=fun t e he=>by
    rcases BQ (Kg he) with g|g|⟨jt,g1,g2⟩
    ·grind
    ·grind
    grind
   have h0:=h.Mj i;have Mj:RelX { F.sys q with Lh:=UU s.ep os L0 C T i,fe:=s.n } { L:=lof (bitsOf os) os C L0 i (tmps o.op.operands.toList),M:=s.M,n:=s.n+1,ep:=s.ep } a w Xe:=by
    refine⟨h0.P,h0.A,h0.Fn,h0.n,h0.ep,h0.ok0,h0.fit,h0.base,fun t e he hf=>toe (h.zHS sA xX sH (xY t e he) (by rw[<-h0.ep];exact hf)),h0.m,fun t e he=>?_,h0.mn,h0.inj,h0.pos,h0.epn,h0.fe,h0.lh,h0.bl,h0.ex⟩
    rcases xY t e he with ⟨_,g⟩|⟨_,_,_,g⟩|⟨jt,g1,_,_,_,g⟩
    ·have:=h.l0 t e g;have:=h.hn;grind
    ·have:=h.l0 t e g;have:=h.hn;grind
    ·rw[<-g];have:=(h.st jt g1).2;grind
   have o4:∀v,Gh E F q al os rest (yh T i) (a.put o.dst v):=fun v=>by
    by_cases bE:i=al
    ·subst bE
     exact .inl ⟨cB.no fun _=>nS,fun hm=>zLp hm hn'⟩
    ·exact(cB.tail bE).step sA ho (fun _=>bE) v
   refine Ku (F:={ F.sys q with Lh:=UU s.ep os L0 C T i,fe:=s.n }) hE ⟨_,Mj⟩ wr o (fun t ht=>⟨((zS kA ho).2.1 t ht).1,fun φ hp=>hp.1 o ho ht⟩) nf y hr K Q fun s' v w' hR' hi' hr'=>hK v w' ?_
   obtain⟨X',hX'⟩:=hR';split at hr'
   ·rename_i fZ
    rw[zLZ]at fZ;obtain⟨eC,fZ⟩:=fZ;have eC:=Nat.le_of_ble_eq_true eC
    split at hr'
    ·rename_i hd
     obtain⟨rest',C',s2,X2,q',g⟩:=JS.adv fC hE sA sW (JS.nxt (F:=F.sys q) (q:=q) (nw:=[]) fC sA h hn' ho sH hX' hi' eC fZ (fun _ hm=>nomatch hm) (fun _ hm=>nomatch hm) (.inl hd) (fun _ hm=>nomatch hm)) (o4 v) hr'
     grind
    ·rename_i d hd
     split at hr'
     ·rename_i e he
      split at hr'
      ·rename_i hb
       split at hr'
       rotate_left
       ·cases hr'
       rename_i sM;obtain⟨rest',C',s2,X2,q',g⟩:=JS.adv fC hE sA sW (JS.nxt (F:=F.sys q) (q:=q) (nw:=[⟨i,d,e.1,e.2,[],[],s.n+1000000000⟩]) fC sA h hn' ho sH hX' hi' eC fZ (fun it hm=>by
        obtain rfl:=List.mem_singleton.1 hm;exact⟨rfl,hd,he,Nat.le_of_ble_eq_true hb⟩) (fun it hm it' hm'=>by grind) (.inr ⟨_,List.Mem.head _⟩) (fun it hm=>by grind)) (o4 v) hr'
       grind
      ·cases hr'
     ·cases hr'
   ·cases hr'
  ·cases hr
 ·cases hr
theorem D1{b:Array Nat}{i:Nat}(eD:vh i ch=true)(hr:(KC E wr b os ch al gs kill L0 k (i::rest) C s).run nf=some y):qw b i (rJ al rest)=true:=by
 simp only[KC]at hr;split at hr
 ·rw[eD]at hr
  simp only at hr;split at hr
  ·omega
  ·cases hr
 ·cases hr
theorem pg{gs:List Nat}:∀(os:List Oper) (i:Nat),AllSt rM (phG gs i os)
 | [],_=>.nil
 |_::os,i=>.cons (by grind [vh,zBQ,GT]) (pg os (i+1))
theorem Hc{F:Frm}{os:List Oper}{al:Nat}(kA:zz F.N os=true)(hg:US os al os=true):∀(n i:Nat) (o:Oper),i<n->os[i]?=some o->Eng.act os ((phG (gLs os) 0 os).map SP.vD) i=true
 |0,_,_,h,_=>by omega
 |n+1,i,o,h,ho=>by
  rcases u7 hg o (zLe ho) with h1|⟨g,p,h1,_,h3,_⟩
  ·exact Ks ho h1
  ·have gF:=Zt kA i o g true ho h1
   have hl:=(zLf.1 h3).1;have hm:vh (0+g) (gLs os)=true:=by rw[Nat.zero_add];exact ky.2 (u5 (zLe ho) h1)
   have e1:=mX (gs:=gLs os) (os:=os) (i:=0) (j:=g) hl;rw[hm]at e1;rw[Kr (Zt kA) ho h1,Hc kA hg n g p (by omega) h3,zLs,List.getElem?_map,e1]
   rfl
theorem zDv{gs:List Nat}{i:Nat}{φ:AV}(h:gOk gs i φ=true)(hm:vh i gs=true):φ=.rd .bool true:=by
 grind [gOk,AV.Zg]
theorem JS.guard(kA:zz F.N os=true)(sA:ndD os=true){i:Nat}{o:Oper}(ho:os[i]?=some o){v:Value}{a:Act}(h:JS F al gs os L0 M0 n0 rest C s (yh T i) (a.put o.dst v) w X)(hA:a.fitD F.N F.D)(hi:i≠al)(hm:vh i gs=true)(hd:o.dst.isSome=true):v=.bool true:=by
 obtain⟨d,hd⟩:=Option.isSome_iff_exists.1 hd;rcases h.cov i o ho with g|⟨g,_⟩|⟨it,g1,g2⟩
 ·rcases h.rs i g with g|g
  ·grind [kI]
  omega
 ·grind
 ·obtain⟨o',g3,g4⟩:=h.dst it g1
  rw[g2,ho]at g3;cases g3;rw[hd]at g4;cases g4;have e:=zDv (h.gi it g1) (by grind)
  have hf:it.φ.ze=false:=by rw[e];rfl
  have hc:=h.c it g1 (by grind [kI]) (QF (e:=(it.n,it.φ)) hf)
  rw[hd,e,yZ hA ((zS kA ho).2.1 it.d hd).1]at hc;exact kO.1 hc
end
theorem WB{F:Frm}(fC:∀t φ,¬F.Lh t φ){E:VE}(hE:E.ok F.P){s0 s:S}{a:Act}{w:World}(hR:Rel F s a w)(hi:Inv s0 s){os:List Oper}{id nf:Nat}{draw:Bool}{ch can:List Nat}{kl:List (Nat×List Nat)}{β:Type}{y:β}{k:S->Comp β}{Q:Exit->Act->World->Prop}(hm:F.P.follows .mixedOrders=true)(sD:F.x.sb<=F.w0.heap.size)
  (kA:Xq F.N os=true) (h:(zFD E os ch can kl s k).run nf=some y) (hK:∀s' a' w',Rel F s' a' w'->Inv s0 s'->(k s').run nf=some y->Q .normal a' w'):F.wp (Code.region id os.toArray draw) Q a w:=by
 have hokI:=kA;replace kA:=Xw kA;unfold zFD at h;split at h
 ·rename_i hb
  simp only[zLZ]at hb;obtain⟨sA,hng,fH,sW⟩:=hb;generalize hale:alX (bitsOf os) os ch ch=al at h sW hng;generalize o5:gLs os=gs at h;obtain⟨X,hX⟩:=hR
  let J:(Nat->Bool)->Act->World->Prop:=fun T a w=>∃rest C s' X' q,JS (F.sys q) al gs os s.L s.M s.n rest C s' T a w X'/\Gh E F q al os rest T a/\(KC E (wrS os) (bitsOf os) os ch al gs (S0 s.L s.M (nX s.L (wrS os++Ub os)) kl) s.L k rest C s').run nf=some y/\(∀i l,rest=i::l->vh i ch=true/\T i=false)
  have fin:∀ {i:Nat} {o:Oper} {T:Nat->Bool} {a':Act} {v:Value} {w':World},os[i]?=some o->a'.fitD F.N F.D->J (yh T i) (a'.put o.dst v) w'->(bif vh i gs then SP.isv (.bool true) else SP.tt).holds w' v:=fun {i o T a' v w'} ho fL hJ=>by
   cases hm:vh i gs with
   |false=>trivial
   |true =>
    obtain⟨rest,C,s',X',q,g1,_⟩:=hJ;obtain⟨o2,w2,g2,g3⟩:=E2 (os:=os) (g:=i) (by grind [ky])
    rcases u7 hng o2 g2 with g4|⟨g,p,g4,g5,g6,g7⟩
    ·grind
    ·rw[g4]at g3;cases g3
     rw[ho]at g6;cases g6;exact JS.guard (F:=F.sys q) kA sA ho g1 fL g5 hm g7
  have obl:∀(os':List Oper) (i:Nat),(∀j,os'[j]?=os[i+j]?)->OblsX J F.P F.N F.D os (phG gs 0 os) a i os' (phG gs i os'):=by
   intro os'
   induction os' with
   |nil=>exact fun _ _=>.nil
   |cons o os' ih =>
    intro i xC;have ho:os[i]?=some o:=by have:=xC 0;grind
    refine .cons (fun T a' w' fL hJ nS xX sH _ _ K Q sZ=>?_) (ih (i+1) fun j=>by have:=xC (j+1);grind)
    obtain⟨rest,C,s',X',q,sU,cB,fI,bO⟩:=hJ;rcases sU.cov i o ho with hr|⟨_,h2⟩|⟨it,hm',rfl⟩
    ·match rest,hr,sU,cB,fI,bO with
     |e::l,hr,sU,cB,fI,bO =>
      obtain⟨eD,nK⟩:=bO e l rfl;rcases zLd.1 hr with rfl|hr'
      ·obtain⟨o',g1,g2⟩:=sU.eff fC hE kA sA sW cB nK eD fI xX sH
       rw[ho]at g1;cases g1;exact g2 K Q fun v w' hJ'=>sZ v w' hJ' (fin ho fL hJ')
      ·by_cases bE:i=al
       ·subst bE
        obtain rfl:=cB.no fun _=>nS
        refine JS.early fC hE sD kA sA sW sU hr nS ho sH K Q fun v w' hJ'=>?_
        suffices hj:J (yh T i) (a'.put o.dst v) w' from sZ v w' hj (fin ho fL hj)
        obtain⟨q,X2,g1,g2⟩:=hJ';refine⟨_,C,s',X2,q,g1,g2,fI,fun j l' he=>?_⟩
        cases he
        refine⟨eD,?_⟩;have fD:e≠i:=fun e'=>by
         subst e';simp only[KC]at fI;split at fI
         ·grind [ky]
         ·cases fI
        grind [yh,zU,zMB]
       ·have g1:=pM (D1 eD fI) i (qb hr' bE)
        have g2:=sH e g1;have g4:e=i:=by
         unfold yh at g2;simp_all
        subst g4;obtain⟨o',g1,g2⟩:=sU.eff fC hE kA sA sW cB nK eD fI xX sH;rw[ho]at g1;cases g1;exact g2 K Q fun v w' hJ'=>sZ v w' hJ' (fin ho fL hJ')
    ·grind
    ·obtain⟨o',g1,g2⟩:=JS.val (F:=F.sys q) fC kA sA sU hm' nS xX sH
     rw[ho]at g1;cases g1;refine g2 K Q fun v w' fX hJ'=>?_
     suffices hj:J (yh T it.i) (a'.put o.dst v) w' from sZ v w' hj (fin ho fL hj)
     refine⟨rest,C,s',X',q,hJ' fX,cB.step sA ho (fun hm2 e=>sU.nc it hm' (by grind)) v,fI,fun j l he=>⟨(bO j l he).1,?_⟩⟩
     have fD:j≠it.i:=fun e=>sU.nc it hm' (by grind)
     grind [yh,zU,zMB]
  refine Jr (fun _=>hm) (zBY Kj (fun i o ho=>Bh hokI i o (by grind)) ?_)
  refine Nb J (phG gs 0 os) hX.fit (pg os 0) (obl os 0 fun j=>by simp) (fun i o S a' w' ho fP=>?_) (fun w1 fX=>?_) kA ?_ fun a' w' fL _ hJ=>?_
  ·rw[<-o5,Hc (F:=F) kA hng (i+1) i o (zLl i) ho]at fP;grind
  ·have hX0:RelX F { s with L:=[] } a w1 X:=hX.go hX.fit rfl rfl rfl (fun _ _=>zb.ext fX) (fun _ _=>rfl) hX.n hX.ep (zLb _) hX.epn (hX.base.step fX hX.ok0) (fun hf=>⟨hf,fX⟩) (fun _ _ _=>rfl) (fun t e he=>nomatch he) (fun k e he=>.inr ⟨he,rfl,fun _=>zb.ext fX⟩) hX.inj hX.pos
   have h0:JS (F.sys F.x.sys) al gs os s.L s.M s.n can [] { s with L:=[] } (fun _=>false) a w1 X:=by
    refine⟨hX0,rfl,zLb _,hX.ln,fun k e he _=>he,fun it hm=>(nomatch hm),fun t e he _ hf=>?_,fun it hm=>(nomatch hm),fun _ _=>.inl rfl,fun it hm=>(nomatch hm),fun it hm=>(nomatch hm),fun i o ho=>.inl (CZ fH i (zLf.1 ho).1),fun it hm=>(nomatch hm),fun it hm=>(nomatch hm),fun it hm=>(nomatch hm)⟩
    exact e.2.ext fX (hX.l t e he (by rw[hX.ep];exact hf))
   exact JS.adv fC hE sA sW h0 (.inl ⟨rfl,fun _=>rfl⟩) h
  ·unfold ZM
   rw[zME];intro o ho;rcases u7 hng o ho with h1|⟨g,p,h1,_,h3,_⟩
   ·rw[h1]
   ·have hl:=(zLf.1 h3).1
    have hm:vh (0+g) gs=true:=by rw[Nat.zero_add,<-o5];grind [ky,u5]
    have e1:=mX (gs:=gs) (os:=os) (i:=0) (j:=g) hl;rw[hm]at e1;rw[h1];simp only;rw[zLs,e1];rfl
  ·obtain⟨rest,C,s',X',q,sU,cB,fI,bO⟩:=hJ
   cases rest with
   |cons i l =>
    exfalso;have g1:Nat.blt i os.length=false:=(bO i l rfl).2
    rw[za]at g1;have g2:os.length<=i:=by grind
    simp only[KC]at fI;split at fI
    ·grind
    ·cases fI
   |nil =>
    obtain rfl:=cB.no fun hm=>nomatch hm
    have gF:∀it∈C,Nat.blt it.i os.length=true:=fun it hm=>by
     obtain⟨o,g1,_⟩:=sU.dst it hm;grind [za,zMC,zLf]
    have xO:∀t e,look (Hh C++s.L) t=some e->(∃it∈C,it.d=t/\(it.n,it.φ)=e)\/(look s.L t=some e/\∀(j:Nat) (o:Oper),os[j]?=some o->o.dst≠some t):=fun t e he=>by
     rcases Z4 he with g|⟨g1,g2⟩
     ·grind [pE]
     ·refine .inr ⟨g2,fun j o hj hd=>?_⟩
      rcases sU.cov j o hj with g|⟨g,_⟩|⟨it,g3,g4⟩
      ·cases g
      ·grind
      ·obtain⟨o',g5,g6⟩:=sU.dst it g3
       rw[g4,hj]at g5;cases g5;rw[hd]at g6;cases g6;exact pD g1 it g3 rfl
    let X1:Cx:={ X' with n:=s'.n+1 }
    have to1:∀ {φ:AV} {v:Value},φ.holds X' w' v->φ.holds X1 w' v:=fun {φ v} hv=>(φ.mono (X:=X') (X':=X1) (w:=w') (w':=w') ⟨rfl,zb.refl _ _ _,fun _ _=>rfl,by rw[sU.rel.n];grind,rfl⟩ fun _=>Ext.refl _).1 v hv
    refine hK _ a' w' ⟨X1,sU.rel.go (X':=X1) (s':={ s' with L:=Hh C++s.L,n:=s'.n+1 }) sU.rel.fit rfl rfl rfl (fun _ _=>zb.refl _ _ _) (fun _ _=>rfl) rfl sU.rel.ep (zLk _) (Nat.le_succ_of_le sU.rel.epn) sU.rel.base (fun hf=>⟨hf,Ext.refl _⟩) (fun _ _ _=>rfl) (fun t e he=>.inl ?_) (fun k e he=>.inr ⟨he,rfl,fun _=>zb.refl _ _ _⟩) sU.rel.inj sU.rel.pos⟩ (hi.trans ⟨?_,fun t e he hlt'=>?_,sU.im⟩) fI
    ·rcases xO t e he with ⟨it,g1,g2,g3⟩|⟨g1,g2⟩
     ·subst g3
      refine⟨Nat.lt_succ_of_le (sU.st it g1).2,fun hf=>?_⟩
      rw[<-g2];exact to1 (sU.c it g1 (gF it g1) hf)
     ·refine⟨?_,fun hf=>to1 (sU.l t e g1 (fun j o hj hd=>zLp hd (g2 j o hj)) hf)⟩
      have:=sU.l0 t e g1;have:=sU.hn;grind
    ·exact Nat.le_succ_of_le sU.hn
    ·rcases xO t e he with ⟨it,g1,g2,g3⟩|⟨g1,g2⟩
     ·rw[<-g3]at hlt'
      have:=(sU.st it g1).1;omega
     ·exact g1
 ·cases h
def exG:AV->Option (Option Bool)
 |.ex (.bool b)=>some (some b)
 |.ex (.tuple vs)=>match vs.toList with
  | []=>some none
  |_=>none
 |_=>none
theorem CD{φ:AV}{b:Bool}(h:exG φ=some (some b)):φ=.ex (.bool b):=by
 unfold exG at h;grind
theorem CF{φ:AV}(h:exG φ=some none):φ=.ex undef:=by
 unfold exG at h;split at h
 ·cases h
 ·rename_i vs
  split at h
  ·rename_i e
   have:vs=#[]:=Array.ext' (by omega)
   rw[this];rfl
  ·cases h
 ·cases h
def nk(all:List Oper)(i:Nat):Option Tmp:=match all[i]? with
 |some o=>o.dst
 |none=>none
def nN(b:Option Bool)(w:Bool):Bool:=match b,w with
 |some true,true=>true
 |some false,false=>true
 |_,_=>false
def Z2(E:VE)(wr:List Nat)(all:List Oper)(k:S->Comp β):List Oper->S->Comp β
 | [],s=>k s
 |o::os,s=>match o.guard with
  |none=>step E wr s o (Z2 E wr all k os)
  |some g=>match nk all g.1 with
   |none=>Comp.fail
   |some t=>match rdO s.ep s.L [] [] (.tmp t) with
    |none=>Comp.fail
    |some φ=>match exG φ with
     |some b=>match nN b g.2 with
      |true=>step E wr s o (Z2 E wr all k os)
      |false=>Z2 E wr all k os (s.put o.dst (.ex undef))
     |none=>match φ.bool? with
      |none=>Comp.fail
      |some b=>if gB b g.2=true then step E wr (s.put (some t) (.ex (.bool g.2))) o (Z2 E wr all k os) else Z2 E wr all k os ((s.put (some t) (.ex (.bool (ntB g.2)))).put o.dst (.ex undef))
section
variable {F:Frm} {E:VE} {k:S->Comp β}
theorem Rel.Xz{s:S}{a:Act}{w:World}{X:Cx}(h:RelX F s a w X){t:Nat}{φ:AV}(hφ:∀X':Cx,X'.P=X.P->φ.holds X' w (a.get t)):Rel F (s.put (some t) φ) a w:=by
 refine⟨{ X with n:=s.n+1 },h.go h.fit rfl rfl rfl (fun _ _=>zb.refl _ _ _) (fun _ _=>rfl) rfl h.ep (zLk _) (Nat.le_succ_of_le h.epn) h.base (fun hf=>⟨hf,Ext.refl _⟩) (fun _ _ _=>rfl) (fun u e he=>?_) (fun k e he=>.inr ⟨he,rfl,fun _=>zb.refl _ _ _⟩) h.inj h.pos⟩
 rcases zC he with ⟨h1,h2⟩|⟨h1,h2⟩
 ·subst h1 h2;exact .inl ⟨zLl _,fun _=>hφ _ rfl⟩
 ·exact .inr ⟨h2,rfl,fun f8 hf=>⟨hf,Ext.refl _⟩⟩
theorem Rel.skip{s:S}{a:Act}{w:World}(h:Rel F s a w){d:Option Tmp}(hd:F.dst d):Rel F (s.put d (.ex undef)) (a.put d undef) w:=by
 obtain⟨X,hX⟩:=h;exact⟨_,hX.val (Ext.refl w) hd (show (AV.ex undef).holds X w undef from rfl)⟩
theorem YL{all:List Oper}{a:Act}{g t:Nat}(hd:nk all g=some t){b:Bool}(h:a.get t=.bool b):yielded all.toArray a.tmps g=some b:=by
 unfold nk at hd;split at hd
 ·rename_i o ho
  have h1:all.toArray[g]?=some o:=by grind
  unfold yielded;simp only[h1,zLX,hd];have h2:a.tmps.getD t undef=.bool b:=h
  rw[zLv]at h2;grind [undef]
 ·cases hd
theorem Jz{all:List Oper}{a:Act}{g t:Nat}(hd:nk all g=some t)(h:a.get t=undef):yielded all.toArray a.tmps g=none:=by
 unfold nk at hd;split at hd
 ·rename_i o ho
  have h1:all.toArray[g]?=some o:=by grind
  unfold yielded;simp only[h1,zLX,hd];have h2:a.tmps.getD t undef=undef:=h
  rw[zLv]at h2
  cases h3:a.tmps[t]? with
  |none=>rfl
  |some v=>rw[h3]at h2;simp only[Option.getD_some]at h2;subst h2;rfl
 ·cases hd
theorem Rk{b w:Bool}:gB b w=true↔b=w:=by cases b<;>cases w<;>decide
theorem RY{b w:Bool}(h:¬gB b w=true):b=ntB w:=by cases b<;>cases w<;>first|rfl|exact zLp rfl h
theorem XY(hE:E.ok F.P)(wr:List Nat){all:List Oper}{nf:Nat}{y:β}{Q:Exit->Act->World->Prop}{q:Act->World->Prop}{s0:S}:∀ {os:List Oper} {s:S} {a:Act} {w:World},Rel F s a w->Inv s0 s->(Z2 E wr all k os s).run nf=some y->(∀o∈os,(∀c,o.op≠.defer c)/\F.dst o.dst) ->
  (∀s' a' w',Rel F s' a' w'->Inv s0 s'->(k s').run nf=some y->q a' w')->vt (F.W Q) all.toArray q os a w
 | [],s,a,w,h,hi,hr,_,hK=>hK s a w h hi hr
 |o::os,s,a,w,h,hi,hr,ho,hK=>by
  have h1:=ho o (by simp)
  have ho':∀o∈os,(∀c,o.op≠.defer c)/\F.dst o.dst:=fun o' ho'=>ho o' (by grind)
  have act:∀ {s:S},Rel F s a w->Inv s0 s->(step E wr s o (Z2 E wr all k os)).run nf=some y->Region.wanted o (yielded all.toArray a.tmps)=true->vt (F.W Q) all.toArray q (o::os) a w:=fun {s} h hi hr hw=>by
   simp only[vt,hw,if_true];refine jz h1.1 (Ku (k:=Z2 E wr all k os) hE h wr o h1.2 nf y hr _ _ fun s' v w' hR hi' hr'=>?_)
   exact XY hE wr hR (hi.trans hi') hr' ho' hK
  have off:∀ {s:S},Rel F s a w->Inv s0 s->(Z2 E wr all k os (s.put o.dst (.ex undef))).run nf=some y->Region.wanted o (yielded all.toArray a.tmps)=false->vt (F.W Q) all.toArray q (o::os) a w:=fun {s} h hi hr hw=>by
   simp only[vt,hw,Bool.false_eq_true,if_false];exact XY hE wr (h.skip h1.2) (hi.trans (Inv.put _ _ _)) hr ho' hK
  simp only[Z2]at hr;split at hr
  ·grind [Region.wanted]
  ·rename_i g hg
   have sK:Region.wanted o (yielded all.toArray a.tmps)=(yielded all.toArray a.tmps g.1 == some g.2):=by grind [Region.wanted]
   split at hr
   ·cases hr
   ·rename_i t ht
    split at hr
    ·cases hr
    ·rename_i φ hφ
     obtain⟨X,hX⟩:=h;rw[<-hX.ep]at hφ;have hv:φ.holds X w (a.get t):=hX.rd #[.tmp t] (.tmp t) φ (by simp) hφ
     split at hr
     ·rename_i b hb
      have hy:yielded all.toArray a.tmps g.1=b:=by
       cases b with
       |none=>rw[CF hb]at hv;exact Jz ht hv
       |some b=>rw[CD hb]at hv;exact YL ht hv
      rw[hy]at sK;split at hr
      ·rename_i hw
       refine act ⟨X,hX⟩ hi hr ?_;rw[sK];unfold nN at hw;grind
      ·rename_i hw
       refine off ⟨X,hX⟩ hi hr ?_;rw[sK]
       cases b with
       |none=>rfl
       |some b =>
        generalize g.2=v at hw;cases b<;>cases v<;>first|rfl|grind [nN]
     ·split at hr
      ·cases hr
      ·rename_i b hb
       have iM:a.get t=.bool b:=by rw[AV.Zg hb]at hv;exact kO.1 hv
       have hy:=YL ht iM;rw[hy]at sK;split at hr
       ·rename_i cS
        have e:=Rk.1 cS;refine act (Rel.Xz hX (φ:=.ex (.bool g.2)) fun X' _=>(by rw[iM,e];exact rfl)) (hi.trans (Inv.put _ _ _)) hr ?_
        grind
       ·rename_i cS
        have e:=RY cS;refine off (Rel.Xz hX (φ:=.ex (.bool (ntB g.2))) fun X' _=>(by rw[iM,e];exact rfl)) (hi.trans (Inv.put _ _ _)) hr ?_
        rw[sK,e];cases g.2<;>rfl
theorem WC(fC:∀t φ,¬F.Lh t φ)(hE:E.ok F.P){s0 s:S}{a:Act}{w:World}(hR:Rel F s a w)(hi:Inv s0 s){os:List Oper}{id nf:Nat}{y:β}{Q:Exit->Act->World->Prop}
  (kA:Xq F.N os=true) (h:(Z2 E (wrS os) os k os s).run nf=some y) (hK:∀s' a' w',Rel F s' a' w'->Inv s0 s'->(k s').run nf=some y->Q .normal a' w'):F.wp (Code.region id os.toArray false) Q a w:=by
 have key:vt (F.W Q) os.toArray (Q .normal) os a w:=XY hE (wrS os) hR hi h (fun o ho=>⟨Kw kA o ho,fun t ht=>?_⟩) hK
 ·refine Jr (fun h=>nomatch h) ?_
  show XB (F.W Q) os.toArray (Q .normal) (List.range os.toArray.size) a w
  simp_all [List.range_eq_range',kV]
 obtain⟨j,hj⟩:=List.mem_iff_getElem?.1 ho;exact⟨((zS (Xw kA) hj).2.1 t ht).1,fun φ=>fC t φ⟩
end
end Go.Den
end
section
namespace Go.Den
open Go Go.RowKit Go.Eng Go.Lift
variable {α β γ δ σ ε:Type}
def wA(body:σ->α->Comp (Comp.Step σ ε)):List α->σ->Comp (Comp.Step σ ε)
 | [],s=>Comp.pure (.next s)
 |x::xs,s=>(body s x).bind fun r=>match r with
  |.next s'=>wA body xs s'
  |.done e=>Comp.pure (.done e)
def S.tick(s:S):S:={ s with n:=s.n+1,ep:=s.n }
def Jh(n:Nat):LS->LS
 | []=>[]
 |e::L=>(match e.2.2.ze with
  |true=>(e.1,n,.top)
  |false=>e)::Jh n L
def S.ZZ(s:S):S:={ s with L:=Jh s.n s.L,n:=s.n+1 }
def S.back(s:S)(L:LS):S:={ s with L:=L }
theorem Inv.tick(s:S):Inv s s.tick:=⟨zLk _,fun _ _ h _=>h,fun _ _ h _=>h⟩
theorem jG{n:Nat}:∀ {L:LS} {t:Nat} {e:Nat×AV},look (Jh n L) t=some e->e.2.ze=false/\(look L t=some e\/e=(n,.top))
 | [],t,e,h=>by cases h
 |f::L,t,e,h=>by
  obtain⟨t0,n0,φ⟩:=f;simp only[Jh]at h
  cases hf:φ.ze with
  |true =>
   rw[hf]at h;rcases zC h with ⟨h1,h2⟩|⟨h1,h2⟩
   ·exact⟨by rw[<-h2];rfl,.inr h2.symm⟩
   ·obtain⟨g1,g2⟩:=jG h2
    grind [look]
  |false =>
   rw[hf]at h;rcases zC h with ⟨h1,h2⟩|⟨h1,h2⟩
   ·refine⟨by grind,.inl ?_⟩
    simp_all [look]
   ·obtain⟨g1,g2⟩:=jG h2
    grind [look]
theorem Inv.ZZ(s:S):Inv s s.ZZ:=⟨zLk _,fun t e h hl=>by
 rcases(jG h).2 with h1|h1
 ·exact h1
 grind,fun _ _ h _=>h⟩
section
variable {F:Frm} {s:S} {a:Act} {w w':World} {X:Cx}
theorem RelX.conv(h:RelX F s a w X){F':Frm}{L':LS}{a':Act}(hP:F'.P=F.P)(hA:F'.A=F.A)(hO:F'.O0=F.O0)(hw:F'.w0=F.w0)(fC:∀t φ,¬F'.Lh t φ)(bZ:F'.fe=F.fe)(iG:F'.bl=F.bl)(fZ:F'.x.st=F.x.st)
  (fL:a'.fitD F'.N F'.D) (hL:Xt L' X w a') (n7:∀t e,look L' t=some e->e.1<s.n) (hex:Exx F'.x X w):RelX F' { s with L:=L' } a' w X :=
 ⟨h.P.trans hP.symm,h.A.trans hA.symm,by rw[hw];exact h.Fn,h.n,h.ep,by rw[hO,hw];exact h.ok0,fL,by rw[hA,hO,hw];exact h.base,hL,h.m,n7,h.mn,h.inj,by rw[fZ];exact h.pos,h.epn,by rw[bZ];exact h.fe,fun t φ hp=>zLp hp (fC t φ),by rw[iG];exact h.bl,hex⟩
theorem RelX.ZZ(h:RelX F s a w X)(fC:∀t φ,¬F.Lh t φ):RelX F s.ZZ a w { X with n:=s.n+1 }:=by
 have fG:X.le w { X with n:=s.n+1 } w:=⟨rfl,zb.refl _ _ _,fun _ _=>rfl,by rw[h.n];grind,rfl⟩
 refine h.go h.fit rfl rfl rfl (fun _ _=>zb.refl _ _ _) (fun _ _=>rfl) rfl h.ep (zLk _) (Nat.le_succ_of_le h.epn) h.base (fun hf=>⟨hf,Ext.refl _⟩) (fun _ _ _=>rfl) (fun t e he=>?_) (fun k e he=>.inr ⟨he,rfl,fun _=>zb.refl _ _ _⟩) h.inj h.pos
 rcases jG he with ⟨h1,h2|h2⟩
 ·grind
 ·subst h2;exact .inl ⟨zLl _,fun _=>trivial⟩
theorem RelX.Qq(h:RelX F s a w X)(sD:F.x.sb=F.w0.heap.size)(o0:Obj):RelX (F.sys fun c o=>F.x.sys c o\/(c=w.heap.size/\o=o0)) s a (w.alloc o0) { X with O:=tag X.O (some w.heap.size) F.x.st }:=by
 have hE:=Ext.alloc w o0;have hk:KX none X.O w (tag X.O (some w.heap.size) F.x.st) (w.alloc o0):=KX.tag hE fun g hg=>by grind
 have hB:Base F.A F.O0 F.w0 (tag X.O (some w.heap.size) F.x.st) (w.alloc o0):=(h.base.step hE h.ok0).tag h.ex.st (fun g hg=>by cases hg;exact⟨h.base.new _ h.base.size,by simp⟩)
 have h1:RelX F s a (w.alloc o0) { X with O:=tag X.O (some w.heap.size) F.x.st }:=h.go h.fit rfl rfl rfl (fun _ _=>hk.keep (by simp)) (fun _ _=>rfl) h.n h.ep (zLb _) h.epn hB (fun hf=>⟨hf,hE⟩) (fun _ _ _=>rfl) (fun t e he=>.inr ⟨he,rfl,fun _ hf=>⟨hf,hE⟩⟩) (fun k e he=>.inr ⟨he,rfl,fun _=>hk.keep (by simp)⟩) h.inj h.pos
 refine⟨h1.P,h1.A,h1.Fn,h1.n,h1.ep,h1.ok0,h1.fit,h1.base,h1.l,h1.m,h1.ln,h1.mn,h1.inj,h1.pos,h1.epn,h1.fe,h1.lh,h1.bl,h1.ex.st,fun c o hc=>?_,h1.ex.kv,h1.ex.since,h1.ex.L⟩
 rcases hc with hc|⟨rfl,rfl⟩
 ·exact h1.ex.sys c o hc
 ·exact⟨⟨World.alloc_heap_new w _,yk _ _ _⟩,show F.x.sb<=w.heap.size by rw[sD];exact h.base.size⟩
theorem RelX.ext(h:RelX F s a w X)(hE:Ext w w'):RelX F s a w' X :=
 h.go h.fit rfl rfl rfl (fun _ _=>zb.ext hE) (fun _ _=>rfl) h.n h.ep (zLb _) h.epn (h.base.step hE h.ok0) (fun hf=>⟨hf,hE⟩) (fun _ _ _=>rfl) (fun t e he=>.inr ⟨he,rfl,fun _ hf=>⟨hf,hE⟩⟩) (fun k e he=>.inr ⟨he,rfl,fun _=>zb.ext hE⟩) h.inj h.pos
end
theorem Frm.To.sys{F F':Frm}(h:F.To F'){b:Nat}{o:Obj}(hs:F.x.sys b o):F'.x.sys b o:=by
 induction h with
 |refl=>exact hs
 |mark _ _ _ _ ih=>exact .inl ih
theorem Frm.Same.M4{A B C:Frm}{q:Nat->Obj->Prop}(h1:A.Same B)(h2:(B.sys q).Same C):A.Same C :=
 ⟨h2.P.trans h1.P,h2.N.trans h1.N,h2.A.trans h1.A,h2.O0.trans h1.O0,h2.w0.trans h1.w0,h2.Lh.trans h1.Lh,h2.fe.trans h1.fe,h2.bl.trans h1.bl,h2.st.trans h1.st,h2.kv.trans h1.kv,h2.sO.trans h1.sO,h2.sw.trans h1.sw,h2.rd.trans h1.rd,h2.Lp.trans h1.Lp,h2.sb.trans h1.sb,h2.nr.trans h1.nr⟩
def zBF{β:Type}(a:Ty)(x:a.D)(k:AV->Comp β):Comp β:=match a,x with
 |.slo e,x=>match (x:Option (List e.D)) with
  |none=>k (.ex (.slice none 0 0))
  |some xs=>k (.rd (.sl e) xs)
 |a,x=>k (.rd a x)
def C5{β:Type}:List Nat->(t:Ty)->t.D->S->(S->Comp β)->Comp β
 |p::ps,.cons a b,x,s,k=>zBF a x.1 fun φ=>C5 ps b x.2 (s.put (some p) φ) k
 | [],.nil,_,s,k=>k s
 |_,_,_,_,_=>Comp.fail
theorem Qc{β:Type}{X:Cx}{w:World}{v:Value}{a:Ty}{x:a.D}(h:(a.gr X.P).v X.O w v x){k:AV->Comp β}{nf:Nat}{y:β}(hr:(zBF a x k).run nf=some y):∃φ,(k φ).run nf=some y/\∀X':Cx,X'.P=X.P->X'.O=X.O->φ.holds X' w v:=by
 have gen:∀ {a:Ty} {x:a.D},(a.gr X.P).v X.O w v x->(k (.rd a x)).run nf=some y->∃φ,(k φ).run nf=some y/\∀X':Cx,X'.P=X.P->X'.O=X.O->φ.holds X' w v:=fun {a x} h hr=>⟨_,hr,fun X' e1 e2=>by show (a.gr X'.P).v X'.O w v x;grind⟩
 cases a<;>try exact gen h hr
 rename_i e
 cases x with
 |none =>
  refine⟨_,hr,fun X' _ _=>?_⟩
  obtain⟨cs,h1,h2⟩:=h;rw[show cs=_ from h1]at h2
  exact h2
 |some xs =>
  refine⟨_,hr,fun X' e1 e2=>?_⟩
  obtain⟨cs,h1,h2⟩:=h;show ((Ty.sl e).gr X'.P).v X'.O w v xs
  rw[e1,e2];exact⟨cs,h1,h2⟩
def Yv:List Nat->List Value->Act->Act
 |p::ps,v::vs,a=>Yv ps vs (a.put (some p) v)
 |_,_,a=>a
theorem Gm:∀(ps:List Nat) (vs:List Value) (a:Act),Yv ps vs a={ tmps:=(ps.zip vs).foldl (fun t p=>t.setIfInBounds p.1 p.2) a.tmps,defers:=a.defers }
 | [],_,_=>rfl
 |_::_,[],_=>rfl
 |p::ps,v::vs,a=>by rw[Yv,Gm ps vs];rfl
def Wx(N:Nat):List Nat->Bool
 | []=>true
 |p::ps=>Nat.blt p N && Wx N ps
theorem Qd{β:Type}{F:Frm}(fC:∀t φ,¬F.Lh t φ){w:World}{k:S->Comp β}{nf:Nat}{y:β}:∀ {ps:List Nat} {t:Ty} {x:t.D} {vs:List Value} {s:S} {a:Act} {X:Cx},RelX F s a w X->t.args X.P X.O w vs x->Wx F.N ps=true->(C5 ps t x s k).run nf=some y ->
  ∃s2 X2,RelX F s2 (Yv ps vs a) w X2/\X2.O=X.O/\Inv s s2/\(k s2).run nf=some y/\ps.length=vs.length:=by
 intro ps
 induction ps with
 |nil =>
  intro t x vs s a X h ha _ hr;cases t<;>first|(rw[show vs=[] from ha];exact⟨s,X,h,rfl,Inv.refl s,hr,rfl⟩)|cases hr
 |cons p ps ih =>
  intro t x vs s a X h ha dV hr;cases t<;>first|cases hr|skip
  rename_i p1 q1;obtain⟨v,vs',rfl,h1,h2⟩:=ha;simp only[C5]at hr;simp only[Wx,zLZ]at dV;obtain⟨φ,hr,hφ⟩:=Qc h1 hr;have h3:=h.val (Ext.refl w) (d:=some p) (fun t e=>by simp_all) (hφ X rfl rfl)
  obtain⟨s2,X2,g1,g2,g3,g4,g5⟩:=ih h3 (X:={ X with n:=s.n+1 }) h2 dV.2 hr;exact⟨s2,X2,g1,g2,(Inv.put _ _ _).trans g3,g4,by grind⟩
def zEh:Option AV->Option ((t:Ty)×Comp (List t.D))
 |some (.rd (.seq t) C)=>some ⟨t,C⟩
 |_=>none
theorem U6{o:Option AV}{q:(t:Ty)×Comp (List t.D)}(h:zEh o=some q):o=some (.rd (.seq q.1) q.2):=by
 unfold zEh at h;grind
def ZD:Code->Bool
 |.seq a b=>ZD a && ZD b
 |.cond _ a b=>ZD a && ZD b
 |.block _ a|.loop a|.scope a=>ZD a
 |.rangeFunc ..=>false
 |_=>true
end Go.Den
end
section
namespace Go.Den
open Go Go.RowKit Go.Eng Go.Lift
variable {α β γ δ:Type}
def nZ:AV->Option (List Nat)
 |.un=>some []
 |.pr (.bx k 0) b=>match nZ b with
  |some l=>some (k::l)
  |none=>none
 |_=>none
def q8:List Nat->AV
 | []=>.un
 |k::l=>.pr (.bx k 0) (q8 l)
theorem qW:∀ {φ:AV} {l:List Nat},nZ φ=some l->φ=q8 l:=by
 intro φ
 induction φ with
 |un=>intro l h;cases h;rfl
 |pr a b iha ihb =>
  intro l h;unfold nZ at h;split at h
  ·grind
  ·rename_i k b' h1
   injection h1 with h1 h2
   subst h1 h2;split at h
   ·rename_i l' hl;cases h;rw[ihb hl];rfl
   ·cases h
  ·cases h
 |_=>intro l h;cases h
theorem AK{X:Cx}{w:World}:∀ {l:List Nat} {us:List Value},((q8 l).sem X w).l us->us=l.map X.U/\∀k∈l,k<X.n/\∃b,X.U k=.pointer (some ⟨b,0,none⟩)
 | [],us,h=>⟨h,by simp⟩
 |k::l,us,h=>by
  obtain⟨v,vs,h1,h2,h3⟩:=h;obtain⟨h4,b,h5,h6⟩:=h2;obtain⟨h7,h8⟩:=AK h3;grind
theorem qe{X:Cx}{w:World}:∀ {l:List Nat},(∀k∈l,k<X.n/\∃b,X.U k=.pointer (some ⟨b,0,none⟩))->((q8 l).sem X w).l (l.map X.U)
 | [],_=>rfl
 |k::l,h=>by
  obtain⟨h1,b,h2⟩:=h k (by simp)
  exact⟨_,_,rfl,⟨h1,b,h2,h2⟩,qe fun j hj=>h j (by grind)⟩
theorem qD:∀l:List Nat,(q8 l).ze=false
 | []=>rfl
 |k::l=>by show (false || (q8 l).ze)=false;rw[qD l];rfl
def zAD:List Nat->List Nat->Bool
 | [],[]=>true
 |a::l,b::m=>Nat.beq a b && zAD l m
 |_,_=>false
theorem HH:∀ {l m:List Nat},zAD l m=true->l=m
 | [],[],_=>rfl
 |a::l,b::m,h=>by
  simp only[zAD,zLZ]at h;rw[zLY h.1,HH h.2]
 | [],_::_,h=>nomatch h
 |_::_,[],h=>nomatch h
def W7:AV->Bool
 |.un=>true
 |_=>false
theorem ml{φ:AV}(h:W7 φ=true):φ=.un:=by cases φ<;>first|rfl|cases h
def Sj(f:FuncId)(all:List Nat):AV->Bool
 |.cl g a b=>Nat.beq f g && (W7 a && match nZ b with
  |some l=>zAD l all
  |none=>false)
 |_=>false
theorem BH{f:FuncId}{all:List Nat}{c:AV}(h:Sj f all c=true):c=.cl f .un (q8 all):=by
 unfold Sj at h;split at h
 ·simp only[zLZ]at h
  grind [zLY,ml,qW,HH]
 ·cases h
def gJ(G:FE)(f:FuncId)(all:List Nat)(M:MS):(l:List CQ)->List Nat->Option (CR l×CB l×List (Option Nat))
 | [],ks=>match ks with
  | []=>some ((),(),[])
  |_=>none
 |.r t T::l,ks=>match ks with
  | []=>none
  |k::ks=>match look M k with
   |some (_,.bx _ (.rd t' x') T')=>match Nat.beq T T',t'.to t x',gJ G f all M l ks with
    |true,some x,some p=>some ((x,p.1),p.2.1,p.2.2)
    |_,_,_=>none
   |_=>none
 |.p t T::l,ks=>match ks with
  | []=>none
  |k::ks=>match look M k with
   |some (_,.bx _ c T')=>match Nat.beq T T',c.asT G M t,gJ G f all M l ks with
    |true,some x,some p=>some (p.1,(x,p.2.1),p.2.2)
    |_,_,_=>none
   |_=>none
 |.o t T' T::l,ks=>match ks with
  | []=>none
  |k::ks=>match look M k with
   |some (_,.bx _ c T1)=>match Nat.beq T T1,X6 M c with
    |true,some q=>match Nat.beq q.2.2.1 T',(Ty.sl q.2.2.2.1).to (.sl t) q.2.2.2.2,gJ G f all M l ks with
     |true,some xs,some p=>some (p.1,((xs:List t.D),p.2.1),some q.1::p.2.2)
     |_,_,_=>none
    |true,none=>match Ys c,gJ G f all M l ks with
     |true,some p=>some (p.1,(([]:List t.D),p.2.1),none::p.2.2)
     |_,_=>none
    |_,_=>none
   |_=>none
 |.s T::l,ks=>match ks with
  | []=>none
  |k::ks=>match look M k with
   |some (_,.bx _ c T')=>match Nat.beq T T',Sj f all c,gJ G f all M l ks with
    |true,true,some p=>some (p.1,p.2.1,p.2.2)
    |_,_,_=>none
   |_=>none
def rV(M:MS)(k:Nat):Bool:=match look M k with
 |some (_,.bx nw _ _)=>nw
 |some (_,.sl nw _ _ _)=>nw
 |_=>true
def nwQ(M:MS):Option Nat->Bool
 |some k=>rV M k
 |none=>true
def vO(M:MS)(n:Nat):(l:List CQ)->List Nat->List (Option Nat)->CB l->MS
 | [],_,_,_=>[]
 |.p t T::l,ks,qs,y=>match ks with
  | []=>[]
  |k::ks=>(k,n,.bx (rV M k) (.rd t y.1) T)::vO M n l ks qs y.2
 |.o t T' T::l,ks,qs,y=>match ks,qs with
  |k::ks,some j::qs=>(k,n,.bx (rV M k) (.ob n) T)::(n,n,.sl (rV M j) t T' y.1)::(j,n,.dead)::vO M n l ks qs y.2
  |k::ks,none::qs=>(k,n,.bx (rV M k) (.ob n) T)::(n,n,.sl true t T' y.1)::vO M n l ks qs y.2
  |_,_=>[]
 |.r t T::l,ks,qs,y=>match ks with
  | []=>[]
  |k::ks=>vO M n l ks qs y
 |.s T::l,ks,qs,y=>match ks with
  | []=>[]
  |k::ks=>vO M n l ks qs y
def stK:List CQ->List Nat->List Nat
 |.r _ _::l,k::ks=>k::stK l ks
 |.s _::l,k::ks=>k::stK l ks
 |_::l,_::ks=>stK l ks
 |_,_=>[]
def qu:List Nat->Bool
 | []=>true
 |k::l=>!vh k l && qu l
theorem wQ:∀ {l:List Nat},qu l=true->l.Nodup
 | [],_=>List.nodup_nil
 |k::l,h=>by
  simp only[qu,zLZ,Bool.not_eq_true']at h;exact List.nodup_cons.2 ⟨fun hm=>by grind [ky],wQ h.2⟩
def yq:List (Option Nat)->List Nat
 | []=>[]
 |some j::l=>j::yq l
 |none::l=>yq l
theorem Ya{j:Nat}:∀ {l:List (Option Nat)},j∈yq l↔some j∈l
 | []=>by simp[yq]
 |some k::l=>by simp[yq,Ya (l:=l)]
 |none::l=>by simp[yq,Ya (l:=l)]
def tgQ(X:Cx)(fr:Nat):Option Nat->Nat
 |some j=>X.ι j
 |none=>fr
def BKs(X:Cx):List Nat->List Nat->Prop
 | [],[]=>True
 |k::ks,b::bl=>X.U k=.pointer (some ⟨b,0,none⟩)/\BKs X ks bl
 |_,_=>False
def lr(X:Cx)(qs:List (Option Nat))(g:Nat):Prop:=∃j,some j∈qs/\(X.U j).ownBlock=some g
theorem Is{P:Program}{k:Nat}{Q:Nat->Prop}{O:zR}{w:World}{u:Value}{T:TypeId}{a b:Ty}{xs:List a.D}{ys:List b.D}(e:Ty.sl a=.sl b)(h:Ty.cast e xs=ys)(hO:zo k (a.gr P) T Q O w u xs):zo k (b.gr P) T Q O w u ys:=by
 injection e with e
 subst e;subst h;exact hO
theorem Kn{f:FuncId}{all:List Nat}{X:Cx}{w:World}{G:FE}(hG:FOk X.P G){M:MS}(hM:yE M X w){fr:Nat}:∀ {l:List CQ} {ks:List Nat} {x:CR l} {y:CB l} {qs:List (Option Nat)},gJ G f all M l ks=some (x,y,qs) ->
  (∀k∈ks,∃st nw c T,look M k=some (st,.bx nw c T))/\(∀j,some j∈qs->∃st nw t T xs,look M j=some (st,.sl nw t T xs)) /\
  ∃bl ss,BKs X ks bl/\(∀Q:Nat->Prop,(∀g,lr X qs g->Q g)->Cnt X.P f (all.map X.U) X.O w Q l x y bl (ks.map X.ι) (qs.map (tgQ X fr)) ss):=by
 intro l
 induction l with
 |nil =>
  intro ks x y qs h;simp only[gJ]at h;split at h
  ·cases h
   exact⟨by simp,by simp,[],[],trivial,fun _ _=>⟨rfl,rfl,rfl,rfl⟩⟩
  ·cases h
 |cons q l ih =>
  intro ks x y qs h
  cases q with
  |s T =>
   simp only[gJ]at h;split at h
   ·cases h
   ·rename_i k ks'
    split at h
    ·rename_i st nw c T' hk
     split at h
     ·rename_i p hT hc hp
      cases h
      obtain⟨i1,i2,bl,ss,i3,i4⟩:=ih (x:=p.1) (y:=p.2.1) (qs:=p.2.2) hp;obtain⟨b,cs,g1,g2,g3,g4⟩:=hM k _ hk;have xW:T=T':=zLY hT
      subst xW;have hc:=BH hc
      subst hc;obtain⟨u,f1,f2,vs,us,f3,f4,f5⟩:=g3;obtain⟨f6,_⟩:=AK f4;have sV:vs=[]:=f3
      subst sV;subst f6;have xG:cs=#[u]:=Array.ext' (by omega)
      rw[f5]at xG;subst xG;refine⟨fun j hj=>?_,i2,b::bl,ss,⟨g1,i3⟩,fun Q hQ=>⟨b,bl,X.ι k,ks'.map X.ι,rfl,rfl,g2.own,g2.tag,i4 Q hQ⟩⟩
      grind
     ·cases h
    ·cases h
  |r t T =>
   simp only[gJ]at h;split at h
   ·cases h
   ·rename_i k ks'
    split at h
    ·rename_i st nw t' x' T' hk
     split at h
     ·rename_i x0 p hT hc hp
      cases h
      obtain⟨i1,i2,bl,ss,i3,i4⟩:=ih (x:=p.1) (y:=p.2.1) (qs:=p.2.2) hp;obtain⟨b,cs,g1,g2,g3,g4⟩:=hM k _ hk;have xW:T=T':=zLY hT
      subst xW;refine⟨fun j hj=>?_,i2,b::bl,ss,⟨g1,i3⟩,fun Q hQ=>⟨b,bl,X.ι k,ks'.map X.ι,cs,rfl,rfl,g2.own,g2.tag,lv hc g3,i4 Q hQ⟩⟩
      grind
     ·cases h
    ·cases h
  |p t T =>
   simp only[gJ]at h;split at h
   ·cases h
   ·rename_i k ks'
    split at h
    ·rename_i st nw c T' hk
     split at h
     ·rename_i x0 p hT hc hp
      cases h
      obtain⟨i1,i2,bl,ss,i3,i4⟩:=ih (x:=p.1) (y:=p.2.1) (qs:=p.2.2) hp;obtain⟨b,cs,g1,g2,g3,g4⟩:=hM k _ hk;have xW:T=T':=zLY hT
      subst xW;refine⟨fun j hj=>?_,i2,b::bl,ss,⟨g1,i3⟩,fun Q hQ=>⟨b,bl,X.ι k,ks'.map X.ι,cs,rfl,rfl,g2.own,g2.tag,(AV.jR hG c hM).vc hc g3,i4 Q hQ⟩⟩
      grind
     ·cases h
    ·cases h
  |o t T1 T =>
   simp only[gJ]at h;split at h
   ·cases h
   ·rename_i k ks'
    split at h
    ·rename_i st nw c T' hk
     obtain⟨b,cs,g1,g2,g3,g4⟩:=hM k _ hk;split at h
     ·rename_i q hT hq
      have xW:T=T':=zLY hT;subst xW;split at h
      ·rename_i xs p hT1 hx hp
       cases h
       obtain⟨i1,i2,bl,ss,i3,i4⟩:=ih (x:=p.1) (y:=p.2.1) (qs:=p.2.2) hp
       -- the variable's one cell
       have bD:c=.ob q.1/\∃st',look M q.1=some (st',.sl q.2.1 q.2.2.2.1 q.2.2.1 q.2.2.2.2):=by
        unfold X6 at hq;grind
       obtain⟨hc,st',hj⟩:=bD;subst hc;obtain⟨u,f1,f2,f3⟩:=g3;have xG:cs=#[u]:=Array.ext' (by omega)
       subst xG;have hO:=hM q.1 _ hj
       change zo (X.ι q.1) (q.2.2.2.1.gr X.P) q.2.2.1 (X.B q.2.1) X.O w (X.U q.1) q.2.2.2.2 at hO
       have e1:=zLY hT1;obtain⟨e2,e3⟩:=Ty.jN hx;refine⟨fun j hj=>?_,fun j hj'=>?_,b::bl,u::ss,⟨g1,i3⟩,fun Q hQ=>⟨b,bl,X.ι k,ks'.map X.ι,X.ι q.1,p.2.2.map (tgQ X fr),u,ss,rfl,rfl,rfl,rfl,f2,g2.own,g2.tag,?_,i4 Q fun g hg=>hQ g (by obtain⟨j,h1,h2⟩:=hg;exact⟨j,by grind,h2⟩)⟩⟩
       ·grind
       ·grind
       ·rw[f3.1,<-e1]
        obtain⟨vs,k1,k2,k3⟩:=hO;have hOL:zo (X.ι q.1) (q.2.2.2.1.gr X.P) q.2.2.1 Q X.O w (X.U q.1) q.2.2.2.2:=⟨vs,k1,k2,fun g hg=>⟨(k3 g hg).1,hQ g ⟨q.1,by simp,hg⟩⟩⟩
        exact Is e2 e3 hOL
      ·cases h
     ·rename_i hT hq
      have xW:T=T':=zLY hT;subst xW;split at h
      ·rename_i p hn hp
       cases h
       obtain⟨i1,i2,bl,ss,i3,i4⟩:=ih (x:=p.1) (y:=p.2.1) (qs:=p.2.2) hp;have hφ:=jW hn
       subst hφ;have xG:cs=#[.slice none 0 0]:=Array.ext' (show cs.toList=_ from g3)
       subst xG;refine⟨fun j hj=>?_,fun j hj'=>i2 j (by grind),b::bl,.slice none 0 0::ss,⟨g1,i3⟩,fun Q hQ=>⟨b,bl,X.ι k,ks'.map X.ι,fr,p.2.2.map (tgQ X fr),.slice none 0 0,ss,rfl,rfl,rfl,rfl,rfl,g2.own,g2.tag,zo.nil _ _ _ _ _ _,i4 Q fun g hg=>hQ g (by obtain⟨j,h1,h2⟩:=hg;exact⟨j,by grind,h2⟩)⟩⟩
       grind
      ·cases h
     ·cases h
    ·cases h
theorem BKs.mem{X:Cx}:∀ {ks bl:List Nat},BKs X ks bl->∀b∈bl,∃k∈ks,X.U k=.pointer (some ⟨b,0,none⟩)
 | [],[],_,b,hb=>by cases hb
 |k::ks,c::bl,h,b,hb=>by
  rcases zLd.1 hb with rfl|hb
  ·exact⟨k,by simp,h.1⟩
  ·obtain⟨j,h1,h2⟩:=BKs.mem h.2 b hb
   exact⟨j,by simp[h1],h2⟩
 | [],_::_,h,_,_=>h.elim
 |_::_,[],h,_,_=>h.elim
theorem D0{f:FuncId}{all:List Nat}{G:FE}{M:MS}{n:Nat}:∀ {l:List CQ} {ks:List Nat} {x:CR l} {y:CB l} {qs:List (Option Nat)},gJ G f all M l ks=some (x,y,qs)->∀(y':CB l) k,(k∈ks\/some k∈qs)->look (vO M n l ks qs y') k≠none\/k∈stK l ks:=by
 have hc:∀ {α:Type} {k j:Nat} {x:α} {l:List (Nat×α)} {p:Prop},(k≠j->look l j≠none\/p)->look ((k,x)::l) j≠none\/p:=by
  intro α k j x l p h;unfold look
  cases hb:Nat.beq k j with
  |true=>grind
  |false=>simp_all [cond_false,zU]
 intro l
 induction l with
 |nil =>
  grind [gJ]
 |cons q l ih =>
  intro ks x y qs h y' k hk
  cases q with
  |s T =>
   cases ks with
   |nil=>grind [gJ]
   |cons k0 ks0 =>
    simp only[gJ]at h;split at h
    ·split at h
     ·rename_i p hT hc' hp
      cases h
      by_cases sN:k=k0
      ·grind [stK]
      ·exact(ih (x:=p.1) (y:=p.2.1) (qs:=p.2.2) hp y' k (hk.imp (fun h=>(zLd.1 h).resolve_left sN) id)).imp id fun h=>by simp[stK,h]
     ·cases h
    ·cases h
  |r t T =>
   cases ks with
   |nil=>grind [gJ]
   |cons k0 ks0 =>
    simp only[gJ]at h;split at h
    ·split at h
     ·rename_i x0 p hT hc' hp
      cases h
      by_cases sN:k=k0
      ·grind [stK]
      ·exact(ih (x:=p.1) (y:=p.2.1) (qs:=p.2.2) hp y' k (hk.imp (fun h=>(zLd.1 h).resolve_left sN) id)).imp id fun h=>by simp[stK,h]
     ·cases h
    ·cases h
  |p t T =>
   simp only[gJ]at h;split at h
   ·cases h
   ·split at h
    ·split at h
     ·rename_i x0 p hT hc' hp
      cases h
      refine hc fun fD=>ih (x:=p.1) (y:=p.2.1) (qs:=p.2.2) hp y'.2 k (hk.imp (fun h=>?_) id)
      grind
     ·cases h
    ·cases h
  |o t T1 T =>
   simp only[gJ]at h;split at h
   ·cases h
   ·split at h
    ·split at h
     ·split at h
      ·rename_i xs p hT1 hx hp
       cases h
       refine hc fun fD=>hc fun hne2=>hc fun hne3=>ih (x:=p.1) (y:=p.2.1) (qs:=p.2.2) hp y'.2 k (hk.imp (fun h=>?_) fun h=>?_)
       ·grind
       grind
      ·cases h
     ·split at h
      ·rename_i p hn hp
       cases h
       refine hc fun fD=>hc fun hne2=>ih (x:=p.1) (y:=p.2.1) (qs:=p.2.2) hp y'.2 k (hk.imp (fun h=>?_) fun h=>by grind)
       grind
      ·cases h
     ·cases h
    ·cases h
theorem MN{f:FuncId}{all:List Nat}{X X':Cx}{w w':World}{M:MS}(hM:yE M X w)(hP:X'.P=X.P)(hA:X'.A=X.A)(hF:X'.F=X.F){n:Nat}(hU:∀k,k<n->X'.U k=X.U k)(hι:∀k,k<n->X'.ι k=X.ι k)(hn:X'.n=n+1)(bL:∀k e,look M k=some e->k<n){fr:Nat}{G:Nat->Prop} :
  ∀ {l:List CQ} {ks:List Nat} {qs:List (Option Nat)} {x:CR l} {y':CB l} {bl:List Nat} {ss':List Value},(∀k∈ks,∃st nw c T,look M k=some (st,.bx nw c T))->BKs X ks bl ->
  Cnt X.P f (all.map X.U) X'.O w' G l x y' bl (ks.map X.ι) (qs.map (tgQ X fr)) ss'->qs.length<=1->(∀u,ss'.head?=some u->X'.U n=u)->(∀q,qs.head?=some q->X'.ι n=tgQ X fr q/\∀g,G g->X.B (nwQ M q) g) ->
  ∀k e,(k,e)∈vO M n l ks qs y'->e.1=n/\e.2.holds X' w' k/\((k∈ks/\k<n)\/(k=n/\qs≠[])\/(some k∈qs/\e.2=.dead)):=by
 intro l
 induction l with
 |nil=>grind [vO]
 |cons q l ih =>
  intro ks qs x y' bl ss' h1 hb hC hq hu hqq k e he
  cases q with
  |s T =>
   obtain⟨b,bl',τ,ts',rfl,e1,e2,e3,e5⟩:=hC
   cases ks with
   |nil=>cases e1
   |cons k0 ks =>
    simp only[List.map_cons,List.cons.injEq]at e1;obtain⟨rfl,rfl⟩:=e1;simp only[vO]at he;obtain⟨g1,g2,g3⟩:=ih (y':=y') (fun k hk=>h1 k (by grind)) hb.2 e5 hq hu hqq k e he
    grind
  |r t T =>
   obtain⟨b,bl',τ,ts',cs,rfl,e1,e2,e3,e4,e5⟩:=hC
   cases ks with
   |nil=>cases e1
   |cons k0 ks =>
    simp only[List.map_cons,List.cons.injEq]at e1;obtain⟨rfl,rfl⟩:=e1;simp only[vO]at he;obtain⟨g1,g2,g3⟩:=ih (y':=y') (fun k hk=>h1 k (by grind)) hb.2 e5 hq hu hqq k e he
    grind
  |p t T =>
   obtain⟨b,bl',τ,ts',cs,rfl,e1,e2,e3,e4,e5⟩:=hC
   cases ks with
   |nil=>cases e1
   |cons k0 ks =>
    simp only[List.map_cons,List.cons.injEq]at e1;obtain⟨rfl,rfl⟩:=e1;obtain⟨st,nw,c,T0,hk⟩:=h1 k0 (by simp)
    have hnw:rV M k0=nw:=by grind [rV]
    have gF:=bL k0 _ hk;simp only[vO]at he;rcases zLd.1 he with he|he
    ·cases he
     obtain⟨b',cs',f1,f2,f3,f4⟩:=hM k _ hk;have:=hb.1
     rw[f1]at this;simp only[Value.pointer.injEq,zLw,Addr.mk.injEq,and_true]at this;subst this;refine⟨rfl,⟨b',cs,by grind,⟨e2,?_,by grind⟩,?_,rfl⟩,.inl ⟨by simp,gF⟩⟩
     ·rw[hnw,Cx.Ka hA hF];exact f2.ge
     ·show (t.gr X'.P).rel X'.O w' cs.toList y'.1
      grind
    ·obtain⟨g1,g2,g3⟩:=ih (y':=y'.2) (fun k hk=>h1 k (by grind)) hb.2 e5 hq hu hqq k e he
     grind
  |o t T1 T =>
   obtain⟨b,bl',τ,ts',σ,σs',u,vs',rfl,e1,e2,rfl,e3,e4,e5,e6,e7⟩:=hC
   cases ks with
   |nil=>cases e1
   |cons k0 ks =>
   cases qs with
   |nil=>cases e2
   |cons q0 qs =>
    simp only[List.map_cons,List.cons.injEq]at e1 e2;obtain⟨rfl,rfl⟩:=e1;obtain⟨rfl,rfl⟩:=e2;have iI:qs=[]:=by cases qs with|nil=>rfl|cons _ _=>grind
    subst iI;obtain⟨st,nw,c,T0,hk⟩:=h1 k0 (by simp)
    have hnw:rV M k0=nw:=by grind [rV]
    have gF:=bL k0 _ hk;have oY:=hu u rfl
    obtain⟨bN,hGB⟩:=hqq q0 rfl;obtain⟨b',cs',f1,f2,f3,f4⟩:=hM k0 _ hk;have nM:=hb.1
    rw[f1]at nM;simp only[Value.pointer.injEq,zLw,Addr.mk.injEq,and_true]at nM;subst nM;have hbx:(MV.bx (rV M k0) (.ob n) T).holds X' w' k0:=by
     refine⟨b',#[u],by grind,⟨e4,?_,by grind⟩,⟨u,rfl,e3,oY.symm,by omega,e3⟩,rfl⟩
     rw[hnw,Cx.Ka hA hF];exact f2.ge
    have hsl:∀nw',nw'=nwQ M q0->(MV.sl nw' t T1 y'.1).holds X' w' n:=by
     intro nw' hnw';obtain⟨vs,k1,k2,k3⟩:=e6;show zo _ _ _ _ _ _ _ _
     rw[oY,bN,hP,Cx.Ka hA hF,hnw'];exact⟨vs,k1,k2,fun g hg=>⟨(k3 g hg).1,hGB g (k3 g hg).2⟩⟩
    have xJ:∀e',(k,e')∈vO M n l ks [] y'.2->e'.1=n/\e'.2.holds X' w' k/\((k∈k0::ks/\k<n)\/(k=n/\q0::[]≠[])\/(some k∈[q0]/\e'.2=.dead)):=fun e' he'=>by
     have sV:vs'=[]:=by
      have:∀ {l:List CQ} {x:CR l} {y:CB l} {bl ts:List Nat} {vs:List Value},Cnt X.P f (all.map X.U) X'.O w' G l x y bl ts [] vs->vs=[]:=by
       intro l
       induction l with
       |nil=>intro x y bl ts vs h;exact h.2.2.2
       |cons q l ih2 =>
        intro x y bl ts vs h
        cases q with
        |s T=>obtain⟨_,_,_,_,_,_,_,_,h⟩:=h;grind
        |r t T=>obtain⟨_,_,_,_,_,_,_,_,_,_,h⟩:=h;grind
        |p t T=>obtain⟨_,_,_,_,_,_,_,_,_,_,h⟩:=h;grind
        |o t T' T=>obtain⟨_,_,_,_,_,_,_,_,_,_,h,_⟩:=h;cases h
      grind
     subst sV;obtain⟨g1,g2,g3⟩:=ih (y':=y'.2) (fun k hk=>h1 k (by grind)) hb.2 e7 (by simp) (fun u hu=>by grind) (fun q hq=>by grind) k e' he'
     grind
    cases q0 with
    |some j =>
     simp only[vO]at he;rcases zLd.1 he with he|he
     ·grind
     rcases zLd.1 he with he|he
     ·cases he;exact⟨rfl,hsl _ rfl,.inr (.inl ⟨rfl,by simp⟩)⟩
     rcases zLd.1 he with he|he
     ·cases he;exact⟨rfl,trivial,.inr (.inr ⟨by simp,rfl⟩)⟩
     grind
    |none =>
     simp only[vO]at he;rcases zLd.1 he with he|he
     ·grind
     rcases zLd.1 he with he|he
     ·cases he;exact⟨rfl,hsl _ rfl,.inr (.inl ⟨rfl,by simp⟩)⟩
     grind
theorem QS{f:FuncId}{all:List Nat}{X X':Cx}{w w':World}{G:FE}{M:MS}(hM:yE M X w)(hP:X'.P=X.P)(hA:X'.A=X.A)(hF:X'.F=X.F){n:Nat}(hU:∀k,k<n->X'.U k=X.U k)(hι:∀k,k<n->X'.ι k=X.ι k)(hn:n<=X'.n)(bL:∀k e,look M k=some e->k<n)(fH:∀k∈all,k<n/\∃b,X.U k=.pointer (some ⟨b,0,none⟩)){Gq:Nat->Prop} :
  ∀ {l:List CQ} {ks:List Nat} {qs:List (Option Nat)} {x:CR l} {y y':CB l} {bl:List Nat} {ts σs:List Nat} {ss':List Value},gJ G f all M l ks=some (x,y,qs)->BKs X ks bl ->
  Cnt X.P f (all.map X.U) X'.O w' Gq l x y' bl ts σs ss'->ts=ks.map X.ι->∀k∈stK l ks,∀e,look M k=some e->e.2.holds X' w' k:=by
 intro l
 induction l with
 |nil=>grind [stK]
 |cons q l ih =>
  intro ks qs x y y' bl ts σs ss' hi hb hC bP k hk e he
  cases ks with
  |nil=>grind [stK]
  |cons k0 ks =>
  cases q with
  |p t T =>
   obtain⟨b,bl',τ,ts',cs,rfl,rfl,e2,e3,e4,e5⟩:=hC;simp only[gJ]at hi;split at hi
   ·split at hi
    ·rename_i x0 p hT hc hp
     cases hi
     simp only[List.map_cons,List.cons.injEq]at bP;exact ih (y:=p.2.1) (qs:=p.2.2) hp hb.2 e5 bP.2 k hk e he
    ·cases hi
   ·cases hi
  |o t T' T =>
   obtain⟨b,bl',τ,ts',σ,σs',u,vs',rfl,rfl,rfl,rfl,e3,e4,e5,e6,e7⟩:=hC;simp only[List.map_cons,List.cons.injEq]at bP;simp only[gJ]at hi;split at hi
   ·split at hi
    ·split at hi
     ·rename_i xs p hT1 hx hp
      cases hi
      exact ih (y:=p.2.1) (qs:=p.2.2) hp hb.2 e7 bP.2 k hk e he
     ·cases hi
    ·split at hi
     ·rename_i p hn hp
      cases hi
      exact ih (y:=p.2.1) (qs:=p.2.2) hp hb.2 e7 bP.2 k hk e he
     ·cases hi
    ·cases hi
   ·cases hi
  |s T =>
   obtain⟨b,bl',τ,ts',rfl,rfl,e2,e3,e5⟩:=hC;simp only[List.map_cons,List.cons.injEq]at bP;simp only[gJ]at hi;split at hi
   ·rename_i st nw c T1 sN
    split at hi
    ·rename_i p hT hc hp
     cases hi
     simp only[stK]at hk;rcases zLd.1 hk with rfl|hk
     ·rw[sN]at he
      cases he
      have gF:=bL k _ sN;obtain⟨b',cs',f1,f2,f3,f4⟩:=hM k _ sN;have:=hb.1
      rw[f1]at this;simp only[Value.pointer.injEq,zLw,Addr.mk.injEq,and_true]at this;subst this;have xW:T=T1:=zLY hT
      subst xW;have hc:=BH hc
      subst hc;have hU':all.map X.U=all.map X'.U:=List.map_congr_left fun j hj=>(hU j (fH j hj).1).symm
      have sR:((q8 all).sem X' w').l (all.map X.U):=by
       grind [qe,zLm]
      refine⟨b',_,by grind,⟨e2,?_,by grind⟩,⟨_,rfl,rfl,[],_,rfl,sR,rfl⟩,f4⟩
      rw[Cx.Ka hA hF];exact f2.ge
     ·exact ih (y:=p.2.1) (qs:=p.2.2) hp hb.2 e5 bP.2 k hk e he
    ·cases hi
   ·cases hi
  |r t T =>
   obtain⟨b,bl',τ,ts',cs,rfl,rfl,e2,e3,e4,e5⟩:=hC;simp only[List.map_cons,List.cons.injEq]at bP;simp only[gJ]at hi;split at hi
   ·rename_i st nw t1 x1 T1 sN
    split at hi
    ·rename_i x0 p hT hc hp
     cases hi
     simp only[stK]at hk;rcases zLd.1 hk with rfl|hk
     ·rw[sN]at he
      cases he
      have gF:=bL k _ sN;obtain⟨b',cs',f1,f2,f3,f4⟩:=hM k _ sN;have:=hb.1
      rw[f1]at this;simp only[Value.pointer.injEq,zLw,Addr.mk.injEq,and_true]at this;subst this;have xW:T=T1:=zLY hT
      subst xW;refine⟨b',cs,by grind,⟨e2,?_,by grind⟩,?_,f4⟩
      ·rw[Cx.Ka hA hF];exact f2.ge
      ·show (t1.gr X'.P).rel X'.O w' cs.toList x1
       obtain⟨h1,h2⟩:=Ty.jN hc;subst h1;rw[hP];have h2:x1=x0:=h2
       grind
     ·exact ih (y:=p.2.1) (qs:=p.2.2) hp hb.2 e5 bP.2 k hk e he
    ·cases hi
   ·cases hi
abbrev WK(X:Cx)(bl:List Nat)(qs:List (Option Nat)):Nat->Prop:=fun b=>b∈bl\/lr X qs b
section
variable {F:Frm} {s:S} {a:Act} {w:World} {X:Cx}
theorem RelX.inW(h:RelX F s a w X){ks bl:List Nat}{qs:List (Option Nat)}(h1:∀k∈ks,∃st nw c T,look s.M k=some (st,.bx nw c T))(h2:∀j,some j∈qs->∃st nw t T xs,look s.M j=some (st,.sl nw t T xs))(hb:BKs X ks bl){b:Nat}(hW:WK X bl qs b) :
  F.A b/\b<w.heap.size/\∃k e,(k∈ks\/some k∈qs)/\look s.M k=some e/\e.2.own=true/\X.O b=X.ι k:=by
 rcases hW with hW|⟨j,hj,hg⟩
 ·obtain⟨k,hk,hU⟩:=hb.mem b hW
  obtain⟨st,nw,c,T,hl⟩:=h1 k hk;obtain⟨b',cs,e1,e2,_⟩:=h.m k _ hl;rw[hU]at e1;simp only[Value.pointer.injEq,zLw,Addr.mk.injEq,and_true]at e1;subst e1;exact⟨(h.okB nw).sub _ e2.ge,e2.own.lt,k,_,.inl hk,hl,rfl,e2.tag⟩
 ·obtain⟨st,nw,t,T,xs,hl⟩:=h2 j hj
  have hO:=h.m j _ hl
  change zo (X.ι j) (t.gr X.P) T (X.B nw) X.O w (X.U j) xs at hO
  exact⟨(h.okB nw).sub _ (hO.ge b hg).1,(hO.ge b hg).2,j,_,.inr hj,hl,rfl,hO.tagged b hg⟩
theorem RelX.zBG(h:RelX F s a w X){W:Nat->Prop}(hW:∀b,W b->F.A b){O':zR}{w':World}(hK:KeepK W X.O w O' w'):Base F.A F.O0 F.w0 O' w':=by
 have hB:=h.base;refine⟨hK.os.trans hB.os,hK.tape.trans hB.tape,hK.output.trans hB.output,zLg hB.size hK.size,fun b hb hA=>?_,hK.ok,fun b hb hA=>?_,fun b hb h0=>?_,hB.new⟩
 ·rw[hK.block b (zLm hb hB.size) fun hw=>hA (hW b hw)];exact hB.block b hb hA
 ·rw[hK.tag b (zLm hb hB.size) fun hw=>hA (hW b hw)];exact hB.old b hb hA
 ·by_cases gF:b<w.heap.size
  ·by_cases hw:W b
   ·exact zLp h0 (hK.nz b gF hw)
   ·rw[hK.tag b gF hw]at h0;exact hB.zero b gF h0
  ·exact h.ok0 b (by have:=hB.size;omega)
theorem Kv{k:Nat}:∀ {l:List CQ} {ks:List Nat},k∈stK l ks->k∈ks
 | [],ks,h=>by grind [stK]
 |.r _ _::l,[],h=>by grind [stK]
 |.s _::l,[],h=>by grind [stK]
 |.p _ _::l,[],h=>by grind [stK]
 |.o _ _ _::l,[],h=>by grind [stK]
 |.r _ _::l,j::ks,h=>by
  rcases zLd.1 h with rfl|h
  ·simp
  ·simp[Kv h]
 |.s _::l,j::ks,h=>by
  rcases zLd.1 h with rfl|h
  ·simp
  ·simp[Kv h]
 |.p _ _::l,j::ks,h=>by simp[Kv (l:=l) h]
 |.o _ _ _::l,j::ks,h=>by simp[Kv (l:=l) h]
theorem RelX.zKy{f:FuncId}{all:List Nat}(h:RelX F s a w X){G:FE}(hG:FOk X.P G){l:List CQ}{ks:List Nat}{x:CR l}{y:CB l}{qs:List (Option Nat)}(hi:gJ G f all s.M l ks=some (x,y,qs))(hq:qs.length<=1){fr:Nat}(f8:(fr≠0/\fr≠F.x.st)/\∀k e,look s.M k=some e->X.ι k≠fr)
  {bl:List Nat} (fH:∀k∈all,k<s.n/\∃b,X.U k=.pointer (some ⟨b,0,none⟩)) (hb:BKs X ks bl) {O':zR} {w':World} (hK:KeepK (WK X bl qs) X.O w O' w') {y':CB l} {ss':List Value} (hC:Cnt X.P f (all.map X.U) O' w' (fun g=>w.heap.size<=g\/lr X qs g) l x y' bl (ks.map X.ι) (qs.map (tgQ X fr)) ss') :
  ∃X',RelX F { L:=s.L,M:=vO s.M s.n l ks qs y'++s.M,n:=s.n+1,ep:=s.n } a w' X':=by
 obtain⟨h1,h2,_⟩:=Kn hG h.m (fr:=fr) hi;have hWW:=fun {b} hw=>h.inW h1 h2 hb (b:=b) hw
 have sF:∀t,(∀k e,(k∈ks\/some k∈qs)->look s.M k=some e->e.2.own=true->X.ι k≠t)->zb t X.O w O' w':=fun t ht=>⟨hK.size,fun b hb aR=>by
  have hn:¬WK X bl qs b:=fun hw=>by
   grind
  exact⟨(hK.tag b hb hn).trans aR,hK.block b hb hn⟩⟩
 let X':Cx:={ X with O:=O',U:=fun k=>if k=s.n then ss'.headD .nilIface else X.U k,ι:=fun k=>if k=s.n then (qs.map (tgQ X fr)).headD 0 else X.ι k,n:=s.n+1,ep:=s.n }
 have hUk:∀k,k<s.n->X'.U k=X.U k:=fun k hk=>zMA (by omega)
 have eG:∀k,k<s.n->X'.ι k=X.ι k:=fun k hk=>zMA (by omega)
 have sG:=MN (X:=X) (X':=X') (w:=w) (w':=w') (n:=s.n) (fr:=fr) h.m rfl rfl rfl hUk eG rfl (fun k e he=>(h.mn k e he).2) (ks:=ks) (qs:=qs) (y':=y') h1 hb hC hq (fun u hu=>by
   grind) (fun q hqh=>by
   cases qs with
   |nil=>cases hqh
   |cons q0 qs =>
    simp only[List.head?_cons,zLw]at hqh;subst hqh;have iI:qs=[]:=by cases qs with|nil=>rfl|cons _ _=>grind
    subst iI;refine⟨zLz rfl,fun g hg=>?_⟩
    rcases hg with hg|⟨j,hj,hg⟩
    ·exact(h.okB _).new g (zLg h.base.size hg)
    ·have hj:q0=some j:=(List.mem_singleton.1 hj).symm
     subst hj;obtain⟨st,nw,t,T,xs,hl⟩:=h2 j (by simp)
     have hO:=h.m j _ hl
     change zo (X.ι j) (t.gr X.P) T (X.B nw) X.O w (X.U j) xs at hO
     have:nwQ s.M (some j)=nw:=by grind [nwQ,rV]
     rw[this];exact(hO.ge g hg).1)
 have hcov:=fun k hk=>D0 (n:=s.n) hi y' k hk
 have o6:=fun {k} hk {e} he=>QS (X:=X) (X':=X') (w:=w) (w':=w') (n:=s.n) (Gq:=fun g=>w.heap.size<=g\/lr X qs g) h.m rfl rfl rfl hUk eG (zLk _) (fun k e he=>(h.mn k e he).2) fH hi hb hC rfl k hk e he
 have hstm:∀ {k},k∈stK l ks->k∈ks:=fun {k} hk=>Kv hk
 have bN:qs≠[]->(X'.ι s.n=fr\/∃j,some j∈qs/\X'.ι s.n=X.ι j):=fun fD=>by
  cases qs with
  |nil=>grind
  |cons q0 qs =>
   cases q0 with
   |none=>exact .inl (zLz rfl)
   |some j=>exact .inr ⟨j,by simp,zLz rfl⟩
 refine⟨X',h.go h.fit rfl rfl rfl (fun j hj=>sF j fun k e _ g2 g3 fV=>?_) hUk rfl rfl (zLk _) (zLk _) ?_ (fun hf=>zLp (hf:s.n<=F.fe) (Nat.not_le.2 h.fe)) (fun _ _ _=>rfl) (fun t e he=>.inr ⟨he,rfl,fun f8 hf=>?_⟩) (fun k' e he=>?_) (fun j k' e e' he he' ho ho' fV=>?_) (fun k' e he ho=>?_)⟩
 ·have:=h.pos k e g2 g3
  omega
 ·exact h.zBG (fun b hw=>(hWW hw).1) hK
 ·have:=h.ln t e he
  simp only[fresh,f8,Bool.not_true,Bool.false_or]at hf;rw[jj]at hf;grind
 ·rcases gD he with g1|⟨g1,g2⟩
  ·obtain⟨a1,a2,a3⟩:=sG k' e (ZK g1)
   refine .inl ⟨by grind,?_,a2⟩
   rcases a3 with a3|a3|a3
   ·grind
   ·grind
   ·obtain⟨_,_,_,_,_,hl⟩:=h2 k' a3.1
    exact Nat.lt_succ_of_lt (h.mn k' _ hl).2
  ·have gF:=(h.mn k' e g2).2
   by_cases fZ:k'∈stK l ks
   ·exact .inl ⟨Nat.lt_succ_of_lt (h.mn k' e g2).1,Nat.lt_succ_of_lt gF,o6 fZ g2⟩
   refine .inr ⟨g2,eG k' gF,fun ho=>sF _ fun k e' g3 g4 g5 fV=>?_⟩
   have:=h.inj k k' e' e g4 g2 g5 ho fV;grind
 ·-- whose they were
  have key:∀ {k e},look (vO s.M s.n l ks qs y'++s.M) k=some e->e.2.own=true->(k<s.n/\(∃e0,look s.M k=some e0/\e0.2.own=true)/\∀j,some j∈qs->k≠j)\/(k=s.n/\qs≠[]):=fun {k e} he ho=>by
   have c6:∀ {k e0},look s.M k=some e0->(k∈ks\/look (vO s.M s.n l ks qs y') k=none)->∀j,some j∈qs->k≠j:=fun {k e0} hk hor j hj ekj=>by
    grind
   rcases gD he with g1|⟨g1,g2⟩
   ·obtain⟨a1,a2,a3⟩:=sG k e (ZK g1)
    rcases a3 with a3|a3|a3
    ·obtain⟨st,nw,c,T,hk⟩:=h1 k a3.1
     exact .inl ⟨a3.2,⟨_,hk,rfl⟩,c6 hk (.inl a3.1)⟩
    ·grind
    ·rw[a3.2]at ho;cases ho
   ·exact .inl ⟨(h.mn k e g2).2,⟨e,g2,ho⟩,c6 g2 (.inr g1)⟩
  have cross:∀ {k:Nat},(k<s.n/\(∃e0,look s.M k=some e0/\e0.2.own=true)/\∀j,some j∈qs->k≠j)->qs≠[]->X'.ι k=X'.ι s.n->False:=fun {k} hk fD fV=>by
   obtain⟨gF,⟨e0,q1,q2⟩,q3⟩:=hk;rw[eG k gF]at fV;rcases bN fD with q4|⟨j,q4,q5⟩
   ·grind
   ·obtain⟨st,nw,t,T,xs,hl⟩:=h2 j q4
    exact q3 j q4 (h.inj k j e0 _ q1 hl q2 rfl (fV.trans q5))
  rcases key he ho with g1|g1<;>rcases key he' ho' with g2|g2
  ·obtain⟨dT,⟨e1,a1,a2⟩,_⟩:=g1
   obtain⟨dU,⟨e2,b1,b2⟩,_⟩:=g2;rw[eG j dT,eG k' dU]at fV;exact h.inj j k' e1 e2 a1 b1 a2 b2 fV
  ·grind
  ·grind
  omega
 ·rcases gD he with g1|⟨g1,g2⟩
  ·obtain⟨a1,a2,a3⟩:=sG k' e (ZK g1)
   rcases a3 with a3|a3|a3
   ·obtain⟨st,nw,c,T,hk⟩:=h1 k' a3.1
    rw[eG k' a3.2];exact h.pos k' _ hk rfl
   ·rw[a3.1]
    rcases bN a3.2 with q4|⟨j,q4,q5⟩
    ·omega
    ·obtain⟨st,nw,t,T,xs,hl⟩:=h2 j q4
     rw[q5];exact h.pos j _ hl rfl
   ·rw[a3.2]at ho;cases ho
  ·rw[eG k' (h.mn k' e g2).2];exact h.pos k' e g2 ho
def uO(n:Nat):List Nat->MS
 | []=>[]
 |k::l=>(k,n,.dead)::uO n l
theorem Yi{n k:Nat}{e:Nat×MV}:∀ {l:List Nat},look (uO n l) k=some e->e=(n,.dead)/\k∈l
 | [],h=>nomatch h
 |j::l,h=>by
  rcases zC h with ⟨h1,h2⟩|⟨_,h2⟩
  ·grind
  ·obtain⟨g1,g2⟩:=Yi h2;grind
theorem qC{n k:Nat}:∀ {l:List Nat},look (uO n l) k=none->k ∉ l
 | [],_=>by simp
 |j::l,h=>by
  simp only[uO,look]at h
  cases hb:Nat.beq j k with
  |true=>grind
  |false =>
   rw[hb]at h;rw[zU]at hb;simp only[zLd,not_or];exact⟨fun e=>by grind,qC h⟩
theorem RelX.zGs{f:FuncId}{all:List Nat}(h:RelX F s a w X){G:FE}(hG:FOk X.P G){l:List CQ}{ks:List Nat}{x:CR l}{y:CB l}{qs:List (Option Nat)}(hi:gJ G f all s.M l ks=some (x,y,qs))
  {bl:List Nat} (hb:BKs X ks bl) {O':zR} {w':World} (hK:KeepK (WK X bl qs) X.O w O' w') :
  ∃X',RelX F { L:=s.L,M:=uO s.n (ks++yq qs)++s.M,n:=s.n+1,ep:=s.n } a w' X'/\X'.O=O'/\X'.P=X.P:=by
 obtain⟨h1,h2,_⟩:=Kn hG h.m (fr:=0) hi;have hWW:=fun {b} hw=>h.inW h1 h2 hb (b:=b) hw
 have sF:∀t,(∀k e,(k∈ks\/some k∈qs)->look s.M k=some e->e.2.own=true->X.ι k≠t)->zb t X.O w O' w':=fun t ht=>⟨hK.size,fun b hb aR=>by
  have hn:¬WK X bl qs b:=fun hw=>by
   grind
  exact⟨(hK.tag b hb hn).trans aR,hK.block b hb hn⟩⟩
 have sT:∀ {k},(k∈ks\/some k∈qs)↔k∈ks++yq qs:=fun {k}=>by rw[zLi,Ya]
 let X':Cx:={ X with O:=O',n:=s.n+1,ep:=s.n }
 refine⟨X',h.go h.fit rfl rfl rfl (fun j hj=>sF j fun k e _ g2 g3 fV=>?_) (fun _ _=>rfl) rfl rfl (zLk _) (zLk _) (h.zBG (fun b hw=>(hWW hw).1) hK) (fun hf=>zLp (hf:s.n<=F.fe) (Nat.not_le.2 h.fe)) (fun _ _ _=>rfl) (fun t e he=>.inr ⟨he,rfl,fun f8 hf=>?_⟩) (fun k' e he=>?_) (fun j k' e e' he he' ho ho' fV=>?_) (fun k' e he ho=>?_),rfl,rfl⟩
 ·have:=h.pos k e g2 g3
  omega
 ·have:=h.ln t e he
  simp only[fresh,f8,Bool.not_true,Bool.false_or]at hf;rw[jj]at hf;grind
 ·rcases gD he with g1|⟨g1,g2⟩
  ·obtain⟨rfl,g3⟩:=Yi g1
   refine .inl ⟨zLl _,?_,trivial⟩;rcases sT.2 g3 with g4|g4
   ·obtain⟨_,_,_,_,g5⟩:=h1 k' g4;exact Nat.lt_succ_of_lt (h.mn k' _ g5).2
   ·obtain⟨_,_,_,_,_,g5⟩:=h2 k' g4;exact Nat.lt_succ_of_lt (h.mn k' _ g5).2
  ·refine .inr ⟨g2,rfl,fun ho=>sF _ fun k e' g3 g4 g5 fV=>?_⟩
   have:=h.inj k k' e' e g4 g2 g5 ho fV;grind [qC]
 ·have key:∀ {k e},look (uO s.n (ks++yq qs)++s.M) k=some e->e.2.own=true->look s.M k=some e:=fun {k e} he ho=>by
   rcases gD he with g1|⟨_,g2⟩
   ·rw[(Yi g1).1]at ho;cases ho
   ·exact g2
  exact h.inj j k' e e' (key he ho) (key he' ho') ho ho' fV
 ·rcases gD he with g1|⟨_,g2⟩
  ·rw[(Yi g1).1]at ho;cases ho
  ·exact h.pos k' e g2 ho
end
def PL:Nat:=1000000007
theorem Aj{ι:Nat->Nat}{fr:Nat}{M:MS}(c7:∀k k' e e',look M k=some e->look M k'=some e'->e.2.own=true->e'.2.own=true->ι k=ι k'->k=k')(f8:∀k e,look M k=some e->ι k≠fr){ks:List Nat}{qs:List (Option Nat)}(hn:(ks++yq qs).Nodup)(hq:qs.length<=1)
  (h1:∀k∈ks,∃e,look M k=some e/\e.2.own=true) (h2:∀j,some j∈qs->∃e,look M j=some e/\e.2.own=true) {X:Cx} (hX:X.ι=ι):(ks.map ι++qs.map (tgQ X fr)).Nodup:=by
 have fH:∀k∈ks++yq qs,∃e,look M k=some e/\e.2.own=true:=fun k hk=>by
  grind [Ya]
 have tR:∀ {l:List Nat},(∀k∈l,∃e,look M k=some e/\e.2.own=true)->l.Nodup->(l.map ι).Nodup:=by
  intro l
  induction l with
  |nil=>grind
  |cons k l ih =>
   intro hl hn;obtain⟨g1,g2⟩:=List.nodup_cons.1 hn;refine List.nodup_cons.2 ⟨fun hm=>?_,ih (fun j hj=>hl j (by grind)) g2⟩
   obtain⟨j,hj,hjk⟩:=List.mem_map.1 hm;obtain⟨e,a1,a2⟩:=hl k (by simp)
   grind
 cases qs with
 |nil=>simpa[yq] using tR (fun k hk=>fH k (by grind)) (by grind)
 |cons q qs =>
  have iI:qs=[]:=by cases qs with|nil=>rfl|cons _ _=>grind
  subst iI
  cases q with
  |some j =>
   have:=tR fH hn;grind [yq,tgQ]
  |none =>
   have dY:=tR (l:=ks) (fun k hk=>fH k (by grind)) (by grind)
   refine List.nodup_append.2 ⟨dY,List.nodup_cons.2 ⟨by simp,List.nodup_nil⟩,?_⟩
   intro x hx y hy;simp only[List.map_cons,List.map_nil,tgQ,List.mem_singleton]at hy;subst hy;obtain⟨k,hk,rfl⟩:=List.mem_map.1 hx;obtain⟨e,a1,_⟩:=h1 k hk;grind
section
variable {F:Frm} {s:S} {a:Act} {w:World} {X:Cx} {E:VE}
variable {d:Option Tmp} {T Y:TypeId} {pos:String} {aft:Array Edge} {g:Option (Nat×Bool)} {k pn:S->Comp β}
theorem Ug{f:FuncId}{x:Operand}{xs:Array Operand}{ts:Array TypeId}{fst cap:Array Value}{R:Ending->World->Prop}{K:Act->World->Prop}{Q:Exit->Act->World->Prop}{P:Program}(hf:FnOk P f)(hu:a.eval x=.func (.func f) fst cap)(h:Calls P f (fst++xs.map a.eval++cap) w R)
  (hK:∀e w',R e w'->(∃v,e=.returned v/\K (a.put d v) w')\/∃ch,e=.panicked ch/\Q (.panic ch) a w'):Oper.wp P ⟨d,.call ⟨.value x,xs,ts⟩,T,pos,aft,g⟩ a w K Q:=by
 obtain⟨fn,h1,h2,h3⟩:=hf.h;have hr:(execOp a.eval ⟨d,.call ⟨.value x,xs,ts⟩,T,pos,aft,g⟩).run P w=.ok (.enter f (fst++xs.map a.eval++cap)) w:=by
  simp only[execOp,resolve,hu,Deferred.ofValue,Sem.run_bind,Sem.run_pure,Result.andThen,invoke,callFunc,run_program,h1];simp[h2,h3]
 unfold Oper.wp;rw[hr];refine Calls.mono h fun e w' he=>?_
 grind
def mN(E:VE)(s:S)(d:Option Tmp)(φ:Option AV)(l:Option (List AV))(k pn:S->Comp β):Comp β:=match φ,l with
 |some (.cl f ca cb),some l=>match E.K f with
  |none=>Comp.fail
  |some fs=>match W7 ca && Nat.beq fs.zT E.Z,nZ cb,Xs (l.map (fun φ=>φ.asT E.G s.M)) fs.ps with
   |true,some ks,some x=>match gJ E.G f ks s.M fs.cs ks with
    |some p=>match qu (ks++yq p.2.2) && Nat.ble p.2.2.length 1 with
     |true=>(fs.sem x p.1 p.2.1).bind fun r=>match r with
      |.inl z=>pn (S.put { L:=s.L,M:=uO s.n (ks++yq p.2.2)++s.M,n:=s.n+1,ep:=s.n } (some 0) (.rd fs.zt z))
      |.inr y=>k (S.put { L:=s.L,M:=vO s.M s.n fs.cs ks p.2.2 y++s.M,n:=s.n+1,ep:=s.n } d .top)
     |false=>Comp.fail
    |none=>Comp.fail
   |_,_,_=>Comp.fail
 |_,_=>Comp.fail
theorem Inv.zHX(s:S){M:MS}(hn:∀k e,look M k=some e->e.1=s.n):Inv s { L:=s.L,M:=M++s.M,n:=s.n+1,ep:=s.n } where
 le:=zLk _
 l:=fun t e he _=>he
 m:=fun k e he gF=>by
  rcases gD he with h1|⟨_,h2⟩
  ·grind
  ·exact h2
theorem QT{M:MS}{n:Nat}:∀ {l:List CQ} {ks:List Nat} {qs:List (Option Nat)} {y:CB l} {k:Nat} {e:Nat×MV},(k,e)∈vO M n l ks qs y->e.1=n:=by
 intro l
 induction l with
 |nil=>grind [vO]
 |cons q l ih =>
  intro ks qs y k e h
  cases q with
  |p t T =>
   cases ks with
   |nil=>grind [vO]
   |cons k0 ks =>
    grind [vO]
  |s T =>
   cases ks with
   |nil=>grind [vO]
   |cons k0 ks=>exact ih (y:=y) h
  |r t T =>
   cases ks with
   |nil=>grind [vO]
   |cons k0 ks=>exact ih (y:=y) h
  |o t T' T =>
   cases ks with
   |nil=>grind [vO]
   |cons k0 ks =>
    cases qs with
    |nil=>grind [vO]
    |cons q0 qs =>
     cases q0 with
     |some j =>
      grind [vO]
     |none =>
      grind [vO]
theorem DN(hE:E.ok X.P)(h:RelX F s a w X)(hd:F.dst d)(h0:F.dst (some 0)){x:Operand}{xs:Array Operand}{ts:Array TypeId}{nf:Nat}{y:β}{K:Act->World->Prop}{Q:Exit->Act->World->Prop}(hr:(mN E s d (rdO s.ep s.L [] [] x) (jE (rdO s.ep s.L [] []) xs.toList) k pn).run nf=some y)
  (hK:∀s' v w',Rel F s' (a.put d v) w'->Inv s s'->(k s').run nf=some y->K (a.put d v) w')
  (hP:∀s' v w',Rel F s' (a.put (some 0) v) w'->Inv s s'->(pn s').run nf=some y->Q (.panic [{ v:=.iface E.Z v,recovered:=false }]) a w'):Oper.wp F.P ⟨d,.call ⟨.value x,xs,ts⟩,T,pos,aft,g⟩ a w K Q:=by
 rw[<-h.P];rw[<-h.ep]at hr;unfold mN at hr;split at hr
 ·rename_i f ca cb l hφ hl
  split at hr
  ·cases hr
  ·rename_i fs hs
   split at hr
   ·rename_i ks x0 oW o7 b8
    rw[zLZ]at oW;split at hr
    ·rename_i p hp
     split at hr
     ·rename_i sA
      rw[zLZ]at sA;obtain⟨r,iD,hr⟩:=run_bind hr;have H:=h.rd (Op.operands (.call ⟨.value x,xs,ts⟩))
      have k1:=H x _ (by simp[Op.operands,Call.operands]) hφ
      obtain⟨vs,us,e1,e2,e3⟩:=k1;have nB:=ml oW.1
      subst nB;have sV:vs=[]:=e1
      subst sV;have hcb:=qW o7
      subst hcb;obtain⟨eus,fH⟩:=AK e2;subst eus;have fA:=jV hl
      have fB:=Kp hE.G h.m (a:=a) hl fun z ψ hz hψ=>H z ψ (by grind [Op.operands,Call.operands]) hψ
      have fU:fs.ps.args X.P X.O w (xs.toList.map a.eval) x0:=kg b8 (by grind) fB
      obtain⟨fr,hf0,f8⟩:=ZN X.ι s.M F.x.st;obtain⟨i1,i2,bl,ss,i3,i4⟩:=Kn hE.G h.m (fr:=fr) hp;have cQ:ks.map X.U=K3 bl:=by
       have:∀ {ks bl:List Nat},BKs X ks bl->ks.map X.U=K3 bl:=by
        intro ks
        induction ks with
        |nil=>intro bl hb;cases bl with|nil=>rfl|cons=>exact hb.elim
        |cons k ks ih =>
         intro bl hb
         cases bl with
         |nil=>exact hb.elim
         |cons b bl=>rw[List.map_cons,hb.1,ih hb.2];rfl
       grind
      obtain⟨f1,f2⟩:=hE.K f fs hs;have hq1:=Nat.le_of_ble_eq_true sA.2
      have o1:∀k∈ks,∃e,look s.M k=some e/\e.2.own=true:=fun k hk=>by obtain⟨_,_,_,_,q⟩:=i1 k hk;exact⟨_,q,rfl⟩
      have o2:∀j,some j∈p.2.2->∃e,look s.M j=some e/\e.2.own=true:=fun j hj=>by obtain⟨_,_,_,_,_,q⟩:=i2 j hj;exact⟨_,q,rfl⟩
      have iN:=Aj (X:=X) h.inj f8 (wQ sA.1) hq1 o1 o2 rfl;have o8:0 ∉ ks.map X.ι++p.2.2.map (tgQ X fr):=fun hm=>by
       rcases zLi.1 hm with hm|hm
       ·obtain⟨k,hk,e⟩:=List.mem_map.1 hm
        obtain⟨e',q1,q2⟩:=o1 k hk;exact(h.pos k e' q1 q2).1 e
       ·obtain⟨q,hq,e⟩:=List.mem_map.1 hm
        cases q with
        |none=>exact hf0.1 e
        |some j =>
         obtain⟨e',q1,q2⟩:=o2 j hq;exact(h.pos j e' q1 q2).1 e
      have hG:∀b,lr X p.2.2 b->b<w.heap.size/\X.O b∈p.2.2.map (tgQ X fr):=fun b hb=>by
       obtain⟨j,hj,hg⟩:=hb;obtain⟨st,nw,t,T',xs',hl'⟩:=i2 j hj;have hO:=h.m j _ hl'
       change zo (X.ι j) (t.gr X.P) T' (X.B nw) X.O w (X.U j) xs' at hO
       exact⟨(hO.ge b hg).2,List.mem_map.2 ⟨some j,hj,(hO.tagged b hg).symm⟩⟩
      have o9:=i4 (lr X p.2.2) fun g hg=>hg
      rw[cQ]at o9;have hc:=f2 X.O w h.okO _ x0 p.1 p.2.1 bl (ks.map X.ι) (p.2.2.map (tgQ X fr)) ss (lr X p.2.2) fU o9 iN o8 hG (by grind) nf r iD
      have sC:(xs.toList.map a.eval++K3 bl).toArray=#[]++xs.map a.eval++(ks.map X.U).toArray:=by
       rw[cQ,show xs.map a.eval=(xs.toList.map a.eval).toArray by rw[<-Array.toList_map]];simp
      rw[sC]at hc;refine Ug f1 e3 hc fun e w' he=>?_
      obtain⟨O',hKK,he⟩:=he;have hA1:Inv s { L:=s.L,M:=uO s.n (ks++yq p.2.2)++s.M,n:=s.n+1,ep:=s.n }:=Inv.zHX s fun k e hk=>by rw[(Yi hk).1]
      cases r with
      |inl z =>
       obtain⟨v,e4,e5⟩:=he;refine .inr ⟨_,e4,?_⟩;obtain⟨X',hX',hO',hP'⟩:=h.zGs hE.G hp i3 hKK;have hv:=hX'.val (Ext.refl w') h0 (v:=v) (φ:=.rd fs.zt z) (by show (fs.zt.gr X'.P).v X'.O w' v z;grind)
       rw[zLY oW.2];exact hP _ v w' ⟨_,hv⟩ (hA1.trans (Inv.put _ _ _)) hr
      |inr y' =>
       obtain⟨⟨v,rfl⟩,ss',hC'⟩:=he;refine .inl ⟨v,rfl,?_⟩;rw[<-cQ]at hC';obtain⟨X',hX'⟩:=h.zKy (fr:=fr) hE.G hp hq1 ⟨hf0,f8⟩ (fun k hk=>by have:=fH k hk;rw[h.n]at this;omega) i3 hKK hC'
       have hv:=hX'.val (Ext.refl w') hd (v:=v) (φ:=.top) trivial;exact hK _ v w' ⟨_,hv⟩ ((Inv.zHX s fun k e hk=>QT (ZK hk)).trans (Inv.put _ _ _)) hr
     ·cases hr
    ·cases hr
   ·cases hr
 ·cases hr
def zGi:TypeDesc->Bool
 |.interface _=>true
 |_=>false
def Sb(E:VE)(s:S)(o p:Oper)(pn:S->Comp β):Comp β:=match o.op,p.op with
 |.makeInterface Y x,.panic z=>match o.dst,z,look E.T Y,rdO s.ep s.L [] [] x with
  |some d,.tmp d',some i,some φ=>match Nat.beq d d' && (Nat.beq Y E.Z && !zGi i.dd) with
   |true=>pn ((s.put (some d) .top).put (some 0) φ)
   |false=>Comp.fail
  |_,_,_,_=>Comp.fail
 |_,_=>Comp.fail
theorem wS{W:OpW}{ops:Array Oper}{q:Act->World->Prop}:∀(l m:List Oper),vt W ops q (l++m)=vt W ops (vt W ops q m) l
 | [],m=>rfl
 |o::l,m=>by funext a w;simp only[List.cons_append,vt,wS l m]
theorem NC(hE:E.ok X.P)(h:RelX F s a w X)(h0:F.dst (some 0)){o p:Oper}(hd:F.dst o.dst)(hg1:o.guard.isNone=true)(hg2:p.guard.isNone=true){nf:Nat}{y:β}{Q:Exit->Act->World->Prop}{q:Act->World->Prop}{all:Array Oper}(hr:(Sb E s o p pn).run nf=some y)
  (hP:∀s' a' v w',Rel F s' (a'.put (some 0) v) w'->Inv s s'->(pn s').run nf=some y->Q (.panic [{ v:=.iface E.Z v,recovered:=false }]) a' w'):vt (F.W Q) all q [o,p] a w:=by
 obtain⟨d,op,T1,pos1,aft1,g1⟩:=o;obtain⟨d2,op2,T2,pos2,aft2,g2⟩:=p;have hg1:g1=none:=by simp_all
 have hg2:g2=none:=by simp_all
 subst hg1 hg2;unfold Sb at hr;split at hr
 ·rename_i Y x z aC hop2
  dsimp only at aC hop2;subst aC hop2;split at hr
  ·rename_i d' d'' i φ hd' hi hφ
   subst hd';split at hr
   ·rename_i hc
    simp only[zLZ,Bool.not_eq_true']at hc;obtain⟨c1,c2,c3⟩:=hc;have c1:=zLY c1
    have c2:=zLY c2;subst c1 c2;rw[<-h.ep]at hφ;have hv:=h.rd #[x] x φ (by simp) hφ
    have hT:=(hE.T _ _ hi).ty;have hP':X.P=F.P:=h.P
    rw[hP']at hT;simp only[vt,Region.wanted,if_true];refine jz (fun c e=>nomatch e) ?_
    have hu:(underlying E.Z).run F.P w=.ok i.dd w:=by simp[underlying,hT.u]
    have n8:(execOp a.eval ⟨some d',.makeInterface E.Z x,T1,pos1,aft1,none⟩).run F.P w=.ok (.value (.iface E.Z (a.eval x))) w:=by
     cases hdd:i.dd<;>rw[hdd]at hu c3<;>first|(cases c3;done)|simp[execOp,Instr.makeInterface,hu]
    unfold Oper.wp;rw[n8];show (F.W Q) _ _ _ _
    refine jz (fun c e=>nomatch e) ?_
    have fB:(a.put (some d') (.iface E.Z (a.eval x))).eval (.tmp d')=.iface E.Z (a.eval x):=yZ h.fit (hd d' rfl).1 _;have d9:(execOp (a.put (some d') (.iface E.Z (a.eval x))).eval ⟨d2,.panic (.tmp d'),T2,pos2,aft2,none⟩).run F.P w=.halt (.panic (.iface E.Z (a.eval x))) w:=by
     simp[execOp,fB];rfl
    unfold Oper.wp;rw[d9];have xR:=h.val (Ext.refl w) (d:=some d') (fun t ht=>hd t ht) (v:=.iface E.Z (a.eval x)) (φ:=.top) trivial
    have fG:X.le w { X with n:=s.n+1 } w:=⟨rfl,zb.refl _ _ _,fun _ _=>rfl,by rw[h.n];grind,rfl⟩
    have aS:=xR.val (Ext.refl w) h0 ((φ.mono fG fun _=>Ext.refl _).1 _ hv)
    exact hP _ _ _ _ ⟨_,aS⟩ ((Inv.put _ _ _).trans (Inv.put _ _ _)) hr
   ·cases hr
  ·cases hr
 ·cases hr
end
def zEk(E:VE)(ops:List Oper)(s:S)(k pn:S->Comp β):Comp β:=match ops.reverse with
 |o::rest=>match o.op with
  |.call c=>match c.callee with
   |.value x=>match o.guard.isNone with
    |true=>Z2 E (wrS ops) ops (fun s'=>mN E s' o.dst (rdO s'.ep s'.L [] [] x) (jE (rdO s'.ep s'.L [] []) c.args.toList) k pn) rest.reverse s
    |false=>Comp.fail
   |_=>Comp.fail
  |.panic _=>match rest with
   |q::rest=>match q.guard.isNone && o.guard.isNone with
    |true=>Z2 E (wrS ops) ops (fun s'=>Sb E s' q o pn) rest.reverse s
    |false=>Comp.fail
   | []=>Comp.fail
  |_=>Comp.fail
 | []=>Comp.fail
theorem Act.put_defers(a:Act)(d:Option Tmp)(v:Value):(a.put d v).defers=a.defers:=by cases d<;>rfl
theorem wV{a:Act}{N:Nat}{D:List Deferred}{d:Option Tmp}{v:Value}(h:(a.put d v).fitD N D):a.fitD N D:=⟨by have:=h.size;cases d<;>simpa[Act.put] using this,(Act.put_defers a d v).symm.trans h.defers⟩
theorem VI{F:Frm}{E:VE}(fC:∀t φ,¬F.Lh t φ)(hE:E.ok F.P)(hN:0<F.N){id:Nat}{ops:Array Oper}(kA:Xq F.N ops.toList=true){s0 s:S}{a:Act}{w:World}{k pn:S->Comp β}{nf:Nat}{y:β}{Q:Exit->Act->World->Prop}
  (hR:Rel F s a w) (hi:Inv s0 s) (hr:(zEk E ops.toList s k pn).run nf=some y) (hk:∀s' a' w',Rel F s' a' w'->Inv s0 s'->(k s').run nf=some y->Q .normal a' w')
  (hP:∀s' a' v w',Rel F s' (a'.put (some 0) v) w'->Inv s0 s'->(pn s').run nf=some y->Q (.panic [{ v:=.iface E.Z v,recovered:=false }]) a' w'):F.wp (Code.region id ops false) Q a w:=by
 have h0:F.dst (some 0):=fun t ht=>by grind
 have fY:∀o∈ops.toList,(∀c,o.op≠.defer c)/\F.dst o.dst:=fun o ho=>⟨Kw kA o ho,fun t ht=>by
  obtain⟨j,hj⟩:=List.mem_iff_getElem?.1 ho;exact⟨((zS (Xw kA) hj).2.1 t ht).1,fun φ=>fC t φ⟩⟩
 refine Jr (fun h=>nomatch h) ?_
 show XB (F.W Q) ops (Q .normal) (List.range ops.size) a w
 rw[List.range_eq_range',<-Array.length_toList,kV ops.toList 0 (by simp)]
 unfold zEk at hr;split at hr
 ·rename_i o rest hrev
  have hl:ops.toList=rest.reverse++[o]:=by simp_all
  have ho:o∈ops.toList:=by grind
  split at hr
  ·rename_i c aC
   split at hr
   ·rename_i x bF
    split at hr
    ·rename_i xQ
     have xK:vt (F.W Q) ops.toList.toArray (vt (F.W Q) ops.toList.toArray (Q .normal) [o]) rest.reverse a w:=by
      refine XY hE (wrS ops.toList) hR hi hr (fun o' ho'=>fY o' (by grind)) fun s' a' w' g1 g2 g3=>?_
      obtain⟨X',hX'⟩:=g1;obtain⟨dd,op,T1,pos1,aft1,gd⟩:=o;obtain⟨cal,args,tys⟩:=c;dsimp only at aC bF xQ g3;have xQ:gd=none:=by simp_all
      subst aC bF xQ;have hEX:E.ok X'.P:=by rw[hX'.P];exact hE
      simp only[vt,Region.wanted,if_true];refine jz (fun c e=>nomatch e) ?_
      refine DN hEX hX' (fY _ ho).2 h0 g3 (fun s2 v w2 k1 k2 k3=>hk _ _ _ k1 (g2.trans k2) k3) fun s2 v w2 k1 k2 k3=>hP _ _ _ _ k1 (g2.trans k2) k3
     rw[<-wS,<-hl]at xK;omega
    ·cases hr
   ·cases hr
  ·rename_i z aC
   split at hr
   ·rename_i q rest'
    split at hr
    ·rename_i xQ
     rw[zLZ]at xQ;have dU:ops.toList=rest'.reverse++[q,o]:=by grind
     have hq:q∈ops.toList:=by grind
     have xK:vt (F.W Q) ops.toList.toArray (vt (F.W Q) ops.toList.toArray (Q .normal) [q,o]) rest'.reverse a w:=by
      refine XY hE (wrS ops.toList) hR hi hr (fun o' ho'=>fY o' (by grind)) fun s' a' w' g1 g2 g3=>?_
      obtain⟨X',hX'⟩:=g1;have hEX:E.ok X'.P:=by rw[hX'.P];exact hE
      refine NC hEX hX' h0 (fY q hq).2 xQ.1 xQ.2 g3 fun s2 a2 v w2 k1 k2 k3=>hP _ _ _ _ k1 (g2.trans k2) k3
     rw[<-wS,<-dU]at xK;omega
    ·cases hr
   ·cases hr
  ·cases hr
 ·cases hr
end Go.Den
end
