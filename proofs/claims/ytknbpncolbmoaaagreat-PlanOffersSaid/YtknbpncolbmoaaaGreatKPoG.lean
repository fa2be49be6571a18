/- Lemmas behind a claim. -/
import Derived.Test.YtknbpncolbmoaaaGreatKPoF
import Derived.Test.YtknbpncolbmoaaaGreatProg
import Derived.Calls
import Derived.RunT
import Derived.Shelf.SlSortCmp.NoneTotal
import Derived.Ground.SlsfProg
import Derived.Tactics
import Derived.Tactics2
import Derived.TacticsInMore
import Derived.SliceStrings
import Derived.ChangeSlices
import Derived.Lib.SmallJoins
import Derived.OpenShut
import Derived.ShutString
import Derived.ChangeOld
set_option linter.unusedSimpArgs false
set_option linter.unusedVariables false
open Go.Lift.Comp (run_pure)
section
namespace Go.Geo
open Go Go.Eng Go.Lift Go.Den Go.F
variable {α β γ δ ε σ τ:Type}
def Lss(j j':Job):Prop:=∀t,Bel t j.2.2.1.length->alw j.2.2.1 (bgn j) t=true->(enq j t).1=true->Bel t j'.2.2.1.length/\alw j'.2.2.1 (bgn j') t=true/\(enq j' t).1=true/\cst j'.2.2.1 (sl t)<=cst j.2.2.1 (sl t)
theorem zGz{j j':Job}{l l':List Int}{c c' e e':Int}(hB:BestR j l c e)(hB':BestR j' l' c' e')(he':e'=0\/e'=60)(H:Lss j j')(he:e=0):e'=0/\c'<=c:=by
 rw[he]at hB;obtain⟨t,_,k2,k3,k4,k5,_⟩:=hB.ok';obtain⟨g1,g2,g3,g4⟩:=H t k3 k4 k5;rcases he' with h|h
 ·rw[h]at hB'
  obtain⟨t',_,q2,_,_,_,q6⟩:=hB'.ok';have:=(q6 t g1 g2).2 g3
  exact⟨h,by omega⟩
 ·rw[h]at hB'
  have:=(hB'.zJr t g1 g2).2;rw[g3]at this;cases this
theorem Iu{j j':Job}(hx:j'.2.1=j.2.1){t:List Bool}(ho:∀k,B8 t k=true->(opn j'.2.2.1 (k:Int)).1=(opn j.2.2.1 (k:Int)).1):ctS j' t=ctS j t:=by
 unfold ctS;rw[hx]
 congr 1
 have key:∀l:List Nat,(∀k∈l,B8 t k=true)->(l.flatMap fun k:Nat=>(opn j'.2.2.1 (k:Int)).1)=l.flatMap fun k:Nat=>(opn j.2.2.1 (k:Int)).1:=by
  intro l
  induction l with
  |nil=>intro _;rfl
  |cons k l ih=>intro h;rw[List.flatMap_cons,List.flatMap_cons,ho k (h k (by simp)),ih fun q hq=>h q (by simp[hq])]
 exact key _ fun k hk=>(kr.1 hk).2
theorem Bn{p p':Part}{x:vG}{A:List Cell}(hc:p'.2.1=p.2.1):∀ {m i:Nat},(∀q,i<=q->q<i+m->(wt p' q=2↔wt p q=2))->enR p' x A i m=enR p x A i m
 |0,_,_=>rfl
 |m+1,i,h=>by
  have ih:=Bn (p:=p) (p':=p') (x:=x) (A:=A) hc (m:=m) (i:=i+1) fun q h1 h2=>h q (by omega) (by omega)
  have e:cl p' i=cl p i:=by unfold cl;rw[hc]
  unfold enR;rw[ih,e];by_cases hw:wt p i=2
  ·have hw':=(h i (zKW _) (by omega)).2 hw
   rw[hw,hw']
  ·have hw':wt p' i≠2:=fun g=>hw ((h i (zKW _) (by omega)).1 g)
   rw[zKu (.inl hw'),zKu (.inl hw)]
theorem Iv{L L':List Eff}{t:List Bool}(h:∀k,B8 t k=true->(opn L' (k:Int)).2.2.1<=(opn L (k:Int)).2.2.1):cst L' (sl t)<=cst L (sl t):=by
 have key:∀l:List Nat,(∀k∈l,B8 t k=true)->cst L' l<=cst L l:=by
  intro l
  induction l with
  |nil=>intro _;exact Int.le_refl _
  |cons k l ih =>
   intro hl;have h1:=h k (hl k (by simp))
   have h2:=ih fun q hq=>hl q (by simp[hq])
   have e:∀M,cst M (k::l)=(opn M (k:Int)).2.2.1+cst M l:=fun M=>by simp[cst]
   rw[e,e];omega
 exact key _ fun k hk=>(kr.1 hk).2
theorem Un{L:List Eff}{e:Eff}{k:Nat}(h:k<L.length):opn (L++[e]) (k:Int)=opn L (k:Int):=by
 unfold opn;rw[zKn,zKn,zKi (by omega)]
theorem GG{L:List Eff}{v:Eff}{i k:Nat}(h:k<L.length):opn (L.set k v) (i:Int)=if i=k then v else opn L (i:Int):=by
 unfold opn;rw[zKn,zKn,List.getElem?_set];by_cases e:k=i
 ·subst e;rw[zKu rfl,zKu (by omega),zKu (by omega)];rfl
 ·rw[zKv (by omega),zKv (Ne.symm e)]
theorem zGB{j:Job}{k:Nat}(h:k<8):B8 (bgn j) k=(decide (k<j.2.2.1.length) && spk (kp j.1) (opn j.2.2.1 (k:Int))):=by
 unfold bgn;rw[JG h]
theorem lK{j j':Job}(hn:j.2.2.1.length<=8)(hl:j.2.2.1.length<=j'.2.2.1.length)(hx:j'.2.1=j.2.1)(hc:j'.1.2.1=j.1.2.1)(hw:∀q,q<j.1.2.1.length->(wt j'.1 q=2↔wt j.1 q=2))(ho:∀k:Nat,k<j.2.2.1.length->(opn j'.2.2.1 (k:Int)).1=(opn j.2.2.1 (k:Int)).1/\(opn j'.2.2.1 (k:Int)).2.2.1<=(opn j.2.2.1 (k:Int)).2.2.1/\(∀q∈(opn j'.2.2.1 (k:Int)).2.2.2.1,q∈(opn j.2.2.1 (k:Int)).2.2.2.1)/\(spk (kp j'.1) (opn j'.2.2.1 (k:Int))=true->spk (kp j.1) (opn j.2.2.1 (k:Int))=true)):Lss j j':=by
 intro t t1 t2 t3;obtain⟨a1,a2⟩:=(mY t1.1).1 t2;have fT:∀k,B8 t k=true->k<j.2.2.1.length:=fun k hk=>(a1 k hk).1
 refine⟨t1.le hl,(mY t1.1).2 ⟨fun k hk=>?_,fun k hk q hq=>a2 k hk q ((ho k (fT k hk)).2.2.1 q hq)⟩,?_,Iv fun k hk=>(ho k (fT k hk)).2.1⟩
 ·obtain⟨b1,b2⟩:=a1 k hk
  refine⟨by omega,?_⟩
  rw[zGB (by omega)]at b2 |-
  rw[zKx b1,Bool.true_and]at b2
  cases hs:spk (kp j'.1) (opn j'.2.2.1 (k:Int)) with
  |false=>rw[Bool.and_false]
  |true=>rw[(ho k b1).2.2.2 hs]at b2;cases b2
 ·have e1:ctS j' t=ctS j t:=Iu hx fun k hk=>(ho k (fT k hk)).1
  have e2:enq j' t=enq j t:=by
   unfold enq;rw[e1,hx,hc];exact Bn hc fun q _ hq=>hw q (by omega)
  rw[e2];exact t3
theorem SB{n m:Int}(h:0<=n/\n<m)(hm:m<=1000000):(zz n m).val=some (n,()):=by
 refine Ok.val ?_;unfold zz;have e1:n.tmod m=n:=Int.tmod_eq_of_lt h.1 h.2
 have e2:(n+m).tmod m=n:=by
  rw[Int.tmod_eq_emod_of_nonneg (by omega),Int.add_emod_right]
  exact Int.emod_eq_of_lt h.1 h.2
 rw[zKv (by rw[zH];omega),Ok.bind,Ok.rem (by omega),e1,Ok.bind,yh (by omega),Ok.rem (by omega),e2,Ok.pure]
theorem zFj{j:Job}(hn:1<=j.2.2.1.length/\j.2.2.1.length<=8)(hs:∀x∈j.2.2.1,SmE x){k:Nat}(hk:k<j.2.2.1.length):Ok (kJ j [2,(k:Int),4]) fun r=>r.1=(j.1,j.2.1,j.2.2.1.set k ((opn j.2.2.1 (k:Int)).1,(opn j.2.2.1 (k:Int)).2.1,2,(opn j.2.2.1 (k:Int)).2.2.2),()):=by
 unfold kJ;rw[Ok.bind];refine(Ok.count j.2.2.1.length (fun i (s:Int×Part×vG×List Eff×Unit)=>s=((i:Int),j.1,j.2.1,j.2.2.1.take i,())) (P:=fun r=>r=(j.1,j.2.1,j.2.2.1,())) rfl ?_ ?_).mono ?_
 ·rintro i s hi rfl
  dsimp only;obtain⟨e,he⟩:=zR hi;have cX:=hs e (zKZ he)
  have oX:=qh;rw[zKu (by rw[zH,zC];omega),Ok.bind,Ok.Z0 he]
  refine yi (by have:=cX.2.2;simp;omega) ?_
  refine yi (by simp;omega) ?_
  rw[Ok.pure,zL (by omega),List.take_add_one,he]
  rfl
 ·rintro s rfl
  dsimp only;rw[zKv (by rw[zH,zC];omega),Ok.pure,List.take_length]
 ·rintro r rfl
  dsimp only;have i2:([2,(k:Int),4]:List Int)[2]?=some 4:=rfl
  have i1:([2,(k:Int),4]:List Int)[1]?=some (k:Int):=rfl;have i0:([2,(k:Int),4]:List Int)[0]?=some 2:=rfl
  have m4:(zz 4 (Int.ofNat 8)).val=some (4,()):=SB (by decide) (by decide)
  have m2:(zz 2 (Int.ofNat 8)).val=some (2,()):=SB (by decide) (by decide)
  have hmx:wy 1 (zF j.2.2.1)=(j.2.2.1.length:Int):=by show max 1 (j.2.2.1.length:Int)=_;omega
  have mk:(zz (k:Int) (wy 1 (zF j.2.2.1))).val=some ((k:Int),()):=by rw[hmx];exact SB (by omega) (by omega)
  have i4:([4,0,1, -1,2,8,1048576,1048577]:List Int)[4]?=some 2:=rfl;rw[Ok.bind,Ok.idx (by decide) i2,Ok.bind,Ok.idx (by decide) i2,Ok.zK m4,Ok.bind,Ok.idx (by decide) i4,Ok.bind,Ok.idx (by decide) i1,Ok.zK mk]
  rw[zKv (by rw[yA,zC];omega),Ok.bind,Ok.idx (by decide) i0,Ok.zK m2,vR]
  rw[zKv (by decide),vR,zKv (by decide),vR,zKu (by rfl),Ok.zK (vQ ⟨by omega,by omega⟩),Ok.bind]
  obtain⟨e,he⟩:=zR hk;have eo:opn j.2.2.1 (k:Int)=e:=by unfold opn;exact vY he
  rw[Ok.Z0 he,Ok.pure,eo];rfl
theorem Mv{L:List Eff}{k:Nat}(hk:k<L.length)(v:Eff):(L.set k v).set k (opn L (k:Int))=L:=by
 obtain⟨e,he⟩:=zR hk;have eo:opn L (k:Int)=e:=by unfold opn;exact vY he
 rw[List.set_set,eo];refine List.ext_getElem? fun i=>?_
 rw[List.getElem?_set];by_cases h:k=i
 ·subst h;rw[zKu rfl,zKu (by omega),he]
 ·rw[zKv h]
theorem zDV{p:Part}(h1:p.2.1.length<=1000000)(h2:∀c∈p.2.1,c.length<=1000000)(h3:p.2.2.1.length<=1000000):(gR p).val=some (p,()):=by
 refine Ok.val ?_;unfold gR;rw[Ok.zK (K1 h1 h2)];have oX:=qh
 refine yi (by simp;omega) ?_
 rw[Ok.pure];rfl
theorem DO(x:List (List Int))(more:List Int){at_ n:Int}(ha:0<=at_/\at_<256)(cZ:0<=n/\n<256):Ok (jE x more at_ n) fun r=>r.1=true:=by
 unfold jE;rw[Ok.zK Mx,Ok.bind];refine(zFx x).mono fun R _=>?_
 rw[Ok.bind];refine(VM R.1).mono ?_;rintro⟨j,u⟩ ⟨hj,h1⟩;dsimp only at hj h1 |-;have hs:=hj.smB
 have hn8:=hj.n;show Ok ((gG j).bind _) _
 rw[Ok.bind];refine(G1 hs).mono ?_;rintro⟨set,cost,proof,e,u'⟩ hr;dsimp only at hr |-;by_cases he:e=0\/e=60
 ·rw[zKv (by rw[vg,zKU,zj,zj];omega)]
  have ca:qw .i64 at_=at_:=ml (by omega)
  have cn:qw .i64 n=n:=ml (by omega)
  have kA:zF j.2.2.1=(j.2.2.1.length:Int):=rfl;rw[ca,cn,Ok.bind,Ok.rem (by rw[kA];omega),kA]
  have hkb:0<=at_.tmod (j.2.2.1.length:Int)/\at_.tmod (j.2.2.1.length:Int)<j.2.2.1.length:=⟨Int.tmod_nonneg _ ha.1,Int.tmod_lt_of_pos _ (by omega)⟩
  obtain⟨k,hk⟩:∃k:Nat,at_.tmod (j.2.2.1.length:Int)=(k:Int):=⟨(at_.tmod (j.2.2.1.length:Int)).toNat,by omega⟩
  rw[hk]at hkb |-;have xR:k<j.2.2.1.length:=by omega
  have hc:ckJ j=0:=by
   rcases he with h|h
   ·rw[h]at hr
    cases lB:decide (ckJ j=0) with
    |true=>exact of_decide_eq_true lB
    |false =>
     exfalso;have fB:=of_decide_eq_false lB
     have key:∀e,BestR j set cost e->e=0->False:=fun e g g0=>by
      cases g with
      |bad g=>exact g g0
      |err g g'=>exact fB g
      |non g g'=>exact fB g
      |ok g g'=>exact fB g
     exact key 0 hr rfl
   ·cases lB:decide (ckJ j=0) with
    |true=>exact of_decide_eq_true lB
    |false =>
     exfalso;have fB:=of_decide_eq_false lB
     have key:∀e,BestR j set cost e->e=60->False:=fun e g g0=>by
      cases g with
      |bad g=>exact Cc.2.2 g0
      |err g g'=>exact fB g
      |non g g'=>exact fB g
      |ok g g'=>exact fB g
     exact key e hr h
  have tU:=(hs.pl hc).cs;obtain⟨ek,dV⟩:=zR xR;have eo:opn j.2.2.1 (k:Int)=ek:=by unfold opn;exact vY dV
  rw[Ok.bind];refine(Ok.count 4 (fun i (s:Int)=>s=(i:Int)) (P:=fun r:Unit⊕Bool=>r=.inl ()) rfl ?_ ?_).mono fun r hr=>by rw[hr,Ok.pure]
  ·rintro kind s hkind rfl
   rw[zKu (by rw[zH];omega)]
   refine gN (fun _=>True) (fun jj iE=>?_) fun _ _=>by rw[Ok.pure];exact zL (by omega)
   rw[Ok.bind];refine(zFj ⟨h1,hn8⟩ hj.sm.e xR).mono ?_;rintro⟨o,u2⟩ ho;dsimp only at ho;subst ho;dsimp only;have bF:∀v:Eff,(j.2.2.1.set k v)[k]?=some v:=fun v=>by rw[List.getElem?_set,zKu rfl,zKu xR]
   rw[Ok.bind,Ok.Z0 dV,Ok.zK (vQ ⟨by omega,by rw[List.length_set];omega⟩),Ok.bind,Ok.Z0 (bF _),eo]
   have bX:vt (j.2.2.1.set k (ek.1,ek.2.1,2,ek.2.2.2)) (k:Int) (ek.1,ek.2.1,ek.2.2.1,ek.2.2.2)=j.2.2.1:=by
    have:=Mv xR (ek.1,ek.2.1,2,ek.2.2.2);rw[eo]at this;exact this
   dsimp only;rw[bX];have bL:∀ {J:Job},J.1.2.1.length<=1000->J.1.2.2.1.length<=1000->(∀x∈J.2.2.1,SmE x)->J.2.2.1.length<=1000000->SmB J:=fun h1 h2 h3 h4=>⟨⟨by omega,h3,h4⟩,h1⟩
   have aP:=hj.p.1.1;have hwl:=hj.p.2.2
   -- what is done with the other job
   refine gN (fun J:Job=>SmB J/\(kind<2->Lss j J)/\(1<kind->Lss J j)) (fun j1 hj1=>?_) fun J hJ=>?_
   ·by_cases k0:kind=0
    ·rw[zKu (by rw[yA];omega)]
     refine wu ⟨by decide,by rw[kZ,zC];omega,by rw[kZ,zC];omega⟩ fun ys _=>?_
     refine wJ hj.p fun e2 cD=>?_
     refine yi (by simp;omega) ?_
     refine hj1 _ ⟨bL (by show j.1.2.1.length<=1000;omega) (by show j.1.2.2.1.length<=1000;omega) (fun x hx=>?_) (by show (j.2.2.1++[e2]).length<=_;simp;omega),fun _=>?_,fun h=>by omega⟩
     ·rcases zKd.1 hx with hx|hx
      ·exact hj.sm.e x hx
      ·rw[List.mem_singleton.1 hx];exact cD.sm
     ·refine lK hn8 (by show _<=(j.2.2.1++[e2]).length;simp) rfl rfl (fun _ _=>Iff.rfl) fun q hq=>?_
      have eq:opn (j.2.2.1++[e2]) (q:Int)=opn j.2.2.1 (q:Int):=Un hq;show (opn (j.2.2.1++[e2]) (q:Int)).1=_/\(opn (j.2.2.1++[e2]) (q:Int)).2.2.1<=_/\(∀z∈(opn (j.2.2.1++[e2]) (q:Int)).2.2.2.1,_)/\(spk (kp j.1) (opn (j.2.2.1++[e2]) (q:Int))=true->_)
      rw[eq];exact⟨rfl,Int.le_refl _,fun _ h=>h,id⟩
    ·rw[zKv (by rw[yA];omega)]
     refine gN (fun J:Job=>SmB J/\(kind<2->Lss j J)/\(1<kind->Lss J j)) (fun j2 aK=>?_) fun J hJ=>hj1 _ hJ
     by_cases k1:kind=1
     ·rw[zKu (by rw[yA];omega),Ok.bind,Ok.Z0 dV]
      have sU:=tU k xR;rw[eo]at sU;have hb:=Int.tmod_lt_of_pos n (show 0<ek.2.2.1 by omega)
      have nC:=Int.tmod_nonneg ek.2.2.1 cZ.1;rw[Ok.bind,Ok.rem (by omega),Ok.zK (vQ ⟨by omega,by omega⟩),Ok.bind,Ok.Z0 dV,yh (by omega)]
      refine aK _ ⟨bL (by show j.1.2.1.length<=1000;omega) (by show j.1.2.2.1.length<=1000;omega) (fun x hx=>?_) (by show (j.2.2.1.set k _).length<=_;rw[List.length_set];omega),fun _=>?_,fun h=>by omega⟩
      ·have cX:=hj.sm.e ek (zKZ dV)
       rcases List.mem_or_eq_of_mem_set hx with h|h
       ·exact hj.sm.e x h
       ·rw[h];exact cX
      ·refine lK hn8 (by show _<=(j.2.2.1.set k _).length;rw[List.length_set];exact zKW _) rfl rfl (fun _ _=>Iff.rfl) fun q hq=>?_
       have eq:opn (vt j.2.2.1 (k:Int) (ek.1,ek.2.1,1+n.tmod ek.2.2.1,ek.2.2.2)) (q:Int)=if q=k then (ek.1,ek.2.1,1+n.tmod ek.2.2.1,ek.2.2.2) else opn j.2.2.1 (q:Int):=GG xR
       dsimp only;rw[eq];by_cases hqk:q=k
       ·rw[zKu hqk,hqk,eo]
        exact⟨rfl,by dsimp only;omega,fun _ h=>h,id⟩
       ·rw[zKv hqk]
        exact⟨rfl,Int.le_refl _,fun _ h=>h,id⟩
     ·rw[zKv (by rw[yA];omega)]
      refine gN (fun J:Job=>SmB J/\(kind<2->Lss j J)/\(1<kind->Lss J j)) (fun j3 hj3=>?_) fun J hJ=>aK _ hJ
      by_cases k2:kind=2
      ·rw[zKu (by rw[yA];omega),Ok.bind]
       have hg:Ok (Comp.gd (ntB (eqI (k:Int) 0)) (idx j.2.2.1 (k:Int)) ([],[],0,[],())) fun y=>sel (eqI (k:Int) 0) true (gtI (zF y.2.2.2.1) 0)=false->(1<=k/\ek.2.2.2.1=[]):=by
        by_cases sQ:k=0
        ·have e1:eqI (k:Int) 0=true:=by rw[yA];omega
         rw[e1];exact Ok.YI (fun h=>nomatch h) fun _ h=>nomatch h
        ·have e1:eqI (k:Int) 0=false:=by rw[<-Bool.not_eq_true,yA];omega
         rw[e1];refine Ok.YI (fun _=>(Ok.Z0 dV).2 fun h=>⟨by omega,?_⟩) fun h=>nomatch h
         have h:gtI (zF ek.2.2.2.1) 0=false:=h;rw[<-Bool.not_eq_true,ya,zC]at h;exact List.eq_nil_of_length_eq_zero (by omega)
       refine hg.mono fun y hy=>?_
       cases hb:sel (eqI (k:Int) 0) true (gtI (zF y.2.2.2.1) 0) with
       |true=>rw[zKu rfl];exact iE () trivial
       |false =>
        obtain⟨iV,sK⟩:=hy hb;rw[zKv (by decide),Ok.bind,Ok.rem (by omega),Ok.zK (vQ ⟨by omega,by omega⟩),Ok.bind,Ok.Z0 dV]
        refine hj3 _ ⟨bL (by show j.1.2.1.length<=1000;omega) (by show j.1.2.2.1.length<=1000;omega) (fun x hx=>?_) (by show (j.2.2.1.set k _).length<=_;rw[List.length_set];omega),fun h=>by omega,fun _=>?_⟩
        ·have cX:=hj.sm.e ek (zKZ dV)
         rcases List.mem_or_eq_of_mem_set hx with h|h
         ·exact hj.sm.e x h
         ·rw[h];exact⟨cX.1,cX.2.1,by show 1<=100000;omega⟩
        ·refine lK (by show (j.2.2.1.set k _).length<=8;rw[List.length_set];exact hn8) (by show (j.2.2.1.set k _).length<=_;rw[List.length_set];exact zKW _) rfl rfl (fun _ _=>Iff.rfl) fun q hq=>?_
         have eq:opn (vt j.2.2.1 (k:Int) (ek.1,ek.2.1,ek.2.2.1,[n.tmod (k:Int)],ek.2.2.2.2)) (q:Int)=if q=k then (ek.1,ek.2.1,ek.2.2.1,[n.tmod (k:Int)],ek.2.2.2.2) else opn j.2.2.1 (q:Int):=GG xR
         dsimp only;rw[eq];by_cases hqk:q=k
         ·rw[zKu hqk,hqk,eo]
          refine⟨rfl,Int.le_refl _,fun z hz=>?_,id⟩
          rw[sK]at hz;cases hz
         ·rw[zKv hqk]
          exact⟨rfl,Int.le_refl _,fun _ h=>h,id⟩
      ·rw[zKv (by rw[yA];omega)]
       refine gN (fun J:Job=>SmB J/\(kind<2->Lss j J)/\(1<kind->Lss J j)) (fun j4 hj4=>?_) fun J hJ=>hj3 _ hJ
       rw[zKu (by rw[yA];omega),Ok.zK (zDV (by omega) (fun c aB=>by have:=(Ye (Gu hj.v.c c aB)).1;omega) (by omega))]
       dsimp only;have fB:=List.length_pos_iff.2 hj.p.2.1
       have hwl2:zF j.1.2.2.1=(j.1.2.2.1.length:Int):=rfl;rw[Ok.bind,Ok.rem (by rw[hwl2];omega),hwl2]
       have hib:0<=n.tmod (j.1.2.2.1.length:Int)/\n.tmod (j.1.2.2.1.length:Int)<j.1.2.2.1.length:=⟨Int.tmod_nonneg _ cZ.1,Int.tmod_lt_of_pos _ (by omega)⟩
       obtain⟨i,hi⟩:∃i:Nat,n.tmod (j.1.2.2.1.length:Int)=(i:Int):=⟨(n.tmod (j.1.2.2.1.length:Int)).toNat,by omega⟩
       rw[hi]at hib |-;have hil:i<j.1.2.2.1.length:=by omega
       obtain⟨wv,iZ⟩:=zR hil;rw[Ok.bind,Ok.Z0 iZ];by_cases hw3:wv=3
       ·rw[zKv (by rw[zj];simp[hw3]),Ok.zK (vQ ⟨by omega,by omega⟩)]
        refine hj4 _ ⟨bL (by show j.1.2.1.length<=1000;omega) (by show (j.1.2.2.1.set i _).length<=1000;rw[List.length_set];omega) hj.sm.e hj.sm.n,fun h=>by omega,fun _=>?_⟩
        have hwt:∀q,wt (j.1.1,j.1.2.1,vt j.1.2.2.1 (i:Int) (Int.ofNat 1),()) q=if q=i then 1 else wt j.1 q:=fun q=>by
         unfold wt;show (j.1.2.2.1.set i 1).getD q 0=_
         rw[zKn,zKn,List.getElem?_set];by_cases e:i=q
         ·subst e;rw[zKu rfl,zKu hil,zKu rfl];rfl
         ·rw[zKv e,zKv (Ne.symm e)]
        have hwi:wt j.1 i=3:=by unfold wt;rw[vY iZ,hw3]
        refine lK hn8 (zKW _) rfl rfl (fun q _=>?_) fun q hq=>⟨rfl,Int.le_refl _,fun _ h=>h,fun h=>?_⟩
        ·rw[hwt q]
         by_cases e:q=i
         ·rw[zKu e,e,hwi];decide
         ·rw[zKv e]
        ·unfold spk at h |-
         have xZ:∀z∈kp j.1,z∈kp (j.1.1,j.1.2.1,vt j.1.2.2.1 (i:Int) (Int.ofNat 1),()):=fun z hz=>by
          unfold kp at hz |-;obtain⟨q2,hq2,rfl⟩:=List.mem_map.1 hz;rw[List.mem_filter]at hq2;refine List.mem_map.2 ⟨q2,?_,rfl⟩;rw[List.mem_filter];refine⟨hq2.1,?_⟩;have:=of_decide_eq_true hq2.2
          rw[hwt q2];by_cases e:q2=i
          ·rw[zKu e];rfl
          ·rw[zKv e,zKx this]
         have hsap:∀c:Cell,(!sap c (kp j.1))=true->(!sap c (kp (j.1.1,j.1.2.1,vt j.1.2.2.1 (i:Int) (Int.ofNat 1),())))=true:=fun c aB=>by
          rw[Bool.not_eq_true']at aB |-;unfold sap at aB |-;rw[List.all_eq_false]at aB |-;obtain⟨z,hz,h5⟩:=aB;exact⟨z,xZ z hz,h5⟩
         rw[zKs,List.any_eq_true,List.any_eq_true]at h |-;rcases h with ⟨z,h5,h6⟩|⟨z,h5,h6⟩
         ·exact .inl ⟨z,h5,hsap z h6⟩
         ·exact .inr ⟨z,h5,hsap z h6⟩
       ·rw[zKu (by rw[zj];exact hw3)]
        exact iE () trivial
   ·obtain⟨g1,g2,g3⟩:=hJ
    show Ok ((gG J).bind _) _
    rw[Ok.bind];refine(G1 g1).mono ?_;rintro⟨set2,now,proof2,f,u3⟩ cH;dsimp only at cH |-;by_cases hf:f=0\/f=60
    ·rw[zKv (by rw[vg,zKU,zj,zj];omega)]
     have aY:¬sel (sel (sel (ltI (kind:Int) 2) (eqI e 0) false) (sel (neI f 0) true (gtI now cost)) false) true (sel (sel (gtI (kind:Int) 1) (eqI f 0) false) (sel (neI e 0) true (ltI now cost)) false)=true:=by
      simp only[jD,vg,zKs,zKU,zH,yA,zj,ya];rintro(⟨⟨q1,q2⟩,q3⟩|⟨⟨q1,q2⟩,q3⟩)
      ·have:=zGz hr cH hf (g2 (by omega)) q2
       omega
      ·have:=zGz cH hr he (g3 (by omega)) q2
       omega
     rw[zKv aY];exact iE () trivial
    ·rw[zKu (by rw[vg,zKU,zj,zj];omega)]
     exact iE () trivial
  ·rintro s rfl
   rw[zKv (by rw[zH];show ¬((4:Nat):Int)<4;omega),Ok.pure]
 ·rw[zKu (by rw[vg,zKU,zj,zj];omega),Ok.pure]
end Go.Geo
end
noncomputable section
namespace Go.Dn
open Go Go.Proofs Go.RowKit Go.Eng Go.Lift Go.Den
abbrev prog:Program:=Tryz.prog
theorem mixed:prog.follows .mixedOrders=true:=by kernel_rfl
def t3:Ty:=.int .i64
def t4:Ty:=.bool
def t5:Ty:=.int .u8
def t9:Ty:=.str
def t23:Ty:=.sl t3
def t22:Ty:=.sl t23
def t26:Ty:=.arr 3 t3
def t104:Ty:=.cons t3 (.cons t3 (.cons t3 .nil))
def t106:Ty:=.cons t104 (.cons t3 .nil)
def t107:Ty:=.sl t106
def t28:Ty:=.sl t107
def t30:Ty:=.cons t9 (.cons t28 (.cons t23 .nil))
def t31:Ty:=.sl t4
def t33:Ty:=.cons t31 (.cons t31 (.cons t28 .nil))
def t62:Ty:=.cons t28 (.cons t28 (.cons t3 (.cons t23 .nil)))
def t34:Ty:=.sl t62
def t36:Ty:=.cons t30 (.cons t33 (.cons t34 .nil))
def t41:Ty:=.arr 2 t23
def t43:Ty:=.int .i64
def t48:Ty:=.arr 4 t3
def t81:Ty:=.cons t3 (.cons t3 .nil)
def t73:Ty:=.sl t81
def t78:Ty:=.sl t5
def t85:Ty:=.cons t3 (.cons t73 .nil)
def t87:Ty:=.sl t85
def t117:Ty:=.fn (.cons t3 .nil) (.cons t4 .nil)
def t130:Ty:=.cons t23 (.cons t3 .nil)
def t136:Ty:=.arr 8 t4
def t140:Ty:=.cons t36 (.cons t136 .nil)
def t147:Ty:=.fn (.cons t3 (.cons t136 .nil)) (.nil)
def t156:Ty:=.nil
def t158:Ty:=.fn (.cons t136 (.cons t136 .nil)) (.nil)
def t166:Ty:=.fn (.cons t107 .nil) (.cons t4 .nil)
def t173:Ty:=.fn (.cons t3 (.cons t107 .nil)) (.cons t4 .nil)
def t185:Ty:=.fn (.cons t3 (.cons t136 (.cons t136 .nil))) (.nil)
def t189:Ty:=.sl t106
def t191:Ty:=.sl t28
def t198:Ty:=.fn (.cons t106 .nil) (.cons t4 .nil)
def t202:Ty:=.sl t104
def t208:Ty:=.cons t3 (.cons t3 (.cons t3 (.cons t3 .nil)))
def t203:Ty:=.sl t208
def t210:Ty:=.fn (.cons t208 .nil) (.cons t4 .nil)
def t220:Ty:=.mp t208 t4
def t224:Ty:=.arr 3 t106
def t233:Ty:=.fn (.cons t106 (.cons t106 .nil)) (.cons t3 .nil)
def t245:Ty:=.int .u64
def t246:Ty:=.arr 2 t3
def t247:Ty:=.sl t246
theorem eq3:EqT prog 3 t3 1:=uh (z:=.int .i64 0) (sz:=1) (by_:=8) ⟨by kernel_rfl,by kernel_rfl⟩
def i3:TI:=⟨.int .i64,.int .i64 0,1,8,[],t3,1,false⟩
theorem ok3:i3.ok prog 3:=yO ⟨by kernel_rfl,by kernel_rfl⟩ rfl (fun _=>⟨eq3,by decide,fun _=>by kernel_rfl⟩) (yd rfl)
theorem eq4:EqT prog 4 t4 1:=Nr (z:=.bool false) (sz:=1) (by_:=1) ⟨by kernel_rfl,by kernel_rfl⟩
def i4:TI:=⟨.bool,.bool false,1,1,[],t4,1,false⟩
theorem ok4:i4.ok prog 4:=yO ⟨by kernel_rfl,by kernel_rfl⟩ rfl (fun _=>⟨eq4,by decide,fun _=>by kernel_rfl⟩) (yd rfl)
theorem eq5:EqT prog 5 t5 1:=uh (z:=.int .u8 0) (sz:=1) (by_:=1) ⟨by kernel_rfl,by kernel_rfl⟩
def i5:TI:=⟨.int .u8,.int .u8 0,1,1,[],t5,1,false⟩
theorem ok5:i5.ok prog 5:=yO ⟨by kernel_rfl,by kernel_rfl⟩ rfl (fun _=>⟨eq5,by decide,fun _=>by kernel_rfl⟩) (yd rfl)
theorem eq9:EqT prog 9 t9 1:=VS (z:=.string ⟨#[]⟩) (sz:=1) (by_:=16) ⟨by kernel_rfl,by kernel_rfl⟩
def i9:TI:=⟨.string,.string ⟨#[]⟩,1,16,[],t9,1,false⟩
theorem ok9:i9.ok prog 9:=yO ⟨by kernel_rfl,by kernel_rfl⟩ rfl (fun _=>⟨eq9,by decide,fun _=>by kernel_rfl⟩) (yd rfl)
def i22:=iS 23 t22
theorem zJp:i22.ok prog 22:=XC ⟨by kernel_rfl,by kernel_rfl⟩
def i23:=iS 3 t23
theorem zJo:i23.ok prog 23:=XC ⟨by kernel_rfl,by kernel_rfl⟩
theorem zKB:EqT prog 26 t26 2:=Kl (z:=.agg #[.int .i64 0,.int .i64 0,.int .i64 0]) (sz:=3) (by_:=24) ⟨by kernel_rfl,by kernel_rfl⟩ (dd':=.int .i64) (z':=.int .i64 0) (k:=1) (by_':=8) ⟨by kernel_rfl,by kernel_rfl⟩ rfl rfl eq3
def i26:TI:=⟨.array 3 3,.agg #[.int .i64 0,.int .i64 0,.int .i64 0],3,24,[],t26,2,false⟩
theorem zJn:i26.ok prog 26:=yO ⟨by kernel_rfl,by kernel_rfl⟩ rfl (fun _=>⟨zKB,by decide,fun _=>by kernel_rfl⟩) (yd rfl)
def i28:=iS 107 t28
theorem zJm:i28.ok prog 28:=XC ⟨by kernel_rfl,by kernel_rfl⟩
def i30:TI:=⟨.struct (prog.fieldsOf 30),.agg #[.string ⟨#[]⟩,.slice none 0 0,.slice none 0 0],3,64,[(9,0,0),(28,1,0),(23,2,0)],t30,0,false⟩
theorem zJl:i30.ok prog 30:=jB ⟨by kernel_rfl,by kernel_rfl⟩ (⟨⟨by kernel_rfl,by kernel_rfl,by kernel_rfl⟩,⟨⟨by kernel_rfl,by kernel_rfl,by kernel_rfl⟩,⟨⟨by kernel_rfl,by kernel_rfl,by kernel_rfl⟩,trivial⟩⟩⟩) ⟨by kernel_rfl,fun w=>by kernel_rfl⟩ (ZM rfl) (yd rfl)
def i31:=iS 4 t31
theorem zJk:i31.ok prog 31:=XC ⟨by kernel_rfl,by kernel_rfl⟩
def i33:TI:=⟨.struct (prog.fieldsOf 33),.agg #[.slice none 0 0,.slice none 0 0,.slice none 0 0],3,72,[(31,0,0),(31,1,0),(28,2,0)],t33,0,false⟩
theorem zJj:i33.ok prog 33:=jB ⟨by kernel_rfl,by kernel_rfl⟩ (⟨⟨by kernel_rfl,by kernel_rfl,by kernel_rfl⟩,⟨⟨by kernel_rfl,by kernel_rfl,by kernel_rfl⟩,⟨⟨by kernel_rfl,by kernel_rfl,by kernel_rfl⟩,trivial⟩⟩⟩) ⟨by kernel_rfl,fun w=>by kernel_rfl⟩ (ZM rfl) (yd rfl)
def i34:=iS 62 t34
theorem zJi:i34.ok prog 34:=XC ⟨by kernel_rfl,by kernel_rfl⟩
def i36:TI:=⟨.struct (prog.fieldsOf 36),.agg #[.string ⟨#[]⟩,.slice none 0 0,.slice none 0 0,.slice none 0 0,.slice none 0 0,.slice none 0 0,.slice none 0 0],7,160,[(30,0,2),(33,3,2),(34,6,0)],t36,0,false⟩
theorem zJh:i36.ok prog 36:=jB ⟨by kernel_rfl,by kernel_rfl⟩ (⟨⟨by kernel_rfl,by kernel_rfl,by kernel_rfl⟩,⟨⟨by kernel_rfl,by kernel_rfl,by kernel_rfl⟩,⟨⟨by kernel_rfl,by kernel_rfl,by kernel_rfl⟩,trivial⟩⟩⟩) ⟨by kernel_rfl,fun w=>by kernel_rfl⟩ (ZM rfl) (yd rfl)
def i41:TI:=⟨.array 2 23,.agg #[.slice none 0 0,.slice none 0 0],2,48,[],t41,0,false⟩
theorem zJg:i41.ok prog 41:=yO ⟨by kernel_rfl,by kernel_rfl⟩ rfl (ZM rfl) (yd rfl)
theorem zKA:EqT prog 43 t43 1:=uh (z:=.int .i64 0) (sz:=1) (by_:=8) ⟨by kernel_rfl,by kernel_rfl⟩
def i43:TI:=⟨.int .i64,.int .i64 0,1,8,[],t43,1,false⟩
theorem zJf:i43.ok prog 43:=yO ⟨by kernel_rfl,by kernel_rfl⟩ rfl (fun _=>⟨zKA,by decide,fun _=>by kernel_rfl⟩) (yd rfl)
theorem zJz:EqT prog 48 t48 2:=Kl (z:=.agg #[.int .i64 0,.int .i64 0,.int .i64 0,.int .i64 0]) (sz:=4) (by_:=32) ⟨by kernel_rfl,by kernel_rfl⟩ (dd':=.int .i64) (z':=.int .i64 0) (k:=1) (by_':=8) ⟨by kernel_rfl,by kernel_rfl⟩ rfl rfl eq3
def i48:TI:=⟨.array 4 3,.agg #[.int .i64 0,.int .i64 0,.int .i64 0,.int .i64 0],4,32,[],t48,2,false⟩
theorem zJe:i48.ok prog 48:=yO ⟨by kernel_rfl,by kernel_rfl⟩ rfl (fun _=>⟨zJz,by decide,fun _=>by kernel_rfl⟩) (yd rfl)
def i62:TI:=⟨.struct (prog.fieldsOf 62),.agg #[.slice none 0 0,.slice none 0 0,.int .i64 0,.slice none 0 0],4,80,[(28,0,0),(28,1,0),(3,2,0),(23,3,0)],t62,0,false⟩
theorem zJd:i62.ok prog 62:=jB ⟨by kernel_rfl,by kernel_rfl⟩ (⟨⟨by kernel_rfl,by kernel_rfl,by kernel_rfl⟩,⟨⟨by kernel_rfl,by kernel_rfl,by kernel_rfl⟩,⟨⟨by kernel_rfl,by kernel_rfl,by kernel_rfl⟩,⟨⟨by kernel_rfl,by kernel_rfl,by kernel_rfl⟩,trivial⟩⟩⟩⟩) ⟨by kernel_rfl,fun w=>by kernel_rfl⟩ (ZM rfl) (yd rfl)
def i73:=iS 81 t73
theorem zJc:i73.ok prog 73:=XC ⟨by kernel_rfl,by kernel_rfl⟩
def i78:=iS 5 t78
theorem zJb:i78.ok prog 78:=XC ⟨by kernel_rfl,by kernel_rfl⟩
theorem zJy:EqT prog 81 t81 2:=YX (fs:=prog.fieldsOf 81) (z:=.agg #[.int .i64 0,.int .i64 0]) (sz:=2) (by_:=16) ⟨by kernel_rfl,by kernel_rfl⟩ rfl rfl (by kernel_rfl) (Jf (D:=1) (YY eq3 (XI _)) (by kernel_rfl))
def i81:TI:=⟨.struct (prog.fieldsOf 81),.agg #[.int .i64 0,.int .i64 0],2,16,[(3,0,0),(3,1,0)],t81,2,false⟩
theorem zJa:i81.ok prog 81:=jB ⟨by kernel_rfl,by kernel_rfl⟩ (⟨⟨by kernel_rfl,by kernel_rfl,by kernel_rfl⟩,⟨⟨by kernel_rfl,by kernel_rfl,by kernel_rfl⟩,trivial⟩⟩) ⟨by kernel_rfl,fun w=>by kernel_rfl⟩ (fun _=>⟨zJy,by decide,fun _=>by kernel_rfl⟩) (yd rfl)
def i85:TI:=⟨.struct (prog.fieldsOf 85),.agg #[.int .i64 0,.slice none 0 0],2,32,[(3,0,0),(73,1,0)],t85,0,false⟩
theorem zJZ:i85.ok prog 85:=jB ⟨by kernel_rfl,by kernel_rfl⟩ (⟨⟨by kernel_rfl,by kernel_rfl,by kernel_rfl⟩,⟨⟨by kernel_rfl,by kernel_rfl,by kernel_rfl⟩,trivial⟩⟩) ⟨by kernel_rfl,fun w=>by kernel_rfl⟩ (ZM rfl) (yd rfl)
def i87:=iS 85 t87
theorem zJY:i87.ok prog 87:=XC ⟨by kernel_rfl,by kernel_rfl⟩
theorem zAN:EqT prog 104 t104 2:=YX (fs:=prog.fieldsOf 104) (z:=.agg #[.int .i64 0,.int .i64 0,.int .i64 0]) (sz:=3) (by_:=24) ⟨by kernel_rfl,by kernel_rfl⟩ rfl rfl (by kernel_rfl) (Jf (D:=1) (YY eq3 (XI _)) (by kernel_rfl))
def zGu:TI:=⟨.struct (prog.fieldsOf 104),.agg #[.int .i64 0,.int .i64 0,.int .i64 0],3,24,[(3,0,0),(3,1,0),(3,2,0)],t104,2,false⟩
theorem zFh:zGu.ok prog 104:=jB ⟨by kernel_rfl,by kernel_rfl⟩ (⟨⟨by kernel_rfl,by kernel_rfl,by kernel_rfl⟩,⟨⟨by kernel_rfl,by kernel_rfl,by kernel_rfl⟩,⟨⟨by kernel_rfl,by kernel_rfl,by kernel_rfl⟩,trivial⟩⟩⟩) ⟨by kernel_rfl,fun w=>by kernel_rfl⟩ (fun _=>⟨zAN,by decide,fun _=>by kernel_rfl⟩) (yd rfl)
theorem zAM:EqT prog 106 t106 3:=YX (fs:=prog.fieldsOf 106) (z:=.agg #[.int .i64 0,.int .i64 0,.int .i64 0,.int .i64 0]) (sz:=4) (by_:=32) ⟨by kernel_rfl,by kernel_rfl⟩ rfl rfl (by kernel_rfl) (Jf (D:=2) (YY eq3 (YY zAN (XI _))) (by kernel_rfl))
def zEI:TI:=⟨.struct (prog.fieldsOf 106),.agg #[.int .i64 0,.int .i64 0,.int .i64 0,.int .i64 0],4,32,[(104,0,2),(3,3,0)],t106,3,false⟩
theorem zFg:zEI.ok prog 106:=jB ⟨by kernel_rfl,by kernel_rfl⟩ (⟨⟨by kernel_rfl,by kernel_rfl,by kernel_rfl⟩,⟨⟨by kernel_rfl,by kernel_rfl,by kernel_rfl⟩,trivial⟩⟩) ⟨by kernel_rfl,fun w=>by kernel_rfl⟩ (fun _=>⟨zAM,by decide,fun _=>by kernel_rfl⟩) (yd rfl)
def i107:=iS 106 t107
theorem zFf:i107.ok prog 107:=XC ⟨by kernel_rfl,by kernel_rfl⟩
def i117:TI:=⟨.func #[3] #[4] false,.nilFunc,1,8,[],t117,0,false⟩
theorem zFe:i117.ok prog 117:=yO ⟨by kernel_rfl,by kernel_rfl⟩ rfl (ZM rfl) (yd rfl)
def i130:TI:=⟨.struct (prog.fieldsOf 130),.agg #[.slice none 0 0,.int .i64 0],2,32,[(23,0,0),(3,1,0)],t130,0,false⟩
theorem zFd:i130.ok prog 130:=jB ⟨by kernel_rfl,by kernel_rfl⟩ (⟨⟨by kernel_rfl,by kernel_rfl,by kernel_rfl⟩,⟨⟨by kernel_rfl,by kernel_rfl,by kernel_rfl⟩,trivial⟩⟩) ⟨by kernel_rfl,fun w=>by kernel_rfl⟩ (ZM rfl) (yd rfl)
theorem zFu:EqT prog 136 t136 2:=Kl (z:=.agg #[.bool false,.bool false,.bool false,.bool false,.bool false,.bool false,.bool false,.bool false]) (sz:=8) (by_:=8) ⟨by kernel_rfl,by kernel_rfl⟩ (dd':=.bool) (z':=.bool false) (k:=1) (by_':=1) ⟨by kernel_rfl,by kernel_rfl⟩ rfl rfl eq4
def zGt:TI:=⟨.array 8 4,.agg #[.bool false,.bool false,.bool false,.bool false,.bool false,.bool false,.bool false,.bool false],8,8,[],t136,2,false⟩
theorem zFc:zGt.ok prog 136:=yO ⟨by kernel_rfl,by kernel_rfl⟩ rfl (fun _=>⟨zFu,by decide,fun _=>by kernel_rfl⟩) (yd rfl)
def zGs:TI:=⟨.struct (prog.fieldsOf 140),.agg #[.string ⟨#[]⟩,.slice none 0 0,.slice none 0 0,.slice none 0 0,.slice none 0 0,.slice none 0 0,.slice none 0 0,.bool false,.bool false,.bool false,.bool false,.bool false,.bool false,.bool false,.bool false],15,168,[(36,0,6),(136,7,7)],t140,0,false⟩
theorem zFb:zGs.ok prog 140:=jB ⟨by kernel_rfl,by kernel_rfl⟩ (⟨⟨by kernel_rfl,by kernel_rfl,by kernel_rfl⟩,⟨⟨by kernel_rfl,by kernel_rfl,by kernel_rfl⟩,trivial⟩⟩) ⟨by kernel_rfl,fun w=>by kernel_rfl⟩ (ZM rfl) (yd rfl)
def zGr:TI:=⟨.func #[3,136] #[] false,.nilFunc,1,8,[],t147,0,false⟩
theorem zFa:zGr.ok prog 147:=yO ⟨by kernel_rfl,by kernel_rfl⟩ rfl (ZM rfl) (yd rfl)
theorem zFt:EqT prog 156 t156 2:=YX (fs:=prog.fieldsOf 156) (z:=.agg #[]) (sz:=0) (by_:=0) ⟨by kernel_rfl,by kernel_rfl⟩ rfl rfl (by kernel_rfl) (Jf (D:=1) (XI _) (by kernel_rfl))
def zEH:TI:=⟨.struct (prog.fieldsOf 156),.agg #[],0,0,[],t156,2,false⟩
theorem zFZ:zEH.ok prog 156:=yO ⟨by kernel_rfl,by kernel_rfl⟩ rfl (fun _=>⟨zFt,by decide,fun _=>by kernel_rfl⟩) (yd rfl)
def zGq:TI:=⟨.func #[136,136] #[] false,.nilFunc,1,8,[],t158,0,false⟩
theorem zFY:zGq.ok prog 158:=yO ⟨by kernel_rfl,by kernel_rfl⟩ rfl (ZM rfl) (yd rfl)
def zGp:TI:=⟨.func #[107] #[4] false,.nilFunc,1,8,[],t166,0,false⟩
theorem zFX:zGp.ok prog 166:=yO ⟨by kernel_rfl,by kernel_rfl⟩ rfl (ZM rfl) (yd rfl)
def i173:TI:=⟨.func #[3,107] #[4] false,.nilFunc,1,8,[],t173,0,false⟩
theorem zFW:i173.ok prog 173:=yO ⟨by kernel_rfl,by kernel_rfl⟩ rfl (ZM rfl) (yd rfl)
def zGo:TI:=⟨.func #[3,136,136] #[] false,.nilFunc,1,8,[],t185,0,false⟩
theorem zFV:zGo.ok prog 185:=yO ⟨by kernel_rfl,by kernel_rfl⟩ rfl (ZM rfl) (yd rfl)
def zGn:=iS 106 t189
theorem zFU:zGn.ok prog 189:=XC ⟨by kernel_rfl,by kernel_rfl⟩
def zGm:=iS 28 t191
theorem zFT:zGm.ok prog 191:=XC ⟨by kernel_rfl,by kernel_rfl⟩
def i198:TI:=⟨.func #[106] #[4] false,.nilFunc,1,8,[],t198,0,false⟩
theorem zFS:i198.ok prog 198:=yO ⟨by kernel_rfl,by kernel_rfl⟩ rfl (ZM rfl) (yd rfl)
def zGl:=iS 104 t202
theorem zFR:zGl.ok prog 202:=XC ⟨by kernel_rfl,by kernel_rfl⟩
def i203:=iS 208 t203
theorem zFQ:i203.ok prog 203:=XC ⟨by kernel_rfl,by kernel_rfl⟩
theorem zAL:EqT prog 208 t208 2:=YX (fs:=prog.fieldsOf 208) (z:=.agg #[.int .i64 0,.int .i64 0,.int .i64 0,.int .i64 0]) (sz:=4) (by_:=32) ⟨by kernel_rfl,by kernel_rfl⟩ rfl rfl (by kernel_rfl) (Jf (D:=1) (YY eq3 (XI _)) (by kernel_rfl))
def i208:TI:=⟨.struct (prog.fieldsOf 208),.agg #[.int .i64 0,.int .i64 0,.int .i64 0,.int .i64 0],4,32,[(3,0,0),(3,1,0),(3,2,0),(3,3,0)],t208,2,true⟩
theorem zFP:i208.ok prog 208:=jB ⟨by kernel_rfl,by kernel_rfl⟩ (⟨⟨by kernel_rfl,by kernel_rfl,by kernel_rfl⟩,⟨⟨by kernel_rfl,by kernel_rfl,by kernel_rfl⟩,⟨⟨by kernel_rfl,by kernel_rfl,by kernel_rfl⟩,⟨⟨by kernel_rfl,by kernel_rfl,by kernel_rfl⟩,trivial⟩⟩⟩⟩) ⟨by kernel_rfl,fun w=>by kernel_rfl⟩ (fun _=>⟨zAL,by decide,fun _=>by kernel_rfl⟩) (fun _=>KeyB.agg zAL (by decide) rfl rfl (dd:=.struct (prog.fieldsOf 208)) (z:=.agg #[.int .i64 0,.int .i64 0,.int .i64 0,.int .i64 0]) (sz:=4) (by_:=32) ⟨by kernel_rfl,by kernel_rfl⟩ rfl (fun e x w=>by kernel_rfl))
def i210:TI:=⟨.func #[208] #[4] false,.nilFunc,1,8,[],t210,0,false⟩
theorem zFO:i210.ok prog 210:=yO ⟨by kernel_rfl,by kernel_rfl⟩ rfl (ZM rfl) (yd rfl)
def zGk:TI:=⟨.map 208 4,.map none,1,8,[],t220,0,false⟩
theorem zFN:zGk.ok prog 220:=yO ⟨by kernel_rfl,by kernel_rfl⟩ rfl (ZM rfl) (yd rfl)
theorem zFs:EqT prog 224 t224 4:=Kl (z:=.agg #[.int .i64 0,.int .i64 0,.int .i64 0,.int .i64 0,.int .i64 0,.int .i64 0,.int .i64 0,.int .i64 0,.int .i64 0,.int .i64 0,.int .i64 0,.int .i64 0]) (sz:=12) (by_:=96) ⟨by kernel_rfl,by kernel_rfl⟩ (dd':=.struct (prog.fieldsOf 106)) (z':=.agg #[.int .i64 0,.int .i64 0,.int .i64 0,.int .i64 0]) (k:=4) (by_':=32) ⟨by kernel_rfl,by kernel_rfl⟩ rfl rfl zAM
def zGj:TI:=⟨.array 3 106,.agg #[.int .i64 0,.int .i64 0,.int .i64 0,.int .i64 0,.int .i64 0,.int .i64 0,.int .i64 0,.int .i64 0,.int .i64 0,.int .i64 0,.int .i64 0,.int .i64 0],12,96,[],t224,4,false⟩
theorem zFM:zGj.ok prog 224:=yO ⟨by kernel_rfl,by kernel_rfl⟩ rfl (fun _=>⟨zFs,by decide,fun _=>by kernel_rfl⟩) (yd rfl)
def i233:TI:=⟨.func #[106,106] #[3] false,.nilFunc,1,8,[],t233,0,false⟩
theorem zFL:i233.ok prog 233:=yO ⟨by kernel_rfl,by kernel_rfl⟩ rfl (ZM rfl) (yd rfl)
theorem zFr:EqT prog 245 t245 1:=uh (z:=.int .u64 0) (sz:=1) (by_:=8) ⟨by kernel_rfl,by kernel_rfl⟩
def zGi:TI:=⟨.int .u64,.int .u64 0,1,8,[],t245,1,false⟩
theorem zFK:zGi.ok prog 245:=yO ⟨by kernel_rfl,by kernel_rfl⟩ rfl (fun _=>⟨zFr,by decide,fun _=>by kernel_rfl⟩) (yd rfl)
theorem zFq:EqT prog 246 t246 2:=Kl (z:=.agg #[.int .i64 0,.int .i64 0]) (sz:=2) (by_:=16) ⟨by kernel_rfl,by kernel_rfl⟩ (dd':=.int .i64) (z':=.int .i64 0) (k:=1) (by_':=8) ⟨by kernel_rfl,by kernel_rfl⟩ rfl rfl eq3
def zGh:TI:=⟨.array 2 3,.agg #[.int .i64 0,.int .i64 0],2,16,[],t246,2,false⟩
theorem zFJ:zGh.ok prog 246:=yO ⟨by kernel_rfl,by kernel_rfl⟩ rfl (fun _=>⟨zFq,by decide,fun _=>by kernel_rfl⟩) (yd rfl)
def zGg:=iS 246 t247
theorem zFI:zGg.ok prog 247:=XC ⟨by kernel_rfl,by kernel_rfl⟩
def T:TE:=[(3,i3),(4,i4),(5,i5),(9,i9),(22,i22),(23,i23),(26,i26),(28,i28),(30,i30),(31,i31),(33,i33),(34,i34),(36,i36),(41,i41),(43,i43),(48,i48),(62,i62),(73,i73),(78,i78),(81,i81),(85,i85),(87,i87),(104,zGu),(106,zEI),(107,i107),(117,i117),(130,i130),(136,zGt),(140,zGs),(147,zGr),(156,zEH),(158,zGq),(166,zGp),(173,i173),(185,zGo),(189,zGn),(191,zGm),(198,i198),(202,zGl),(203,i203),(208,i208),(210,i210),(220,zGk),(224,zGj),(233,i233),(245,zGi),(246,zGh),(247,zGg)]
theorem Wj:TOk prog T:=zW ok3 (zW ok4 (zW ok5 (zW ok9 (zW zJp (zW zJo (zW zJn (zW zJm (zW zJl (zW zJk (zW zJj (zW zJi (zW zJh (zW zJg (zW zJf (zW zJe (zW zJd (zW zJc (zW zJb (zW zJa (zW zJZ (zW zJY (zW zFh (zW zFg (zW zFf (zW zFe (zW zFd (zW zFc (zW zFb (zW zFa (zW zFZ (zW zFY (zW zFX (zW zFW (zW zFV (zW zFU (zW zFT (zW zFS (zW zFR (zW zFQ (zW zFP (zW zFO (zW zFN (zW zFM (zW zFL (zW zFK (zW zFJ (zW zFI (UI _))))))))))))))))))))))))))))))))))))))))))))))))
theorem E0:EK prog T [] [] [] [] [] []:=e0 Wj mixed
end Go.Dn
end
section
namespace Go.Up
open Go
def EG(d:Nat){β:Type}(e:Except String (World×β)):Prop:=∀r,e=.ok r->r.1.drawn=d
theorem EG.bind{d:Nat}{α β:Type}{x:Except String α}{f:α->Except String (World×β)}(h:∀a,EG d (f a)):EG d (x >>= f):=by
 intro r hr
 cases x with
 |error e=>cases hr
 |ok a=>exact h a r hr
theorem EG.throw{d:Nat}{β:Type}{s:String}:EG d (MonadExcept.throw s:Except String (World×β)):=fun r hr=>by cases hr
theorem pN(p:Program)(w:World)(a:Addr)(u:TypeId)(k:Addr)(v:Value)(b:Bool):EG w.drawn (w.viewStore p a u k v b):=by
 unfold World.viewStore;dsimp only
 repeat' first
  |exact EG.throw
  |exact EG.error
  |(intro r hr;cases hr;rfl)
  |refine EG.bind fun _=>?_
  |split
theorem Iq(w:World)(a:Addr)(n:Nat):(w.freeze a n).drawn=w.drawn:=by unfold World.freeze;split<;>rfl
theorem zDa{α:Type}(k:Ask α):∀(w:World),w.drawn<=(w.ask k).2.drawn:=by
 induction k with
 |done a=>intro w;exact zKW _
 |ask what range k ih =>
  intro w;unfold World.ask;simp only[];split
  ·exact ih _ _
  ·exact zKb (zKf _) (ih _ { w with drawn:=w.drawn+1 })
theorem zAY(w:World)(c:Sys):w.drawn<=(w.sys c).2.drawn:=by
 unfold World.sys;have h:=zDa (Kernel.perform c w.os) w
 split
 ·exact zKW _
 ·rename_i r os w' fG
  rw[fG]at h;exact h
def RU(d:Nat){α:Type}:Result α->Prop
 |.ok _ w=>d<=w.drawn
 |.halt _ w=>d<=w.drawn
theorem RU.le{d d':Nat}{α:Type}{r:Result α}(h:RU d r)(hd:d'<=d):RU d' r:=by
 cases r<;>exact zKb hd h
theorem AJ{p:Program}{w w':World}{a:Addr}{v:Value}{b:Bool}{l:List Addr}(h:w.farStore p a v b=.ok (w',l)):w'.drawn=w.drawn:=by
 unfold World.farStore at h;split at h
 ·split at h
  ·rename_i r hr
   cases h
   exact pN _ _ _ _ _ _ _ _ hr
  ·cases h
 ·cases h
theorem mw{α:Type}(p:Program)(e:Sem α):∀w:World,RU w.drawn (e.run p w):=by
 induction e with
 |pure a=>intro w;exact zKW _
 |load m a k ih =>
  intro w;simp only[Sem.run];split
  ·exact ih _ _
  ·split
   ·exact ih _ _
   ·exact zKW _
 |store m a v k ih =>
  intro w
  have key:RU w.drawn (match w.cell? a with
   |some _=>if w.frozen? a then .halt (.unsupported (.unsafePointer "a write to bytes that a string shares")) w else k.run p (w.setCell a v)
   |none=>match w.farStore p a v (m == .atomic) with
    |.ok (w,_)=>k.run p w
    |.error h=>.halt h w):=by
   split
   ·split
    ·exact zKW _
    ·exact(ih (w.setCell a v)).le (by unfold World.setCell;exact zKW _)
   ·split
    ·rename_i w' l hw
     exact(ih _).le (by rw[AJ hw];exact zKW _)
    ·exact zKW _
  cases v<;>first|exact key|exact zKW _
 |new o k ih=>intro w;exact ih _ { w with heap:=w.heap.push o }
 |shape r k ih=>intro w;exact ih _ _
 |freeze a n k ih=>intro w;exact(ih (w.freeze a n)).le (by rw[Iq];exact zKW _)
 |frozen a k ih=>intro w;exact ih _ _
 |getObj r k ih =>
  intro w;simp only[Sem.run];split
  ·exact zKW _
  ·exact ih _ _
  ·exact zKW _
 |setObj r o k ih =>
  intro w;simp only[Sem.run];split
  ·exact zKW _
  ·exact ih { w with heap:=w.heap.setIfInBounds r o }
  ·exact zKW _
 |choose q k ih =>
  intro w;simp only[Sem.run];split
  ·exact ih _ _
  ·exact(ih _ { w with drawn:=w.drawn+1 }).le (zKf _)
 |sys c k ih=>intro w;exact(ih _ _).le (zAY w c)
 |program k ih=>intro w;exact ih _ _
 |mark m k ih=>intro w;exact ih _
 |halt h=>intro w;exact zKW _
theorem E6{α:Type}(p:Program)(e:Sem α)(w:World)(es:Array Event):RU w.drawn (e.runT p w es).1:=by
 rw[Sem.runT_fst];exact mw p e w
theorem km{α:Type}{p:Program}{e:Sem α}{w w':World}{a:α}(h:e.run p w=.ok a w'):w.drawn<=w'.drawn:=by
 have:=mw p e w;rw[h]at this;exact this
theorem UG{α:Type}{p:Program}{e:Sem α}{w w':World}{a:Halt}(h:e.run p w=.halt a w'):w.drawn<=w'.drawn:=by
 have:=mw p e w;rw[h]at this;exact this
def GU(d:Nat):GStep->Prop
 |.go _ w _|.comm _ _ _ _ w _|.spawn _ _ w _|.count _ w _|.timer _ _ w _|.alone _ _ w _|.newcoro _ _ _ w _|.coroswitch _ _ _ w _|.collect _ w _|.watch _ w _=>d<=w.drawn
 |.ended _ _ _=>True
theorem GU.le{d d':Nat}{s:GStep}(h:GU d s)(hd:d'<=d):GU d' s:=by
 cases s<;>first|exact zKb hd h|trivial
theorem GU.after{d:Nat}{es:Array Event}{s:GStep}(h:GU d s):GU d (GStep.after es s):=by
 cases s<;>exact h
theorem Nw(fr:Frame)(a:List ByteArray)(m:String)(b:Bool)(w:World):GU w.drawn (dieOf fr a m b w):=zKW _
theorem Zh(fr:Frame)(m:String)(w:World):GU w.drawn (endThrow fr m w):=zKW _
theorem Xw(p:Program)(fr:Frame)(v:Value)(w:World):GU w.drawn (endPrinting p fr v w):=by
 unfold endPrinting;dsimp only;split
 ·exact Zh _ _ _
 ·trivial
theorem DT(w:World)(fd:Nat)(t:ByteArray)(o:Outcome):GU w.drawn (endWith w fd t o):=by
 unfold endWith;dsimp only;split
 ·split<;>trivial
 ·trivial
 ·trivial
theorem wW(p:Program)(fr:Frame)(callers:List Frame)(dying:Option Dying)(m:String)(w:World):GU w.drawn (endFatal p fr callers dying m w):=by
 unfold endFatal;dsimp only;split
 ·rename_i h;exact(Nw _ _ _ _ _).le (km h)
 ·trivial
 ·trivial
theorem Ks{α:Type}{p:Program}{e:Sem α}{w:World}{es:Array Event}{r:Result α×Array Event}(h:e.runT p w es=r):RU w.drawn r.1:=by rw[<-h];exact E6 p e w es
theorem Ck(p:Program)(fr:Frame)(d:Dying)(f:Fatal)(w:World):GU w.drawn (writeOn p fr d f w):=by
 unfold writeOn;dsimp only;split
 ·trivial
 ·split
  ·rename_i h;exact Ks h
  ·rename_i h;exact Ks h
  ·trivial
  ·trivial
theorem Yy(p:Program)(main:Bool)(fr:Frame)(callers:List Frame)(dying:Option Dying)(v:Value)(w:World):GU w.drawn (doReturn p main fr callers dying v w):=by
 unfold doReturn;split
 ·split<;>exact zKW _
 ·split
  ·exact zKW _
  ·trivial
  ·split
   ·exact zKW _
   ·split
    ·exact zKW _
    ·trivial
theorem zDS(p:Program)(fr:Frame)(d:Dying)(w:World):GU w.drawn (die p fr d w):=by
 unfold die;dsimp only;split
 ·exact Ck _ _ _ _ _
 ·split
  ·split
   ·exact zKW _
   ·exact DT _ _ _ _
  ·split
   ·exact zKW _
   ·split
    ·rename_i h;exact km h
    ·trivial
   ·refine GU.after ?_
    generalize hr:(Sem.runT p _ w #[])=r;have h:=Ks hr
    clear hr;split<;>rename_i h'<;>first|trivial|skip
    ·rw[h']at h;exact h
    ·rw[h']at h;exact h
    ·rw[h']at h;exact(Xw _ _ _ _).le h
   ·trivial
theorem GU.ite{d:Nat}{p:Prop}[Decidable p]{a b:GStep}(h1:GU d a)(h2:GU d b):GU d (if p then a else b):=by split<;>assumption
theorem uA(p:Program)(fr:Frame)(callers:List Frame)(dying:Option Dying)(d:Deferred)(w:World):GU w.drawn (callDeferred p fr callers dying d w):=by
 unfold callDeferred;refine GU.ite trivial ?_;dsimp only;refine GU.after ?_;generalize hr:(Sem.runT p _ w #[])=r;have h:=Ks hr
 clear hr;split<;>rename_i h'<;>rw[h']at h<;>first
  |trivial
  |exact h
  |exact(wW _ _ _ _ _ _).le h
  |exact(Zh _ _ _).le h
  |(split<;>exact h)
theorem H1(p:Program)(main:Bool)(fr:Frame)(callers:List Frame)(dying:Option Dying)(w:World):GU w.drawn (unwind p main fr callers dying w):=by
 unfold unwind;split
 ·dsimp only
  refine GU.after ?_;generalize hr:(Sem.runT p _ w #[])=r;have h:=Ks hr
  clear hr;split<;>rename_i h'<;>rw[h']at h<;>first|trivial|exact h
 ·exact uA _ _ _ _ _ _
 ·split
  ·trivial
  ·split
   ·trivial
   ·split
    ·exact zKW _
    ·split
     ·split
      ·exact zKW _
      ·split
       ·rename_i h;exact km h
       ·trivial
       ·trivial
     ·split
      ·exact Xw _ _ _ _
      ·trivial
  ·split
   ·exact Yy _ _ _ _ _ _ _
   ·dsimp only
    refine GU.after ?_;generalize hr:(Sem.runT p _ w #[])=r;have h:=Ks hr
    clear hr;split<;>rename_i h'<;>rw[h']at h<;>first|trivial|exact(Yy _ _ _ _ _ _ _).le h
theorem Nu(p:Program)(fr:Frame)(callers:List Frame)(dying:Option Dying)(g:Nat)(w:World):GU w.drawn (early p fr callers dying g w):=by
 have nY:∀w':World,w.drawn<=w'.drawn->GU w.drawn (match w'.heap[g]? with
  |some (.pending c elem)=>GStep.go { frame:=fr,callers,status:=.running,dying } { w' with heap:=w'.heap.setIfInBounds g (.cells c elem) }
  |_=>.ended (.stuck "early: the variable does not wait" (fr.pos p)) w'):=by
  intro w' h;split
  ·exact h
  ·trivial
 unfold early;dsimp only
 repeat' first
  |exact nY _ (zKW _)
  |trivial
  |exact zKW _
  |(rename_i h;exact nY _ (km h))
  |(rename_i h;exact km h)
  |split
theorem KZ(p:Program)(listen:Bool)(fr:Frame)(callers:List Frame)(dying:Option Dying)(s:Sem Next)(w:World):GU w.drawn (stepG.apply p listen fr callers dying s w):=by
 unfold stepG.apply;dsimp only;refine GU.after ?_;have h:RU w.drawn (if listen then s.runT p w #[] else (s.run p w,#[])).1:=by
  split
  ·exact E6 _ _ _ _
  ·exact mw _ _ _
 generalize (if listen then s.runT p w #[] else (s.run p w,#[]))=r at h
 clear s;split<;>rename_i h'<;>rw[h']at h<;>first
  |trivial
  |exact h
  |exact(wW _ _ _ _ _ _).le h
  |exact(Zh _ _ _).le h
  |exact(Nu _ _ _ _ _ _).le h
  |exact GU.ite ((Zh _ _ _).le h) h
  |(split<;>first|exact h|exact(Zh _ _ _).le h)
theorem Uo(p:Program)(listen:Bool)(fr:Frame)(callers:List Frame)(dying:Option Dying)(w:World):GU w.drawn (stepG.oper p listen fr callers dying w):=by
 unfold stepG.oper;split
 ·trivial
 ·split<;>exact KZ _ _ _ _ _ _ _
theorem GU.elim{d:Nat}{α:Type}{o:Option α}{a:GStep}{f:α->GStep}(h1:GU d a)(h2:∀x,GU d (f x)):GU d (o.elim a f):=by
 cases o
 ·exact h1
 ·exact h2 _
theorem VQ(p:Program)(main:Bool)(listen:Bool)(fr:Frame)(callers:List Frame)(dying:Option Dying)(w:World):GU w.drawn (stepG.exec p main listen fr callers dying w):=by
 unfold stepG.exec;dsimp only;split
 all_goals first
  |exact zKW _
  |trivial
  |exact KZ _ _ _ _ _ _ _
  |(refine GU.elim ?_ (fun _=>zKW _);split;exact GU.ite (zKW _) trivial;refine GU.after ?_;generalize hr:(Sem.runT _ _ _ #[])=r;have h:=Ks hr;clear hr;split<;>rename_i h'<;>rw[h']at h<;>first|trivial|exact(Yy _ _ _ _ _ _ _).le h)
  |(refine GU.elim trivial fun _=>KZ _ _ _ _ _ _ _;done)
  |(split;exact GU.ite (zKW _) trivial;refine GU.after ?_;generalize hr:(Sem.runT _ _ _ #[])=r;have h:=Ks hr;clear hr;split<;>rename_i h'<;>rw[h']at h<;>first|trivial|exact(Yy _ _ _ _ _ _ _).le h)
  |(refine GU.ite (Uo _ _ _ _ _ _) (zKW _);done)
  |(refine GU.ite (zKW _) ?_;split<;>rename_i h<;>first|trivial|exact km h)
  |(refine GU.after ?_;generalize hr:(Sem.runT p _ w #[])=r;have h:=Ks hr;clear hr;split<;>rename_i h'<;>rw[h']at h<;>first|trivial|exact h|exact(KZ _ _ _ _ _ _ _).le h)
  |(split<;>first|exact zKW _|trivial)
theorem Me(p:Program)(main:Bool)(g:Goroutine)(w:World)(listen:Bool):GU w.drawn (stepG p main g w listen):=by
 unfold stepG;dsimp only;split
 ·exact zDS _ _ _ _
 ·exact VQ _ _ _ _ _ _ _
 ·exact H1 _ _ _ _ _ _
def SU(d:Nat):Stepped->Prop
 |.next m=>d<=m.world.drawn
 |.ended _ _=>True
theorem SU.le{d d':Nat}{s:Stepped}(h:SU d s)(hd:d'<=d):SU d' s:=by
 cases s<;>first|exact zKb hd h|trivial
theorem SU.ite{d:Nat}{p:Prop}[Decidable p]{a b:Stepped}(h1:SU d a)(h2:SU d b):SU d (if p then a else b):=by split<;>assumption
theorem SU.zEG{d:Nat}{β:Type}{p:Prop}[Decidable p]{a b:Stepped×β}(h1:SU d a.1)(h2:SU d b.1):SU d (if p then a else b).1:=by split<;>assumption
theorem GX(p:Program)(gs:Array Goroutine)(rest:Rest)(w:World):SU w.drawn (look p gs rest w):=by
 unfold look;dsimp only;split
 ·refine SU.ite trivial ?_
  split
  ·trivial
  ·split<;>rename_i h<;>first
    |trivial
    |(have h1:=km h;exact h1)
 ·trivial
theorem pM{rest:Rest}{cases:Array CommCase}{w w':World}(h:waitingAt rest cases w=some w'):w'.drawn=w.drawn:=by
 unfold waitingAt at h;split at h
 ·split at h<;>cases h;rfl
 ·cases h;rfl
theorem u4(p:Program)(rest:Rest)(gs:Array Goroutine)(i:Nat)(g:Goroutine)(cases:Array CommCase)(blocking:Bool)(shape:CommShape)(w:World):SU w.drawn (communicate p rest gs i g cases blocking shape w).1:=by
 unfold communicate;dsimp only;refine SU.zEG trivial (SU.zEG (SU.zEG ?_ (zKW _)) ?_)
 ·split
  ·rename_i h;show _<=_;rw[pM h];exact zKW _
  ·trivial
 ·split
  ·trivial
  ·rename_i h
   have hu:=km h;clear h;split
   ·split
    ·rename_i h2;exact zKb hu (UG h2)
    ·trivial
   ·exact hu
   ·exact hu
   ·split
    ·exact hu
    ·split
     ·rename_i h2
      have h3:=zKb hu (km h2);exact h3
     ·trivial
   ·exact hu
   ·exact hu
   ·trivial
theorem Nv(w:World)(c:Nat):(drain w c).2.drawn=w.drawn:=by unfold drain;split<;>rfl
theorem rR(m:Machine)(k:Nat)(t:Timer)(a b:Nat):(retime m k t a b).2.world.drawn=m.world.drawn:=by
 unfold retime;dsimp only;split
 ·exact Nv _ _
 ·rfl
theorem IM{m m':Machine}{v:Addr}(h:timerOp.opened m v=some m'):m'.world.drawn=m.world.drawn:=by
 unfold timerOp.opened at h;split at h
 ·split at h<;>cases h;rfl
 ·cases h;rfl
theorem BE{m m1 m':Machine}{v:Addr}{f:Nat->Timer->Value×Machine}{u:Value}(hf:∀k t,(f k t).2.world.drawn=m1.world.drawn)(h:timerOp.named m v f=.ok (u,m')):m'.world.drawn=m1.world.drawn:=by
 unfold timerOp.named at h;split at h
 ·rename_i k hk
  have h3:=hf k (m.rest.timers.getD k default);injection h with h;rw[h]at h3;exact h3
 ·cases h
theorem Cn{m m':Machine}{op:TimerOp}{v:Value}(h:timerOp m op=.ok (v,m')):m'.world.drawn=m.world.drawn:=by
 unfold timerOp at h;split at h
 ·split at h
  ·cases h;rfl
  ·split at h
   ·split at h
    ·cases h
    ·cases h;rfl
   ·cases h
 ·exact BE (fun k t=>rR _ _ _ _ _) h
 ·split at h
  ·rename_i h1
   have:=BE (m1:=_) (fun k t=>rR _ _ _ _ _) h
   rw[this];exact IM h1
  ·cases h
 ·cases h;rfl
theorem IB(p:Program)(m:Machine)(i:Nat)(listen:Bool):SU m.world.drawn (runT p m i listen).1:=by
 unfold runT;dsimp only;have h:=Me p (i == 0) (m.gs.swapAt! i { (default:Goroutine) with status:=.finished }).1 m.world listen
 generalize stepG p (i == 0) (m.gs.swapAt! i { (default:Goroutine) with status:=.finished }).1 m.world listen=s at h
 cases s with
 |ended=>trivial
 |comm=>exact(u4 _ _ _ _ _ _ _ _ _).le h
 |go=>exact h
 |spawn=>exact h
 |count=>exact SU.ite trivial h
 |alone=>exact h
 |collect=>exact(GX _ _ _ _).le h
 |watch=>exact h
 |newcoro=>exact h
 |coroswitch g c exit w es =>
  dsimp only;split
  ·exact h
  ·exact h
  ·trivial
 |timer g op w es =>
  dsimp only;split
  ·rename_i h2
   have h3:=Cn h2;show _<=_
   rw[h3];exact h
  ·exact h
  ·trivial
  ·trivial
theorem Mw(p:Program)(m:Machine)(k:Nat):SU m.world.drawn (serve p m k):=by
 unfold serve;dsimp only;split
 ·trivial
 ·exact zKW _
 ·split
  ·trivial
  ·exact zKW _
def VU(d:Nat):Move->Prop
 |.goroutine m _=>d<=m.world.drawn
 |.machine s _=>SU d s
theorem VU.le{d d':Nat}{s:Move}(h:VU d s)(hd:d'<=d):VU d' s:=by
 cases s with
 |goroutine m i=>exact zKb hd h
 |machine s ops=>exact SU.le h hd
theorem VU.ite{d:Nat}{p:Prop}[Decidable p]{a b:Move}(h1:VU d a)(h2:VU d b):VU d (if p then a else b):=by split<;>assumption
theorem qO(p:Program)(m:Machine):VU m.world.drawn (askOn p m):=by
 unfold askOn;dsimp only;split
 ·trivial
 ·rename_i h
  have hu:=km h;clear h;refine VU.ite ((Mw _ _ _).le hu) ?_;split
  ·split
   ·exact hu
   ·refine VU.ite hu ?_
    split<;>trivial
  ·split
   ·split
    ·trivial
    ·rename_i h
     have h1:=km h;refine VU.ite (zKb hu h1) ?_;split
     ·trivial
     ·rename_i h;have h2:=km h;exact zKb hu (zKb h1 h2)
   ·split
    ·trivial
    ·rename_i h
     have h0:=km h;split
     ·trivial
     ·rename_i h
      have h1:=km h;refine VU.ite (zKb hu (zKb h0 h1)) ?_;split
      ·trivial
      ·rename_i h;have h2:=km h;exact zKb hu (zKb h0 (zKb h1 h2))
    ·rename_i h
     have h0:=km h;exact zKb hu h0
    ·rename_i h
     have h0:=km h;split
     ·trivial
     ·rename_i h
      have h1:=km h;refine VU.ite (zKb hu (zKb h0 h1)) ?_;split
      ·trivial
      ·rename_i h;have h2:=km h;exact zKb hu (zKb h0 (zKb h1 h2))
theorem B3(p:Program)(m:Machine):VU m.world.drawn (ask p m):=by
 unfold ask;split
 ·split
  ·trivial
  ·rename_i h
   have h1:=km h;have h2:=GX p m.gs m.rest ‹World›
   split
   ·rename_i m' h3;rw[h3]at h2;exact(qO _ _).le (zKb h1 h2)
   ·exact h2.le h1
  ·rename_i h
   have h1:=km h;exact(qO _ _).le h1
 ·exact qO _ _
theorem VH(p:Program)(m:Machine):VU m.world.drawn (move p m):=by
 unfold move;split
 ·exact VU.ite (zKW _) trivial
 ·split
  ·exact VU.ite (zKW _) (B3 p _)
  ·exact B3 p m
theorem UP{p:Program}{m m':Machine}(h:step p m=.next m'):m.world.drawn<=m'.world.drawn:=by
 unfold step stepT at h;have h1:=VH p m
 split at h
 ·rename_i h2
  rw[h2]at h1;have h3:=IB p ‹Machine› ‹Nat› true
  rw[h]at h3;exact zKb h1 h3
 ·rename_i h2
  rw[h2]at h1;dsimp only at h;rw[h]at h1;exact h1
theorem Ub{p:Program}{n:Nat}:∀ {m m':Machine},runN p n m=.next m'->m.world.drawn<=m'.world.drawn:=by
 induction n with
 |zero=>intro m m' h;cases h;exact zKW _
 |succ n ih =>
  intro m m' h;unfold runN at h;split at h
  ·rename_i h1;exact zKb (UP h1) (ih h)
  ·rename_i h1;exact zKk h (h1 _)
theorem Bw{P:Program}{f:FuncId}{args:Array Value}{w:World}{R:Ending->World->Prop}(h:Calls P f args w R):Calls P f args w fun e w'=>R e w'/\(∀v,e=.returned v->w.drawn<=w'.drawn):=by
 intro cs;obtain⟨e,w',fr,h1,h2,h3⟩:=h cs;refine⟨e,w',fr,⟨h1,?_⟩,h2,h3⟩;rintro v rfl;obtain⟨n,hn⟩:=h2;exact Ub hn
end Go.Up
#print axioms Go.Up.Bw
end
section
namespace Go.Den
open Go Go.RowKit Go.Eng Go.Lift
open Go.Sort (SWO grow ahead putRow Holds HoldsK flatK putRowK)
open Go.Proofs (ltOf CmpLays sortWorldK)
theorem qK:∀ {t:Ty},t.nar=true->∀x:t.D,(jd t x).length=t.sz:=by
 intro t
 induction t with
 |int k=>intro _ x;rfl
 |bool=>intro _ x;rfl
 |str=>intro _ x;rfl
 |nil=>intro _ x;rfl
 |cons a b iha ihb =>
  intro h x;simp only[Ty.nar,zKU]at h;simp only[jd,zKV,iha h.1,ihb h.2,Ty.sz]
 |_=>intro h;cases h
theorem Nt:∀ {t:Ty},t.nar=true->∀x:t.D,∀v∈jd t x,v.oneCell'=true:=by
 intro t h x v hv;have:=Gk (mB h) v hv
 cases v<;>first|rfl|cases this
theorem Nq{w w':World}(h:Ext w w')(hd:w.drawn<=w'.drawn):∃q os,w'=grow (w.drewN q) os:=by
 refine⟨w'.drawn-w.drawn,w'.heap.extract w.heap.size w'.heap.size,?_⟩;have h1:=h.os
 have h2:=h.tape;have h3:=h.output
 have h4:=h.size;have h5:=h.block
 obtain⟨hp,tp,dr,os,ou⟩:=w;obtain⟨hp',tp',dr',os',ou'⟩:=w';simp only at h1 h2 h3 h4 h5 hd;subst h1 h2 h3;unfold grow World.drewN;simp only
 congr 1
 ·apply Array.ext_getElem?
  intro i;by_cases hi:i<hp.size
  ·rw[Array.getElem?_append_left hi];exact h5 i hi
  ·rw[Array.getElem?_append_right (by omega),Array.getElem?_extract]
   by_cases h6:i<hp'.size
   ·rw[zKu (by omega)];congr 1;omega
   ·rw[zKv (by omega),Array.getElem?_eq_none (by omega)]
 ·omega
theorem N2{P:Program}{e:Ty}(hn:e.nar=true)(ha:e.agg=true)[Inhabited e.D]{cf:e.D->e.D->Int}{F:e.D×e.D×Unit->Comp (Int×Unit)}(hF:∀x y,∃n,(F (x,y,())).run n=some (cf x y,()))
  {O:zS} {w:World} (hO:OkO O w) {g:Nat} {cb:Array Value} (hg:FnOk P g)
  (h4:∀O' w',OkO O' w'->za 0 O w O' w'->∀vs x,(Ty.cons e (.cons e .nil)).args P O' w' vs x->∀n y,(F x).run n=some y->Ht P (.func (.func g) #[] cb) vs.toArray w' (fun w'' v=>∃rs,kQ rs v/\(Ty.cons (.int .i64) .nil).args P O' w'' rs y))
  {b:Nat} (hb:b<w.heap.size) (cJ:O b≠0) (size:Nat):CmpLays P g cb (jd e) e.sz cf b 0 size w:=by
 intro m os dk hdk x y;obtain⟨n,hn'⟩:=hF x y;have fZ:w.heap.size<=(sortWorldK (jd e) e.sz w b 0 m dk os).heap.size:=by simp[sortWorldK,grow,putRowK,putRow,Go.Sort.mapBlock,ahead]
 have cP:∀c,c<w.heap.size->c≠b->(sortWorldK (jd e) e.sz w b 0 m dk os).heap[c]?=w.heap[c]?:=by
  intro c hc fB;unfold sortWorldK;rw[Go.Sort.heap_grow_old _ _ (by simpa[putRowK,putRow,Go.Sort.mapBlock,ahead] using hc)]
  simp[putRowK,putRow,Go.Sort.mapBlock,ahead,Array.getElem?_modify,Ne.symm fB]
 have hk:za 0 O w O (sortWorldK (jd e) e.sz w b 0 m dk os):=⟨fZ,fun c hc h0=>⟨h0,cP c hc (fun e=>cJ (e ▸ h0))⟩⟩
 have ho:OkO O (sortWorldK (jd e) e.sz w b 0 m dk os):=fun c hc=>hO c (by omega)
 have hv:∀x:e.D,(e.gr P).v O (sortWorldK (jd e) e.sz w b 0 m dk os) (.agg (jd e x).toArray) x:=fun x=>⟨_,uS hn x,by rw[Ty.jK,ha];rfl⟩
 obtain⟨f,ys,h5,h6⟩:=h4 O _ ho hk [.agg (jd e x).toArray,.agg (jd e y).toArray] (x,y,()) ⟨_,_,rfl,hv x,_,_,rfl,hv y,rfl⟩ n _ hn';obtain⟨fn,g1,g2,g3⟩:=hg.h;simp only[Deferred.ofValue,Sem.run_bind,Sem.run_pure,Result.andThen,invoke,callFunc,run_program,g1]at h5;simp[g2,g3]at h5;obtain⟨rfl,rfl⟩:=h5;refine Calls.mono (Go.Up.Bw h6) ?_;rintro e' w' ⟨⟨v,rfl,hE,rs,ht,v1,bT,rfl,hv1,sX⟩,hd⟩
 obtain⟨cs,eH,aB⟩:=hv1;rw[show cs=[Value.int .i64 (cf x y)] from eH]at aB
 have hvs':bT=[]:=sX;subst hvs';refine⟨?_,Nq hE (hd _ rfl)⟩;rcases ht with ht|ht
 ·cases ht
 ·rw[ht];show Ending.returned v1=_;rw[aB];rfl
theorem tQ{e:Ty}(ha:e.agg=true)(x:e.D):(gq e x).cells=(jd e x).toArray:=by unfold gq;rw[ha];rfl
theorem Ao{e:Ty}(hn:e.nar=true){P:Program}{O:zS}{w:World}:∀ {vs:List Value} {xs:List e.D},yu (e.gr P) O w vs xs->vs=xs.map (gq e)
 | [],[],_=>rfl
 |v::vs,x::xs,h=>by rw[List.map_cons,<-Ao hn h.2,SK (mB hn) h.1]
 | [],_::_,h=>h.elim
 |_::_,[],h=>h.elim
theorem rS{e:Ty}(hn:e.nar=true){P:Program}{O:zS}{w:World}:∀(xs:List e.D),yu (e.gr P) O w (xs.map (gq e)) xs
 | []=>trivial
 |x::xs=>⟨⟨_,uS hn x,by rw[Ty.jK];rfl⟩,rS hn xs⟩
section enc
variable {e:Ty} (hn:e.nar=true) (ha:e.agg=true)
include hn ha
theorem Ir(x:e.D):(gq e x).cells.size=e.sz:=by rw[tQ ha];simp[qK hn]
theorem lI(xs:List e.D):∀v∈xs.map (gq e),v.cells.size=e.sz:=by
 intro v hv;obtain⟨x,_,rfl⟩:=List.mem_map.1 hv;exact Ir hn ha x
theorem Bb [Inhabited e.D](xs:List e.D){t:Nat}(ht:t<xs.length * e.sz):(flat (xs.map (gq e)))[t]?=some ((flatK (jd e) e.sz xs.toArray)[t]!):=by
 have h0:0<e.sz:=Nat.pos_of_ne_zero fun h=>by rw[h]at ht;omega
 have hq:t / e.sz<xs.length:=Nat.div_lt_of_lt_mul (by rw[Nat.mul_comm];exact ht)
 have hr:t % e.sz<e.sz:=Nat.mod_lt _ h0;rw[Go.Sort.get_flatK _ _ _ _ (by simpa using ht)]
 have h1:=Zo (lI hn ha xs) (t / e.sz) (gq e xs[t / e.sz]) (by simp[hq]) (t % e.sz) hr
 rw[show t / e.sz * e.sz+t % e.sz=t from Nat.div_add_mod' t e.sz]at h1
 rw[h1,tQ ha];have h2:t % e.sz<(jd e xs[t / e.sz]).length:=by rw[qK hn];exact hr
 simp[hq,h2]
theorem DQ [Inhabited e.D](xs:List e.D):(flatK (jd e) e.sz xs.toArray).toList=flat (xs.map (gq e)):=by
 apply List.ext_getElem?;intro t;by_cases ht:t<xs.length * e.sz
 ·rw[Bb hn ha xs ht,Array.getElem?_toList]
  have:t<(flatK (jd e) e.sz xs.toArray).size:=by simpa using ht
  rw[Array.getElem?_eq_getElem this,getElem!_pos _ t this]
 ·rw[List.getElem?_eq_none (by simpa using ht),List.getElem?_eq_none (by rw[JC (lI hn ha xs),List.length_map];omega)]
theorem Io [Inhabited e.D]{w:World}{b:Nat}{cur:Array Value}{T:TypeId}{xs:List e.D}(hb:w.heap[b]?=some (.cells cur T (0,0)))(h:cur.toList.take (xs.length * e.sz)=flat (xs.map (gq e))):HoldsK (jd e) e.sz w b 0 xs.toArray:=by
 intro j hj;have hj':j<xs.length * e.sz:=by simpa using hj
 refine⟨?_,by simp[World.frozen?,hb]⟩
 have h1:=Bb hn ha xs hj';rw[<-h,List.getElem?_take_of_lt hj']at h1;simp only[World.cell?,hb,Nat.zero_add];simp only[Option.isSome_none,Bool.false_eq_true,if_false];rw[<-Array.getElem?_toList,h1];rfl
theorem Ni{P:Program}{ρ:Go.Shelf.Ren}(L:Go.Proofs.SlLaysF0.n6 P ρ)(aE:∀w,(isAgg (ρ.t 24)).run P w=.ok true w)(zE:∀w,(Go.sizeOf (ρ.t 24)).run P w=.ok e.sz w)[Inhabited e.D]{T:TypeId}
  {cf:e.D->e.D->Int} (hO:SWO (ltOf cf)) (hT:∀x y,(ltOf cf) x y=false->(ltOf cf) y x=false->x=y) {F:e.D×e.D×Unit->Comp (Int×Unit)} (hF:∀x y,∃n,(F (x,y,())).run n=some (cf x y,()))
  {O:zS} {w:World} (hw:OkO O w) {u v:Value} {xs:List e.D} (hA:Wk (e.gr P) T O w u xs) (hv:((Ty.fn (.cons e (.cons e .nil)) (.cons (.int .i64) .nil)).gr P).v O w v F) (hl:xs.length<=LIM) :
  Calls P (ρ.f 6) #[u,v] w (lg (e.gr P) T O w u (xs.mergeSort fun x y=>!(ltOf cf) y x) (zDr false u)):=by
 obtain⟨⟨vs,h1,h2⟩,h3⟩:=hA;have sX:=Ao hn h2
 subst sX;obtain⟨cs,⟨u',e1,⟨e2,e3⟩,e4⟩,e5⟩:=hv;obtain⟨g,cb,rfl,hg⟩:=e3 rfl;have hvu:v=.func (.func g) #[] cb:=by rw[e5,e1];rfl
 subst hvu;have kA:(xs.map (gq e)).length=xs.length:=List.length_map _
 have fZ:(e.gr P).sz=e.sz:=Ty.yq P e;rcases h1.row.2 with ⟨f1,f2⟩|⟨b,cap,cur,f1,f2,f3,f4,f5,f6,f7⟩
 ·have hx:xs=[]:=List.eq_nil_of_length_eq_zero (by omega)
  subst hx;subst f1;refine Calls.mono (Go.Proofs.AnyF.slices_SortFunc_none L none 0 _ w) ?_;rintro e' w' ⟨he,rfl⟩;exact⟨_,.slice none 0 0,he,⟨⟨rfl,rfl,rfl,zKW _,fun _ _ _=>rfl⟩,.inl rfl⟩,⟨[],OwnS.nil _ _ _ _,by simp[yu]⟩,rfl,rfl⟩
 ·unfold LIM at hl
  subst f1;rw[kA]at f4 f7 h1 |-;rw[fZ]at f6 f7;have hb:b<w.heap.size:=(zKt.1 f3).1
  have cJ:O b≠0:=h3 b rfl;have eg:∀args w,(callFunc g args).run P w=.ok (.enter g args) w:=by
   intro args w;obtain⟨fn,g1,g2,g3⟩:=hg.h;simp only[callFunc,Sem.run_bind,Sem.run_pure,Result.andThen,run_program,g1];simp[g2,g3]
  have hlays:=N2 (P:=P) hn ha hF hw (cb:=cb) hg e4 hb cJ xs.toArray.size;have aS:=Go.Proofs.AnyQ.slices_SortFunc_total L e.sz aE zE (jd e) (qK hn) (Nt hn) cf hO g cb b 0 cap xs.toArray w eg hlays (Io hn ha f3 f7) hb (by simp;omega) hT
  rw[List.size_toArray]at aS;refine Calls.mono aS ?_;rintro e' w' ⟨he,n,os,rfl⟩;simp only[];generalize sR:(xs.mergeSort fun x y=>!(ltOf cf) y x)=ys
  have nS:ys.length=xs.length:=by rw[<-sR];exact List.length_mergeSort xs
  have hheap:(sortWorldK (jd e) e.sz w b 0 n ys.toArray os).heap[b]?=some (.cells (Go.Sort.putCells id 0 (flatK (jd e) e.sz ys.toArray) cur) T (0,0)):=by
   unfold sortWorldK;rw[Go.Sort.heap_grow_old _ _ (by simpa[putRowK,putRow,Go.Sort.mapBlock,ahead] using hb)]
   simp[putRowK,putRow,Go.Sort.mapBlock,ahead,Array.getElem?_modify,f3,Go.Sort.onCells]
  have hgr:w.grownBy (sortWorldK (jd e) e.sz w b 0 n ys.toArray os) (some b):=by
   refine⟨rfl,rfl,rfl,by simp[sortWorldK,grow,putRowK,putRow,Go.Sort.mapBlock,ahead],fun k hk fB=>?_⟩
   unfold sortWorldK;rw[Go.Sort.heap_grow_old _ _ (by simpa[putRowK,putRow,Go.Sort.mapBlock,ahead] using hk)]
   have:b≠k:=fun e=>fB (by rw[e])
   simp[putRowK,putRow,Go.Sort.mapBlock,ahead,Array.getElem?_modify,this]
  have htake:(Go.Sort.putCells id 0 (flatK (jd e) e.sz ys.toArray) cur).toList.take (xs.length * e.sz)=flat (ys.map (gq e)):=by
   rw[<-DQ hn ha ys];have fP:xs.length * e.sz<=cur.size:=by rw[f6];exact Nat.mul_le_mul_right _ f4
   apply List.ext_getElem?;intro j;by_cases hj:j<xs.length * e.sz
   ·have h5:j<cur.size:=by omega
    have h6:j<(flatK (jd e) e.sz ys.toArray).size:=by simpa[nS] using hj
    rw[List.getElem?_take_of_lt hj,Array.getElem?_toList,Array.getElem?_toList,Array.getElem?_eq_getElem h6];simp only[Go.Sort.putCells,Array.getElem?_mapIdx,Array.getElem?_eq_getElem h5,Option.map_some,Nat.zero_le,true_and,Nat.zero_add,Nat.sub_zero];rw[zKu h6,getElem!_pos _ j h6];rfl
   ·rw[List.getElem?_take_eq_none (by omega),List.getElem?_eq_none (by simpa[nS] using hj)]
  refine⟨_,.slice (some ⟨b,0,none⟩) xs.length cap,he,⟨hgr,.inl rfl⟩,⟨ys.map (gq e),⟨?_,?_⟩,rS hn ys⟩,rfl,rfl⟩
  ·rw[fZ];exact lI hn ha ys
  ·rw[fZ,List.length_map,nS]
   refine⟨by rw[JC (lI hn ha ys),List.length_map,nS],.inr ⟨b,cap,_,rfl,Nat.zero_le _,hheap,f4,f5,?_,htake⟩⟩
   simp[Go.Sort.putCells,f6]
end enc
instance:Inhabited Pln:=⟨((0,0,0,()),0,())⟩
abbrev SY:Ty:=.cons (.cons (.int .i64) (.cons (.int .i64) (.cons (.int .i64) .nil))) (.cons (.int .i64) .nil)
instance:Inhabited SY.D:=⟨(((0:Int),(0:Int),(0:Int),()),(0:Int),())⟩
theorem X9(x y:Pln):ltOf Yq x y=true↔LtP x y:=by unfold ltOf;rw[decide_eq_true_iff];exact J7
theorem XH(x y:Pln):ltOf Yq x y=false↔¬LtP x y:=by rw[<-X9];simp
theorem Ev:SWO (ltOf Yq) where
 irrefl x:=(XH x x).2 LtP.irr
 trans x y z h1 h2:=(X9 x z).2 (((X9 x y).1 h1).trans ((X9 y z).1 h2))
 ntrans x y z h1 h2:=by
  rw[XH]at *;intro h3;rcases LtP.tri y z with h|h|h
  ·exact h2 h
  ·subst h;exact h1 h3
  ·exact h1 (h3.trans h)
theorem Ix(x y:Pln)(h1:ltOf Yq x y=false)(h2:ltOf Yq y x=false):x=y:=by
 rw[XH]at h1 h2;rcases LtP.tri x y with h|h|h
 ·exact zKk h h1
 ·exact h
 ·exact zKk h h2
theorem Ie(l:List Pln):(l.mergeSort fun x y=>!(ltOf Yq) y x)=Xr l:=by
 refine List.Perm.eq_of_pairwise (le:=fun p q=>¬LtP q p) (fun a b _ _ h1 h2=>?_) ?_ (Ag l) ((List.mergeSort_perm _ _).trans (rL l).symm)
 ·rcases LtP.tri a b with h|h|h
  ·exact zKk h h2
  ·exact h
  ·exact zKk h h1
 ·have:=List.pairwise_mergeSort (le:=fun x y:Pln=>!(ltOf Yq) y x) (fun a b c h1 h2=>?_) (fun a b=>?_) l
  ·refine this.imp fun {a b} h=>?_
   rw[<-XH];simpa using h
  ·simp only[Bool.not_eq_true']at *
   exact Ev.ntrans c b a h2 h1
  ·cases h1:ltOf Yq b a with
   |false=>rfl
   |true=>rw[(XH a b).2 fun h=>LtP.asym ((X9 b a).1 h1) h];rfl
theorem Mr{P:Program}{ρ:Go.Shelf.Ren}(L:Go.Proofs.SlLaysF0.n6 P ρ){dd:TypeDesc}{z:Value}{by_:Nat}(hT:Eng.Ty P (ρ.t 24) dd z 4 by_)(hd:vS dd=true){T:TypeId}(hf:FnOk P (ρ.f 6)) :
  FO.ok P (ρ.f 6) ⟨SY,T,.cons (.fn (.cons SY (.cons SY .nil)) (.cons (.int .i64) .nil)) .nil,false,fun xs x=>CJ xs x.1⟩:=by
 refine⟨hf,fun O w hw u xs hA vs z hz n ys hy=>?_⟩
 obtain⟨v,bT,rfl,hv,sX⟩:=hz;rw[show bT=[] from sX]
 have hy':(CJ xs z.1).run n=some ys:=hy;unfold CJ at hy';split at hy'
 ·rename_i h
  have:=run_pure hy';subst this;have hm:=Ie xs
  have:=Ni (P:=P) (e:=SY) rfl rfl L (fun w=>by rw[hT.YL,hd]) hT.zw (T:=T) Ev Ix h.2 hw hA hv h.1
  refine Calls.mono this fun e w' he=>?_
  rw[<-hm];exact he
 ·cases hy'
end Go.Den
end
section
namespace Go.Proofs
open Go.Shelf
def Tryz.rM:Go.Shelf.Ren:=⟨fun|6=>203|15=>222|14=>221|28=>241|29=>242|20=>233|21=>234|22=>235|23=>236|24=>237|25=>238|26=>239|27=>240|46=>244|47=>245|48=>246|49=>247|50=>248|57=>249|n=>n,fun|22=>107|24=>106|25=>233|3=>3|39=>245|0=>0|53=>257|55=>259|4=>4|46=>250|45=>249|50=>254|5=>5|9=>9|66=>260|70=>264|76=>266|77=>267|n=>n,fun|n=>n⟩
theorem Tryz.zEb:Go.Proofs.SlLaysF0.n6 Tryz.prog Tryz.rM:={
 mixed:=by kernel_rfl
 f6:=⟨Tryz.f203.name,by decide,Tryz.func203.trans (zKl some (by kernel_rfl))⟩
 f14:=⟨Tryz.f221.name,by decide,Tryz.func221.trans (zKl some (by kernel_rfl))⟩
 f15:=Tryz.func222.trans (zKl some (by kernel_rfl))
 f20:=⟨Tryz.f233.name,by decide,Tryz.func233.trans (zKl some (by kernel_rfl))⟩
 f21:=⟨Tryz.f234.name,by decide,Tryz.func234.trans (zKl some (by kernel_rfl))⟩
 f22:=⟨Tryz.f235.name,by decide,Tryz.func235.trans (zKl some (by kernel_rfl))⟩
 f23:=⟨Tryz.f236.name,by decide,Tryz.func236.trans (zKl some (by kernel_rfl))⟩
 f24:=⟨Tryz.f237.name,by decide,Tryz.func237.trans (zKl some (by kernel_rfl))⟩
 f25:=⟨Tryz.f238.name,by decide,Tryz.func238.trans (zKl some (by kernel_rfl))⟩
 f26:=⟨Tryz.f239.name,by decide,Tryz.func239.trans (zKl some (by kernel_rfl))⟩
 f27:=⟨Tryz.f240.name,by decide,Tryz.func240.trans (zKl some (by kernel_rfl))⟩
 f28:=Tryz.func241.trans (zKl some (by kernel_rfl))
 f29:=Tryz.func242.trans (zKl some (by kernel_rfl))
 f46:=⟨Tryz.f244.name,by decide,Tryz.func244.trans (zKl some (by kernel_rfl))⟩
 f47:=Tryz.func245.trans (zKl some (by kernel_rfl))
 f48:=Tryz.func246.trans (zKl some (by kernel_rfl))
 f49:=⟨Tryz.f247.name,by decide,Tryz.func247.trans (zKl some (by kernel_rfl))⟩
 f50:=⟨Tryz.f248.name,by decide,Tryz.func248.trans (zKl some (by kernel_rfl))⟩
 f57:=⟨Tryz.f249.name,by decide,Tryz.func249.trans (zKl some (by kernel_rfl))⟩
 t0:=Tryz.underlying0
 a0:=Tryz.isAgg0
 z0:=Tryz.sizeOf0
 v0:=Tryz.zeroValue0
 t3:=Tryz.underlying3
 a3:=Tryz.isAgg3
 z3:=Tryz.sizeOf3
 v3:=Tryz.zeroValue3
 t4:=Tryz.underlying4
 a4:=Tryz.isAgg4
 z4:=Tryz.sizeOf4
 v4:=Tryz.zeroValue4
 t5:=Tryz.underlying5
 a5:=Tryz.isAgg5
 z5:=Tryz.sizeOf5
 v5:=Tryz.zeroValue5
 t9:=Tryz.underlying9
 a9:=Tryz.isAgg9
 z9:=Tryz.sizeOf9
 v9:=Tryz.zeroValue9
 t22:=Tryz.underlying107
 a22:=Tryz.isAgg107
 z22:=Tryz.sizeOf107
 v22:=Tryz.zeroValue107
 t25:=Tryz.underlying233
 a25:=Tryz.isAgg233
 z25:=Tryz.sizeOf233
 v25:=Tryz.zeroValue233
 t39:=Tryz.underlying245
 a39:=Tryz.isAgg245
 z39:=Tryz.sizeOf245
 v39:=Tryz.zeroValue245
 t45:=Tryz.underlying249
 a45:=Tryz.isAgg249
 z45:=Tryz.sizeOf249
 v45:=Tryz.zeroValue249
 t46:=Tryz.underlying250
 a46:=Tryz.isAgg250
 z46:=Tryz.sizeOf250
 v46:=Tryz.zeroValue250
 t50:=Tryz.underlying254
 a50:=Tryz.isAgg254
 z50:=Tryz.sizeOf254
 v50:=Tryz.zeroValue254
 t53:=Tryz.underlying257
 a53:=Tryz.isAgg257
 z53:=Tryz.sizeOf257
 v53:=Tryz.zeroValue257
 t55:=Tryz.underlying259
 a55:=Tryz.isAgg259
 z55:=Tryz.sizeOf259
 v55:=Tryz.zeroValue259
 t66:=Tryz.underlying260
 a66:=Tryz.isAgg260
 z66:=Tryz.sizeOf260
 v66:=Tryz.zeroValue260
 t70:=Tryz.underlying264
 a70:=Tryz.isAgg264
 z70:=Tryz.sizeOf264
 v70:=Tryz.zeroValue264
 t76:=Tryz.underlying266
 a76:=Tryz.isAgg266
 z76:=Tryz.sizeOf266
 v76:=Tryz.zeroValue266
 t77:=Tryz.underlying267
 a77:=Tryz.isAgg267
 z77:=Tryz.sizeOf267
 v77:=Tryz.zeroValue267 }
end Go.Proofs
end
section
set_option maxRecDepth 20000
namespace Go.Dn
open Go Go.Proofs Go.RowKit Go.Eng Go.Lift Go.Den
def JY(f:Func):Code:=f.body.getD .skip
theorem zGe{α:Type}{l:List α}(h:l.length=4):∃a b c d,l=[a,b,c,d]:=by
 match l,h with
 | [a,b,c,d],_=>exact⟨a,b,c,d,rfl⟩
theorem zEf:RecG prog 99 Tryz.f99 (cl (JY Tryz.f99)) (cr (JY Tryz.f99)) 4 4 5 43 t43:=by
 have hT:=(Wj 43 i43 (by kernel_rfl)).ty
 have lR:∀w,(underlying 43).run prog w=.ok (.int .i64) w:=fun w=>by simp only[underlying,hT.u];rfl
 have hz:∀w,(zeroValue 43).run prog w=.ok i43.z w:=hT.kN;have iX:∀g,Fence.wide.fn g:=fun _=>trivial
 refine⟨Tryz.func99,⟨_,Tryz.func99,rfl,by kernel_rfl⟩,rfl,Tryz.results99,by decide,fun caps hc c₀ cs w v hv hu Q hQ=>?_,fun caps hc c₀ cs w hu Q hQ=>?_⟩
 ·obtain⟨a,b,c,d,rfl⟩:=zGe hc
  dsimp only [cl,JY,Tryz.f99,Option.getD];apply wpSIn_region;show wpOpsSIn _ _ _ _ _ [0,1,2,3,4,5,6] _ _ _
  simp[wpOpsSIn,go_sem,recoverD,hu,Instr.typeAssert,lR,iX,Act.eval,Act.put];refine hQ _ w (Ext.refl w) ⟨?_,rfl⟩ ?_ ?_ ?_
  ·simp
  ·intro i u hi
   match i,hi with
   |0,hi=>simpa[Act.get] using hi
   |1,hi=>simpa[Act.get] using hi
   |2,hi=>simpa[Act.get] using hi
   |3,hi=>simpa[Act.get] using hi
  ·simp[Act.get]
  ·simp[Act.get]
 ·obtain⟨a,b,c,d,rfl⟩:=zGe hc
  dsimp only [cl,JY,Tryz.f99,Option.getD];apply wpSIn_region;show wpOpsSIn _ _ _ _ _ [0,1,2,3,4,5,6] _ _ _
  simp[wpOpsSIn,go_sem,recoverD,hu,Instr.typeAssert,lR,iX,hz,Act.eval,Act.put];refine hQ _ w (Ext.refl w) ⟨?_,rfl⟩ ?_ ?_
  ·simp
  ·intro i u hi
   match i,hi with
   |0,hi=>simpa[Act.get] using hi
   |1,hi=>simpa[Act.get] using hi
   |2,hi=>simpa[Act.get] using hi
   |3,hi=>simpa[Act.get] using hi
  ·simp[Act.get]
end Go.Dn
end
section
set_option maxRecDepth 20000
namespace Go.Dn
open Go Go.Proofs Go.RowKit Go.Eng Go.Lift Go.Den
theorem zAl:RecG prog 108 Tryz.f108 (cl (JY Tryz.f108)) (cr (JY Tryz.f108)) 1 6 2 156 t156:=by
 have hT:=(Wj 156 zEH (by kernel_rfl)).ty
 have lR:∀w,(underlying 156).run prog w=.ok (.struct (prog.fieldsOf 156)) w:=hT.gk;have hz:∀w,(zeroValue 156).run prog w=.ok (.agg #[]) w:=hT.kN
 have fZ:∀w,(sizeOf 156).run prog w=.ok 0 w:=hT.zw;have iX:∀g,Fence.wide.fn g:=fun _=>trivial
 refine⟨Tryz.func108,⟨_,Tryz.func108,rfl,by kernel_rfl⟩,rfl,Tryz.results108,by decide,fun caps hc c₀ cs w v hv hu Q hQ=>?_,fun caps hc c₀ cs w hu Q hQ=>?_⟩
 ·obtain⟨a,rfl⟩:=List.length_eq_one_iff.1 hc
  have hv:v=.agg #[]:=by
   obtain⟨O,w',z,cs',h1,h2⟩:=hv;have h1:cs'=[]:=h1
   subst h1;exact h2
  subst hv;dsimp only [cl,JY,Tryz.f108,Option.getD];apply wpSIn_region;show wpOpsSIn _ _ _ _ _ [0,1,2,3,4,5,6,7] _ _ _
  simp[wpOpsSIn,go_sem,recoverD,hu,Instr.typeAssert,lR,iX,hz,fZ,Act.eval,Act.put];refine hQ _ _ (Ext.alloc w _) ⟨?_,rfl⟩ ?_ ?_ ?_
  ·simp
  ·intro i u hi
   match i,hi with
   |0,hi=>simpa[Act.get] using hi
  ·simp[Act.get]
  ·simp[Act.get]
 ·obtain⟨a,rfl⟩:=List.length_eq_one_iff.1 hc
  dsimp only [cl,JY,Tryz.f108,Option.getD];apply wpSIn_region;show wpOpsSIn _ _ _ _ _ [0,1,2,3,4,5,6,7] _ _ _
  simp[wpOpsSIn,go_sem,recoverD,hu,Instr.typeAssert,lR,iX,hz,fZ,Act.eval,Act.put];refine hQ _ _ (Ext.alloc w _) ⟨?_,rfl⟩ ?_ ?_
  ·simp
  ·intro i u hi
   match i,hi with
   |0,hi=>simpa[Act.get] using hi
  ·simp[Act.get]
end Go.Dn
end
noncomputable section
set_option maxRecDepth 200000
namespace Go.Dn
open Go Go.Proofs Go.RowKit Go.Eng Go.Lift Go.Den
def t222:Ty:=.seq (.cons t224 .nil)
def t235:Ty:=.seq (.cons (.slo t106) .nil)
open Go.F Go.Proofs.Tryz
abbrev sz(h:H):H:=.s .z h
abbrev kv(n:Nat)(t:Ty):Bool×Nat×Knd:=(false,n,.v t)
abbrev kw(n:Nat)(t:Ty):Bool×Nat×Knd:=(true,n,.v t)
abbrev ko(n:Nat)(t:Ty)(T:Nat):Bool×Nat×Knd:=(false,n,.o true t T)
def s55:FS:=⟨(.cons t104 (.cons t104 .nil)),(.cons t107 .nil),[some 106],fun x=>zq x.1 x.2.1⟩
theorem HX:s55.ok prog 55:=fS (E0) .z func55
def zIx:FS:=⟨(.cons t3 (.cons t3 .nil)),(.cons t107 .nil),[some 106],fun x=>yf x.1 x.2.1⟩
theorem zCF:zIx.ok prog 136:=fS ((E0).S HX) .z func136
def s84:FS:=⟨(.cons t30 .nil),(.cons t33 .nil),[none],fun x=>jN x.1⟩
theorem W2:s84.ok prog 84:=fS (E0) (sz (.s (.xr [3,9] [0,1,2,4,5,6,7,3,8,9] [(4,[]),(5,[]),(6,[]),(7,[])]) .z)) func84
def s77:FJ:=⟨.nil,(.pr (.ag (.pr (.v t30) (.pr (.v t33) (.pr (.o true t62 62) .un)))) .un),fun x=>y9 ⟩
theorem W4:s77.ok prog 77:=fJ (((E0).S W2).S zCF) (sz (sz (.s (.f [1] (.xr [2,4,16,18] [0,1,2,3,6,7,8,9,10,11,12,13,14,15,4,5,16,17,18] [(0,[]),(6,[]),(7,[]),(8,[]),(9,[]),(10,[]),(11,[]),(12,[]),(13,[]),(14,[]),(15,[])])) .z))) func77
def zJK:FS:=⟨(.cons t3 .nil),(.cons t4 .nil),[none],fun x=>gI x.1⟩
theorem zCM:zJK.ok prog 117:=fS (E0) .z func117
def zJE:FS:=⟨(.cons t23 (.cons t117 .nil)),(.cons t3 .nil),[none],fun x=>kC x.1 x.2.1⟩
theorem zCJ:zJE.ok prog 129:=fS (E0) (sz (.s (sz (.b (.l ⟨[kv 8 t3],[0,1,7],[8]⟩ [(some 0,⟨[],[],[]⟩),(none,⟨[kv 4 t3],[],[4]⟩)] .z))) .z)) func129
def s72:FS:=⟨(.cons t23 (.cons t117 .nil)),(.cons t4 .nil),[none],fun x=>zg x.1 x.2.1⟩
theorem W5:s72.ok prog 72:=fS ((E0).S zCJ) .z func72
def zIV:FS:=⟨(.cons t28 (.cons t166 .nil)),(.cons t3 .nil),[none],fun x=>yK x.1 x.2.1⟩
theorem Qi:zIV.ok prog 168:=fS (E0) (sz (.s (sz (.b (.l ⟨[kv 8 t3],[0,1,7],[8]⟩ [(some 0,⟨[],[],[]⟩),(none,⟨[kv 4 t3],[],[4]⟩)] .z))) .z)) func168
def zIt:FS:=⟨(.cons t28 (.cons t166 .nil)),(.cons t4 .nil),[none],fun x=>zI x.1 x.2.1⟩
theorem lA:zIt.ok prog 140:=fS ((E0).S Qi) .z func140
def zIC:FS:=⟨(.cons t107 (.cons t198 .nil)),(.cons t3 .nil),[none],fun x=>yJ x.1 x.2.1⟩
theorem Qe:zIC.ok prog 188:=fS (E0) (sz (.s (sz (.b (.l ⟨[kv 8 t3],[0,1,7],[8]⟩ [(some 0,⟨[],[],[]⟩),(none,⟨[kv 4 t3],[],[4]⟩)] .z))) .z)) func188
def zIY:FS:=⟨(.cons t107 (.cons t198 .nil)),(.cons t4 .nil),[none],fun x=>zY x.1 x.2.1⟩
theorem Qj:zIY.ok prog 165:=fS ((E0).S Qe) .z func165
def zIB:FS:=⟨(.cons t3 (.cons t23 .nil)),(.cons t4 .nil),[none],fun x=>jL x.1 x.2.1⟩
theorem zBe:zIB.ok prog 189:=fS (E0) (sz (.s (sz (.b (.l ⟨[kv 9 t3],[0,7,8],[9]⟩ [(some 0,⟨[],[],[]⟩),(none,⟨[kv 4 t4],[],[4]⟩)] .z))) .z)) func189
def zHd:FS:=⟨(.cons t3 .nil),(.cons t3 .nil),[none],fun x=>jk x.1⟩
theorem zBI:zHd.ok prog 213:=fS (E0) .z func213
def zIA:FS:=⟨(.cons t23 .nil),(.cons t3 .nil),[none],fun x=>ZZ x.1⟩
theorem zBd:zIA.ok prog 190:=fS ((E0).S zBI) (sz (sz (.s (sz (.b (.l ⟨[kv 3 t3,kv 8 t3],[6,7],[3,8]⟩ [(some 0,⟨[kv 3 t3],[],[3]⟩),(none,⟨[kv 2 t3],[],[2]⟩)] (sz (sz (.s (.b (sz (sz (sz (.b (.l ⟨[kv 3 t3,kv 5 t3],[6,7,8],[3,5]⟩ [(some 2,⟨[kv 3 t3],[6,7,8],[3]⟩)] .z)))))) .z)))))) .z))) func190
def zIW:FS:=⟨(.cons t106 .nil),(.cons t4 .nil),[none],fun x=>Yw x.1⟩
theorem zBq:zIW.ok prog 167:=fS (((E0).S zBd).S zBe) (sz (.s (.xg ⟨[kv 2 t4],[],[2]⟩) .z)) func167
def zIX:FS:=⟨(.cons t106 .nil),(.cons t4 .nil),[none],fun x=>jS x.1⟩
theorem zBr:zIX.ok prog 166:=fS ((E0).S zBq) .z func166
def zIu:FS:=⟨(.cons t107 .nil),(.cons t43 .nil),[none],fun x=>gm x.1⟩
theorem qX:zIu.ok prog 139:=fS (((E0).S zBr).S Qj) .z func139
def zIS:FS:=⟨(.cons t107 .nil),(.cons t4 .nil),[none],fun x=>jR x.1⟩
theorem zBn:zIS.ok prog 172:=fS ((E0).S qX) .z func172
def zIj:FS:=⟨(.cons t28 .nil),(.cons t4 .nil),[none],fun x=>ZT x.1⟩
theorem EH:zIj.ok prog 154:=fS (((E0).S zBn).S lA) .z func154
def zHx:FS:=⟨(.cons t3 .nil),(.cons t107 .nil),[some 106],fun x=>vv x.1⟩
theorem zBb:zHx.okN prog 193:=fN (E0) (sz (.s (sz (.j ⟨[],[0,1],[]⟩ .z .z)) (.s (sz (sz (.j ⟨[ko 0 t106 106],[],[]⟩ (.xg ⟨[ko 0 t106 106],[],[]⟩) .z))) .z))) func193
def zIR:FS:=⟨(.cons t28 .nil),(.cons t107 .nil),[some 106],fun x=>zN x.1⟩
theorem Qh:zIR.ok prog 173:=fS ((E0).N zBb) (sz (sz (.s (sz (.b (.l ⟨[kv 3 t3,kv 11 t3],[0,9,10],[3,11]⟩ [(some 0,⟨[kv 3 t3],[0],[3]⟩)] (sz (sz (.s (.b (sz (sz (sz (.j ⟨[],[0,3,9,10,11],[]⟩ .z .z))))) .z)))))) (sz (.s (sz (.b (.l ⟨[ko 6 t106 106,kv 27 t3],[25,26],[27]⟩ [(some 2,⟨[ko 6 t106 106],[],[]⟩)] .z))) .z))))) func173
def zIi:FS:=⟨(.cons t28 .nil),(.cons t189 .nil),[some 106],fun x=>cell_of x.1⟩
theorem EF:zIi.ok prog 155:=fS ((E0).S Qh) (sz (sz (.s (sz (.b (.l ⟨[ko 3 t106 106,kv 16 t3],[14,15],[16]⟩ [(some 0,⟨[ko 3 t106 106],[],[]⟩)] .z))) .z))) func155
def zHb:GS:=⟨(.cons (.box t189) .nil),(.cons t224 .nil),fun x=>vu x.1⟩
theorem zBG:zHb.ok prog 215:=fQ (E0) (sz (.b (.l ⟨[kv 11 t3],[0,1,9,10],[11]⟩ [(some 0,⟨[],[],[]⟩),(none,⟨[],[],[]⟩)] (sz (sz (.s (.b (sz (.s (.f [4] .z) (.b (.l ⟨[kv 21 t3],[0,1,3,4,9,10,11,19,20],[21]⟩ [(some 2,⟨[],[0,1,9,10,11],[]⟩),(none,⟨[],[],[]⟩)] (sz (sz (.s (.b (sz (.s (.f [6] .z) (.b (.l ⟨[kv 33 t3],[0,1,3,4,6,9,10,11,19,20,21,31,32],[33]⟩ [(some 4,⟨[],[0,1,3,4,9,10,11,19,20,21],[]⟩),(none,⟨[],[],[]⟩)] (sz (sz (.s (.b (sz (.s (.f [8] .y) .z))) .z)))))))) .z)))))))) .z)))))) func215
def zHw:FS:=⟨(.cons t189 .nil),(.cons t222 .nil),[none],fun x=>j6 x.1⟩
theorem zBa:zHw.ok prog 194:=fS ((E0).Q zBG) (sz (.s (.f [1] .z) .z)) func194
def zHa:FS:=⟨(.cons t104 (.cons t104 .nil)),(.cons t104 .nil),[none],fun x=>Ze x.1 x.2.1⟩
theorem zBF:zHa.ok prog 216:=fS (E0) .z func216
def zHr:FS:=⟨(.cons t104 (.cons t104 .nil)),(.cons t3 .nil),[none],fun x=>ZW x.1 x.2.1⟩
theorem Qc:zHr.ok prog 199:=fS (E0) .z func199
def zHY:FS:=⟨(.cons t104 (.cons t3 .nil)),(.cons t104 .nil),[none],fun x=>Ya x.1 x.2.1⟩
theorem zBD:zHY.ok prog 218:=fS (E0) .z func218
def zHZ:FS:=⟨(.cons t104 (.cons t104 .nil)),(.cons t104 .nil),[none],fun x=>XG x.1 x.2.1⟩
theorem zBE:zHZ.ok prog 217:=fS (E0) .z func217
def zHX:FS:=⟨(.cons t23 .nil),(.cons t3 .nil),[none],fun x=>KV x.1⟩
theorem zBC:zHX.ok prog 219:=fS (E0) (sz (sz (.s (sz (.b (.l ⟨[kv 3 t3,kv 8 t3],[6,7],[3,8]⟩ [(some 0,⟨[kv 3 t3],[],[3]⟩)] (sz (sz (.s (.b (sz (.b (.l ⟨[kv 3 t3,kv 5 t3],[6,7,8],[3,5]⟩ [(some 2,⟨[kv 3 t3],[6,7,8],[3]⟩)] .z)))) .z)))))) .z))) func219
def zHv:FS:=⟨(.cons t224 .nil),(.cons t208 (.cons t4 .nil)),[none,none],fun x=>XK x.1⟩
theorem zBZ:zHv.ok prog 195:=fS ((((((E0).S zBC).S zBE).S zBD).S Qc).S zBF) (sz (sz (sz (.s (sz (.b (.l ⟨[kv 5 t3,kv 11 t3,kw 4 t104],[1,2,4,10],[5,11,4]⟩ [(some 0,⟨[kv 5 t3,kw 4 t104],[2,4],[5,4]⟩)] (sz (sz (.s (.b (sz (.s (.xr [13,14] [0,1,2,3,4,5,6,7,8,9,10,11,12,13,14] [(0,[]),(1,[]),(2,[]),(3,[]),(4,[]),(5,[]),(6,[]),(7,[]),(8,[]),(9,[]),(10,[]),(11,[]),(12,[])]) .z))) .z)))))) (sz (sz (.s (sz (.j ⟨[kv 9 t3],[2,4,5],[9]⟩ .z .z)) .z))))))) func195
def zIL:FS:=⟨(.cons t106 (.cons t208 .nil)),(.cons t3 .nil),[none],fun x=>ZY x.1 x.2.1⟩
theorem D9:zIL.ok prog 179:=fS ((E0).S Qc) .z func179
def zHW:FS:=⟨(.cons t106 (.cons (.box t208) .nil)),(.cons t4 .nil),[none],fun x=>jA x.1 x.2.1⟩
theorem zBB:zHW.ok prog 220:=fS ((E0).S D9) .z func220
def zHu:FS:=⟨(.cons t107 (.cons t208 .nil)),(.cons t4 .nil),[none],fun x=>Zi x.1 x.2.1⟩
theorem zBY:zHu.ok prog 196:=fS (((E0).S Qj).S zBB) .z func196
def zIQ:FS:=⟨(.cons t189 .nil),(.cons t203 .nil),[some 208],fun x=>vo x.1⟩
theorem Qg:zIQ.ok prog 174:=fS ((((E0).S zBY).S zBZ).S zBa) (sz (sz (sz (.s (sz (.b (.l ⟨[(true,3,(.o true t208 208)),(true,4,(.m true t208 t4))],[1,3,4,10],[]⟩ [] (sz (.b (sz (sz (.j ⟨[(true,3,(.o true t208 208)),(true,4,(.m true t208 t4))],[1,3,4,10],[]⟩ .z .z)))))))) .z)))) func174
def zIM:FS:=⟨(.cons t208 (.cons (.box t106) .nil)),(.cons t4 .nil),[none],fun x=>yT x.1 x.2.1⟩
theorem zBj:zIM.ok prog 178:=fS ((E0).S D9) .z func178
def zHs:FS:=⟨(.cons t203 (.cons t210 .nil)),(.cons t3 .nil),[none],fun x=>vj x.1 x.2.1⟩
theorem zBW:zHs.ok prog 198:=fS (E0) (sz (.s (sz (.b (.l ⟨[kv 8 t3],[0,1,7],[8]⟩ [(some 0,⟨[],[],[]⟩),(none,⟨[kv 4 t3],[],[4]⟩)] .z))) .z)) func198
def zIN:FS:=⟨(.cons t203 (.cons t210 .nil)),(.cons t4 .nil),[none],fun x=>yN x.1 x.2.1⟩
theorem zBk:zIN.ok prog 177:=fS ((E0).S zBW) .z func177
def zIO:FS:=⟨(.cons t106 (.cons (.box t203) .nil)),(.cons t4 .nil),[none],fun x=>vA x.1 x.2.1⟩
theorem zBl:zIO.ok prog 176:=fS (((E0).S zBk).S zBj) .z func176
def zHt:FS:=⟨(.cons t189 (.cons t198 .nil)),(.cons t3 .nil),[none],fun x=>vV x.1 x.2.1⟩
theorem zBX:zHt.ok prog 197:=fS (E0) (sz (.s (sz (.b (.l ⟨[kv 8 t3],[0,1,7],[8]⟩ [(some 0,⟨[],[],[]⟩),(none,⟨[kv 4 t3],[],[4]⟩)] .z))) .z)) func197
def zIP:FS:=⟨(.cons t189 (.cons t198 .nil)),(.cons t4 .nil),[none],fun x=>yH x.1 x.2.1⟩
theorem zBm:zIP.ok prog 175:=fS ((E0).S zBX) .z func175
def zIh:FS:=⟨(.cons t189 .nil),(.cons t4 .nil),[none],fun x=>gy x.1⟩
theorem Ql:zIh.ok prog 156:=fS ((((E0).S zBm).S zBl).S Qg) .z func156
def zJJ:FS:=⟨(.cons t107 .nil),(.cons t4 .nil),[none],fun x=>j5 x.1⟩
theorem lE:zJJ.ok prog 118:=fS ((((E0).S Ql).S EF).S EH) (sz (.s (.xg ⟨[kv 2 t4],[],[2]⟩) .z)) func118
def zJG:FS:=⟨(.cons t107 (.cons t107 .nil)),(.cons t4 .nil),[none],fun x=>kV x.1 x.2.1⟩
theorem EJ:zJG.ok prog 127:=fS ((((E0).S Ql).S EF).S EH) (sz (.s (.xg ⟨[kv 4 t4],[],[4]⟩) .z)) func127
def zIg:FS:=⟨(.cons t107 (.cons (.box t107) .nil)),(.cons t4 .nil),[none],fun x=>gz x.1 x.2.1⟩
theorem zBx:zIg.ok prog 157:=fS ((E0).S EJ) .z func157
def zJI:FS:=⟨(.cons t107 (.cons t28 .nil)),(.cons t4 .nil),[none],fun x=>jI x.1 x.2.1⟩
theorem Qq:zJI.ok prog 119:=fS (((E0).S lA).S zBx) .z func119
def s58:FS:=⟨(.cons t30 .nil),(.cons t43 .nil),[none],fun x=>Yr x.1⟩
theorem zEw:s58.ok prog 58:=fS (((((E0).S Qq).S lE).S W5).S zCM) (sz (sz (sz (sz (.s (sz (.b (.l ⟨[kv 32 t3],[1,30,31],[32]⟩ [(some 1,⟨[],[],[]⟩),(none,⟨[kv 2 t43],[],[2]⟩)] .z))) .z))))) func58
def zIv:FS:=⟨(.cons t107 .nil),(.cons t4 .nil),[none],fun x=>jM x.1⟩
theorem zCE:zIv.ok prog 138:=fS ((E0).S qX) .z func138
def s87:FS:=⟨(.cons t30 (.cons t33 .nil)),(.cons t4 .nil),[none],fun x=>JM x.1 x.2.1⟩
theorem zEo:s87.ok prog 87:=fS (((E0).S lA).S zCE) .z func87
def zIf:FS:=⟨(.cons t3 .nil),(.cons t28 .nil),[some 107],fun x=>vw x.1⟩
theorem zBw:zIf.okN prog 158:=fN (E0) (sz (.s (sz (.j ⟨[],[0,1],[]⟩ .z .z)) (.s (sz (sz (.j ⟨[ko 0 t107 107],[],[]⟩ (.xg ⟨[ko 0 t107 107],[],[]⟩) .z))) .z))) func158
def zJH:FS:=⟨(.cons t191 .nil),(.cons t28 .nil),[some 107],fun x=>yS x.1⟩
theorem zCL:zJH.ok prog 122:=fS ((E0).N zBw) (sz (sz (.s (sz (.b (.l ⟨[kv 3 t3,kv 11 t3],[0,9,10],[3,11]⟩ [(some 0,⟨[kv 3 t3],[0],[3]⟩)] (sz (sz (.s (.b (sz (sz (sz (.j ⟨[],[0,3,9,10,11],[]⟩ .z .z))))) .z)))))) (sz (.s (sz (.b (.l ⟨[ko 6 t107 107,kv 27 t3],[25,26],[27]⟩ [(some 2,⟨[ko 6 t107 107],[],[]⟩)] .z))) .z))))) func122
def zIs:FS:=⟨(.cons t23 .nil),(.cons t4 .nil),[none],fun x=>jm x.1⟩
theorem Qn:zIs.ok prog 141:=fS (E0) (sz (.s (sz (.b (.l ⟨[kv 3 t3],[0],[3]⟩ [(some 0,⟨[],[],[]⟩),(none,⟨[kv 2 t4],[],[2]⟩)] .z))) .z)) func141
def s88:FS:=⟨(.cons t34 (.cons t3 .nil)),(.cons t43 .nil),[none],fun x=>Zf x.1 x.2.1⟩
theorem zEn:s88.ok prog 88:=fS ((((E0).S Qn).S qX).S zCL) (sz (sz (.s (sz (.b (.l ⟨[kv 22 t3],[0,1,5,20,21],[22]⟩ [(some 0,⟨[],[0,1,5],[]⟩),(none,⟨[kv 4 t43],[],[4]⟩)] .z))) (sz (.s (sz (.b (.l ⟨[kv 43 t3],[0,1,5,41,42],[43]⟩ [(some 2,⟨[],[5],[]⟩),(none,⟨[kv 4 t43],[],[4]⟩)] .z))) .z))))) func88
def s30:FS:=⟨(.cons t36 .nil),(.cons t43 .nil),[none],fun x=>kS x.1⟩
theorem HY:s30.ok prog 30:=fS ((((E0).S zEn).S zEo).S zEw) (sz (sz (sz (sz (.s (sz (.b (.l ⟨[kv 4 t3,kv 33 t3],[1,31,32],[4,33]⟩ [(some 1,⟨[kv 4 t3],[],[4]⟩),(none,⟨[kv 2 t43],[],[2]⟩)] .z))) .z))))) func30
def s91:FS:=⟨(.cons t36 (.cons t23 .nil)),(.cons t136 (.cons t4 .nil)),[none,none],fun x=>YM x.1 x.2.1⟩
theorem Wz:s91.ok prog 91:=fS ((E0).S Qn) (sz (.s (sz (.b (.l ⟨[kv 10 t3,kw 4 t136],[1,2,4,8,9],[10,4]⟩ [(some 0,⟨[kw 4 t136],[1,4],[4]⟩),(none,⟨[kv 5 t4,kw 4 t136],[4],[5,4]⟩)] .z))) .z)) func91
def zIm:FS:=⟨(.cons t107 (.cons (.box t28) .nil)),(.cons t4 .nil),[none],fun x=>gA x.1 x.2.1⟩
theorem zBz:zIm.ok prog 147:=fS ((E0).S Qq) .z func147
def s95:FS:=⟨(.cons t36 .nil),(.cons t140 .nil),[none],fun x=>kR x.1⟩
theorem R5:s95.ok prog 95:=fS (((E0).S lA).S zBz) (sz (sz (sz (.s (sz (.b (.l ⟨[kv 16 t3,(true,4,(.o true t107 107))],[1,2,3,4,14,15],[16]⟩ [(some 0,⟨[(true,4,(.o true t107 107))],[1,2,3,4],[]⟩)] (sz (sz (.s (.b (sz (sz (.j ⟨[(true,4,(.o true t107 107))],[1,2,3,4,14,15,16],[]⟩ .z .z)))) .z)))))) (sz (.s (sz (.b (.l ⟨[kv 37 t3,kw 3 t140],[2,3,4,7,33,35,36],[37,3]⟩ [(some 2,⟨[kw 3 t140],[2,3],[3]⟩)] .z))) .z)))))) func95
def zJO:FS:=⟨(.cons t136 .nil),(.cons t23 .nil),[some 3],fun x=>vz x.1⟩
theorem qZ:zJO.ok prog 103:=fS (E0) (sz (sz (.s (sz (.b (.l ⟨[ko 3 t3 3,kv 7 t3],[6],[7]⟩ [(some 0,⟨[ko 3 t3 3],[],[]⟩)] (sz (sz (.s (.b (sz (sz (.j ⟨[ko 3 t3 3],[6,7],[]⟩ .z .z)))) .z)))))) .z))) func103
def zIT:FS:=⟨(.cons t3 (.cons (.box t136) .nil)),(.cons t4 .nil),[none],fun x=>yx x.1 x.2.1⟩
theorem zBo:zIT.ok prog 170:=fS (E0) .z func170
def zIl:FS:=⟨(.cons t140 (.cons t136 .nil)),(.cons t136 .nil),[none],fun x=>jl x.1 x.2.1⟩
theorem Qm:zIl.ok prog 148:=fS ((((E0).S W5).S zBo).S qZ) (sz (sz (.s (sz (.b (.l ⟨[kv 14 t3,kw 5 t136],[2,3,4,5,13],[14,5]⟩ [(some 0,⟨[kw 5 t136],[2,4,5],[5]⟩)] .z))) (.s (sz (.b (.l ⟨[(false,7,(.bv true t136 136)),kw 5 t136],[2,4,5],[5]⟩ [(some 2,⟨[kw 5 t136],[4,5],[5]⟩)] (sz (.s (.b (sz (sz (.b (.l ⟨[kv 39 t3,kw 5 t136],[2,4,5,7,37,38],[39,5]⟩ [(some 4,⟨[kw 5 t136],[2,4,5,7],[5]⟩)] .z))))) .z))))) .z)))) func148
def s96:FS:=⟨(.cons t140 (.cons t136 .nil)),(.cons t4 .nil),[none],fun x=>vb x.1 x.2.1⟩
theorem Wy:s96.ok prog 96:=fS ((E0).S Qm) (sz (sz (.s (sz (.b (.l ⟨[kv 11 t3,kw 5 t136],[2,3,5,10],[11,5]⟩ [(some 0,⟨[kw 5 t136],[2,3,5],[5]⟩)] .z))) .z))) func96
def s35:FS:=⟨(.cons t36 (.cons t23 .nil)),(.cons t4 .nil),[none],fun x=>zr x.1 x.2.1⟩
theorem zEz:s35.ok prog 35:=fS (((((E0).S Wy).S R5).S Wz).S HY) .z func35
def s78:FJ:=⟨.nil,(.pr (.ag (.pr (.v t30) (.pr (.v t33) (.pr (.o true t62 62) .un)))) .un),fun x=>gY ⟩
theorem zEu:s78.ok prog 78:=fJ ((E0).J W4) .z func78
def zIp:FS:=⟨(.cons t28 .nil),(.cons t28 .nil),[some 107],fun x=>zf x.1⟩
theorem zCC:zIp.ok prog 144:=fS (E0) .z func144
def zIn:FS:=⟨(.cons t107 (.cons (.box t107) .nil)),(.cons t4 .nil),[none],fun x=>yY x.1 x.2.1⟩
theorem zCA:zIn.ok prog 146:=fS ((E0).S EJ) .z func146
def zIo:FO:=⟨t107,107,(.cons t166 .nil),true,fun xs x=>zl xs x.1⟩
theorem zCB:zIo.ok prog 145:=fO ((E0).S Qi) (sz (sz (sz (.s (sz (.b (.l ⟨[kw 0 t28,kv 5 t3,kv 6 t3],[0,1],[5,6]⟩ [(some 0,⟨[kw 0 t28,kv 5 t3],[0],[5]⟩)] (sz (.s (.b (sz (sz (.j ⟨[kw 0 t28,kv 5 t3],[0,1,6],[5]⟩ .z .z)))) .z))))) (.s (.f [0] .z) (.s (.xg ⟨[(false,4,(.o false t107 107))],[],[]⟩) .z)))))) func145
def zIK:FS:=⟨(.cons t28 .nil),(.cons t43 .nil),[none],fun x=>Yu x.1⟩
theorem zBi:zIK.ok prog 180:=fS ((E0).S qX) (sz (sz (.s (sz (.b (.l ⟨[kv 11 t3],[9,10],[11]⟩ [(some 0,⟨[],[],[]⟩),(none,⟨[kv 2 t43],[],[2]⟩)] .z))) .z))) func180
def zHq:FS:=⟨(.cons t107 .nil),(.cons t203 .nil),[some 208],fun x=>Yz x.1⟩
theorem zBV:zHq.ok prog 200:=fS ((((E0).S Qg).S EF).S EH) .z func200
def zIe:FS:=⟨(.cons t107 .nil),(.cons t107 .nil),[some 106],fun x=>yX x.1⟩
theorem zBv:zIe.ok prog 159:=fS (E0) .z func159
def zHo:FS:=⟨(.cons t106 (.cons (.box t203) .nil)),(.cons t4 .nil),[none],fun x=>j0 x.1 x.2.1⟩
theorem zBT:zHo.ok prog 202:=fS ((E0).S D9) (sz (sz (.s (sz (.b (.l ⟨[kv 4 t3,kv 9 t3],[2,7,8],[4,9]⟩ [(some 0,⟨[kv 4 t3],[],[4]⟩)] (sz (sz (.s (.b (sz (sz (.j ⟨[kv 4 t3],[2,7,8,9],[4]⟩ .z .z)))) .z)))))) .z))) func202
def zHp:FO:=⟨t106,106,(.cons t198 .nil),true,fun xs x=>yG xs x.1⟩
theorem zBU:zHp.ok prog 201:=fO ((E0).S Qe) (sz (sz (sz (.s (sz (.b (.l ⟨[kw 0 t107,kv 5 t3,kv 6 t3],[0,1],[5,6]⟩ [(some 0,⟨[kw 0 t107,kv 5 t3],[0],[5]⟩)] (sz (.s (.b (sz (sz (.j ⟨[kw 0 t107,kv 5 t3],[0,1,6],[5]⟩ .z .z)))) .z))))) (.s (.f [0] .z) (.s (.xg ⟨[(false,4,(.o false t106 106))],[],[]⟩) .z)))))) func201
def zHn:FO:=⟨t106,106,(.cons t233 .nil),false,fun xs x=>z7 xs x.1⟩
theorem zBS:zHn.ok prog 203:=Mr (ρ:=Go.Proofs.Tryz.rM) Go.Proofs.Tryz.zEb (Wj 106 zEI (by kernel_rfl)).ty rfl ⟨_,func203,rfl,by kernel_rfl⟩
def zHV:FS:=⟨(.cons t3 (.cons t3 .nil)),(.cons t3 .nil),[none],fun x=>Zd x.1 x.2.1⟩
theorem zBA:zHV.ok prog 223:=fS (E0) .z func223
def zHm:FS:=⟨(.cons t106 (.cons t106 .nil)),(.cons t3 .nil),[none],fun x=>kF x.1 x.2.1⟩
theorem zBR:zHm.ok prog 204:=fS ((E0).S zBA) (sz (.b (sz (sz (.s (sz (.b (.l ⟨[kv 5 t3,kv 36 t3],[34,35],[5,36]⟩ [(some 0,⟨[kv 5 t3],[],[5]⟩)] .z))) .z))))) func204
def zHl:FO:=⟨t106,106,.nil,true,fun xs x=>yB xs ⟩
theorem zBQ:zHl.ok prog 205:=fO (E0) (sz (sz (.s (sz (.b (.l ⟨[kw 0 t107,kv 3 t3],[0],[3]⟩ [(some 0,⟨[kw 0 t107],[0],[]⟩),(none,⟨[(false,2,(.o false t106 106))],[],[]⟩)] (sz (.s (.b (sz (.s (.s (.f [0] .z) (.s (sz (.b (.l ⟨[kw 0 t107,kv 3 t3,kv 5 t3],[0,4],[3,5]⟩ [(some 2,⟨[kw 0 t107,kv 3 t3],[0],[3]⟩)] (sz (.s (.b (sz (.j ⟨[kw 0 t107,kv 3 t3],[0,4,5],[3]⟩ .z .z))) .z))))) (.s (.f [0] .z) (.s (.xg ⟨[(false,2,(.o false t106 106))],[],[]⟩) .z)))) .z))) .z))))) .z))) func205
def zIJ:FS:=⟨(.cons t107 .nil),(.cons t107 .nil),[some 106],fun x=>ga x.1⟩
theorem D8:zIJ.ok prog 181:=fS (((((((((E0).O zBQ).S zBR).O zBS).O zBU).S zBT).S zBv).S zBV).S lE) .z func181
def zHL:FS:=⟨(.cons t104 (.cons t104 .nil)),(.cons t104 .nil),[none],fun x=>K6 x.1 x.2.1⟩
theorem zAq:zHL.ok prog 243:=fS (E0) .z func243
def zHT:FS:=⟨(.cons t106 .nil),(.cons t106 .nil),[none],fun x=>YV x.1⟩
theorem zAy:zHT.ok prog 225:=fS ((E0).S zAq) .z func225
def zHU:GS:=⟨(.cons (.box t107) (.cons (.box t107) .nil)),(.cons (.slo t106) .nil),fun x=>ji x.1 x.2.1⟩
theorem zAz:zHU.ok prog 224:=fQ ((((E0).S D8).S Qh).S zAy) (sz (sz (.b (.l ⟨[kv 4 t107,kv 11 t3],[0,9,10],[4,11]⟩ [(some 0,⟨[],[],[]⟩),(none,⟨[],[],[]⟩)] (sz (sz (.s (.b (sz (.s (.s (.f [6] .z) (.s (.s .y .z) .z)) (.s (sz (.s .y .z)) .z)))) .z))))))) func224
def zHk:FS:=⟨(.cons t107 (.cons t107 .nil)),(.cons t235 .nil),[none],fun x=>Zc x.1 x.2.1⟩
theorem zBP:zHk.ok prog 206:=fS ((E0).Q zAz) (sz (.s (.f [2,3] .z) .z)) func206
def zII:FS:=⟨(.cons t28 (.cons t107 .nil)),(.cons t28 (.cons t43 .nil)),[none,none],fun x=>kD x.1 x.2.1⟩
theorem zBh:zII.ok prog 182:=fS (((((E0).S zBP).S EJ).S D8).S lE) (sz (sz (sz (.s (.f [16,6] .z) (.s (sz (.b (.l ⟨[kv 19 t3,kw 4 t28,kw 5 t43,(true,7,(.o true t107 107))],[1,4,5,6,7,17,18],[19,4,5]⟩ [(some 0,⟨[kw 4 t28,kw 5 t43,(true,7,(.o true t107 107))],[4,5,7],[4,5]⟩),(none,⟨[kw 4 t28,kw 5 t43],[4,5],[4,5]⟩)] (sz (sz (.s (.jb ⟨[kw 4 t28,kw 5 t43,(true,7,(.o true t107 107))],[1,4,5,6,7,17,18,19],[4,5]⟩ (sz (sz (sz (.b (.l ⟨[kw 4 t28,kw 5 t43,(true,7,(.o true t107 107))],[1,4,5,6,7,17,18,19,32],[4,5]⟩ [(none,⟨[kw 4 t28,kw 5 t43],[4,5],[4,5]⟩)] (sz .z))))))) .z)))))) .z))))) func182
def zId:FS:=⟨(.cons t107 (.cons t28 .nil)),(.cons t28 (.cons t43 .nil)),[none,none],fun x=>Ys x.1 x.2.1⟩
theorem zBu:zId.ok prog 160:=fS ((((((E0).S zBh).S D8).S lE).S zBi).S qX) (sz (sz (sz (sz (sz (.s (.s (.f [27] .z) (.b (.l ⟨[kv 8 t28,kv 30 t3],[28,29],[8,30]⟩ [(some 0,⟨[kv 8 t28],[],[8]⟩),(none,⟨[kv 4 t28,kv 5 t43],[],[4,5]⟩)] .z))) .z)))))) func160
def zJF:FS:=⟨(.cons t28 (.cons t107 .nil)),(.cons t4 (.cons t43 .nil)),[none,none],fun x=>ky x.1 x.2.1⟩
theorem zCK:zJF.ok prog 128:=fS ((E0).S zBu) .z func128
def s92:FS:=⟨(.cons t140 (.cons t136 .nil)),(.cons t4 (.cons t43 .nil)),[none,none],fun x=>vJ x.1 x.2.1⟩
theorem R6:s92.ok prog 92:=fS ((((((E0).S zCK).O zCB).S zCA).S qZ).S zCC) (sz (sz (.s (sz (.b (.l ⟨[ko 6 t107 107,kv 22 t3],[2,20,21],[22]⟩ [(some 0,⟨[ko 6 t107 107],[2],[]⟩)] .z))) (.s (.s (.f [6] .z) (.b (.l ⟨[kv 41 t3],[2,6,39,40],[41]⟩ [(some 2,⟨[],[],[]⟩),(none,⟨[kv 4 t4,kv 5 t43],[],[4,5]⟩)] (sz (sz (.s (.jb ⟨[],[2,6,39,40,41],[]⟩ .z) .z)))))) .z)))) func92
def s33:FS:=⟨(.cons t36 (.cons t23 .nil)),(.cons t4 (.cons t43 .nil)),[none,none],fun x=>jJ x.1 x.2.1⟩
theorem zAA:s33.ok prog 33:=fS ((((E0).S R6).S Wz).S HY) .z func33
def s79:FS:=⟨(.cons t36 (.cons t4 (.cons t23 .nil))),(.cons t4 .nil),[none],fun x=>yD x.1 x.2.1 x.2.2.1⟩
theorem zEt:s79.ok prog 79:=fS ((E0).S zAA) .z func79
def zJQ:FS:=⟨(.cons t140 (.cons t136 .nil)),(.cons t3 .nil),[none],fun x=>y6 x.1 x.2.1⟩
theorem EM:zJQ.ok prog 101:=fS ((E0).S qZ) (sz (sz (.s (sz (.b (.l ⟨[kv 5 t3,kv 11 t3],[2,9,10],[5,11]⟩ [(some 0,⟨[kv 5 t3],[],[5]⟩)] .z))) .z))) func101
def zJR(n:Nat):FK:=⟨(.cons t3 (.cons t136 .nil)),[.r t140 140,.p t3 3,.p t136 136,.s 147],t43,43,fun x c y=>YC n x.1 x.2.1 c.1 y.1 y.2.1⟩
theorem zCP:∀n,(zJR n).ok prog 100:=V8 ⟨_,func100,rfl,by kernel_rfl⟩ (fun _ _ _=>rfl) fun n ih=>fK ((((E0).S EM).S R6).S Wy) (sz (.s (sz (.j ⟨[kw 3 t3,kw 4 t136],[0,2,3,4,5,7],[3,4]⟩ (sz (.s (sz (.s .q .z)) (sz (sz (.j ⟨[kw 3 t3,kw 4 t136],[0,2,3,4,5,7],[3,4]⟩ (.xr [2,3] [0,1,2,3] [(1,[3])]) .z))))) .z)) (sz (.b (.l ⟨[kv 11 t3,kw 3 t3,kw 4 t136],[2,3,4,5,7],[11,3,4]⟩ [(some 0,⟨[kw 3 t3,kw 4 t136],[2,3,4,5],[3,4]⟩),(some 1000000007,⟨[kv 0 t43],[],[]⟩)] (sz (.s (.b (sz (sz .q))) .z))))))) ih func100
def zJM:FS:=⟨(.cons t140 (.cons t136 (.cons t136 .nil))),(.cons t4 .nil),[none],fun x=>ye x.1 x.2.1 x.2.2.1⟩
theorem Qs:zJM.ok prog 110:=fS ((((E0).S R6).S qZ).S Qm) (sz (sz (.s (sz (.b (.l ⟨[kv 18 t3],[3,7,16,17],[18]⟩ [(some 0,⟨[],[3,7],[]⟩),(none,⟨[kv 6 t4],[],[6]⟩)] .z))) .z))) func110
def zIk(n:Nat):FK:=⟨(.cons t3 (.cons t136 (.cons t136 .nil))),[.r t3 3,.r t140 140,.o t81 81 73,.s 185],.nil,0,fun x c y=>vZ n x.1 x.2.1 x.2.2.1 c.1 c.2.1 y.1⟩
theorem zBy:∀n,(zIk n).ok prog 151:=V8 ⟨_,func151,rfl,by kernel_rfl⟩ (fun _ _ _=>rfl) fun n ih=>fK (((E0).S Qs).S EM) (sz (.b (sz (.j ⟨[(true,5,(.o false t81 81))],[3,4,5,6],[]⟩ .z (sz (.j ⟨[(true,5,(.o false t81 81))],[3,4,5,6],[]⟩ .z (sz (.s (.xr [2,3,4,5] [0,1,3,2,4,5] [(0,[]),(1,[10])]) (sz (.s .q .q)))))))))) ih func151
def zJP:FS:=⟨(.cons t140 (.cons t3 .nil)),(.cons t73 .nil),[some 81],fun x=>gJ x.1 x.2.1⟩
theorem zCO:zJP.ok prog 102:=fSK (E0) (zBy 40) (sz (sz (sz (sz (.s .q .z))))) func102
def s37:FS:=⟨(.cons t36 .nil),(.cons t23 (.cons t3 (.cons t73 (.cons t43 .nil)))),[none,none,none,none],fun x=>gG x.1⟩
theorem R7:s37.ok prog 37:=fR (c:=Tryz.f37.body.getD .skip) (((((E0).S qZ).S zCO).S R5).S HY) (zCP 40) zEf .z .z (sz (sz (sz (sz (.s .q (sz (.s (.xr [1,5,6,7,8,9] [0,2,3,4,1,5,6,7,8,9] [(2,[2]),(3,[]),(4,[])]) .z))))))) (sz (.j ⟨[kw 0 t23,kw 1 t3,kw 2 t73,kw 3 t43],[0,1,2,3],[0,1,2,3]⟩ .z .z)) func37
def s19:FS:=⟨(.cons t23 (.cons t23 .nil)),(.cons t4 .nil),[none],fun x=>yr x.1 x.2.1⟩
theorem zFE:s19.ok prog 19:=fS (E0) (sz (sz (.s (sz (.b (.l ⟨[kv 5 t3],[0,1],[5]⟩ [(some 0,⟨[],[],[]⟩),(none,⟨[kv 4 t4],[],[4]⟩)] .z))) .z))) func19
def zJN(n:Nat):FK:=⟨(.cons t136 (.cons t136 .nil)),[.p t3 3,.r t73 73,.r t140 140,.s 158,.r t3 3],t156,156,fun x c y=>kG n x.1 x.2.1 c.1 c.2.1 c.2.2.1 y.1⟩
theorem zCN:∀n,(zJN n).ok prog 109:=V8 ⟨_,func109,rfl,by kernel_rfl⟩ (fun _ _ _=>rfl) fun n ih=>fK (((E0).S Qs).S EM) (sz (.s (sz (.s .q .z)) (sz (sz (.b (sz (.j ⟨[kw 2 t3],[2,3,4,5,6],[2]⟩ (.s (.xr [2,3,4,5] [0,1,3,2,4,5] [(0,[]),(1,[10])]) (.s (.xr [5,7] [0,1,2,3,4,5,6,7] [(2,[64,10]),(3,[64,10])]) (.s .q .q))) (sz (.j ⟨[],[2,3,4,5,6],[]⟩ .z (sz (sz .q))))))))))) ih func109
def s40:FS:=⟨(.cons t36 (.cons t3 (.cons t73 .nil))),(.cons t4 .nil),[none],fun x=>zp x.1 x.2.1 x.2.2.1⟩
theorem W9:s40.ok prog 40:=fR (c:=Tryz.f40.body.getD .skip) (((E0).S R5).S HY) (zCN 40) zAl .z .z (sz (sz (sz (.s .q .z)))) (sz (.j ⟨[kw 0 t4],[0],[0]⟩ .z .z)) func40
def s80:FS:=⟨(.cons t36 (.cons t3 (.cons t23 .nil))),(.cons t4 .nil),[none],fun x=>yU x.1 x.2.1 x.2.2.1⟩
theorem zEs:s80.ok prog 80:=fS ((((E0).S W9).S zFE).S R7) .z func80
def s43:FS:=⟨.nil,(.cons t81 .nil),[none],fun x=>zn ⟩
theorem zEy:s43.ok prog 43:=fS (E0) .z func43
def s81:FS:=⟨(.cons t3 .nil),(.cons t81 .nil),[none],fun x=>yM x.1⟩
theorem zEr:s81.ok prog 81:=fS (E0) .z func81
def s82:FS:=⟨.nil,(.cons t81 .nil),[none],fun x=>y5 ⟩
theorem zEq:s82.ok prog 82:=fS (E0) .z func82
def s27:FS:=⟨.nil,(.cons t4 .nil),[none],fun x=>jG ⟩
theorem zFD:s27.ok prog 27:=fS ((((((((((((E0).S zEq).S zEr).S zEy).S W9).S R7).S zEs).S zEt).S zAA).J zEu).S zEz).J W4) (sz (sz (.s (.xg ⟨[kv 2 t4],[1],[2]⟩) (sz (.s (.xg ⟨[kv 5 t4],[1,2],[5]⟩) (sz (sz (sz (sz (sz (sz (.s (.f [12] (.xr [33,35,38] [0,1,2,3,4,5,6,7,8,9,10,11,12,13,14,15,16,17,18,19,20,21,22,23,24,25,26,27,28,29,30,31,32,34,33,35,36,37,38,39,40,41,42] [(32,[156,158]),(34,[])])) .z)))))))))))) func27
def s29:FS:=⟨(.cons t22 .nil),(.cons t22 .nil),[some 23],fun x=>kL x.1⟩
theorem zFB:s29.ok prog 29:=fS (E0) (sz (sz (.s (sz (.b (.l ⟨[ko 3 t23 23,kv 4 t3],[0],[4]⟩ [(some 0,⟨[ko 3 t23 23],[],[]⟩)] .z))) .z))) func29
def s41:FS:=⟨(.cons t3 (.cons t3 .nil)),(.cons t3 .nil),[none],fun x=>zz x.1 x.2.1⟩
theorem W8:s41.ok prog 41:=fS (E0) .z func41
def s85:FM:=⟨(.cons (.box t130) (.cons t3 .nil)),[some 130,none],(.cons t3 .nil),fun x=>zG x.1 x.2.1⟩
theorem HW:s85.ok prog 85:=fM ((E0).S W8) .z func85
def zIZ:FS:=⟨(.cons t104 (.cons t104 .nil)),(.cons t104 .nil),[none],fun x=>Z5 x.1 x.2.1⟩
theorem zBs:zIZ.ok prog 164:=fS (E0) .z func164
def zIw:FS:=⟨(.cons t106 .nil),(.cons t106 .nil),[none],fun x=>vM x.1⟩
theorem Qo:zIw.ok prog 137:=fS ((E0).S zBs) .z func137
def zHz:FS:=⟨(.cons t104 .nil),(.cons t26 .nil),[none],fun x=>yC x.1⟩
theorem Qd:zHz.ok prog 191:=fS (E0) .z func191
def zHc:FS:=⟨(.cons t3 .nil),(.cons t3 .nil),[none],fun x=>vX x.1⟩
theorem zBH:zHc.ok prog 214:=fS (E0) .z func214
def zHy:FS:=⟨(.cons t104 .nil),(.cons t104 (.cons t3 .nil)),[none,none],fun x=>gx x.1⟩
theorem zBc:zHy.ok prog 192:=fS (((E0).S zBH).S Qd) (sz (sz (sz (.s (sz (.b (.l ⟨[kv 5 t3,kv 6 t3,kw 2 t104],[1,2,4],[5,6,2]⟩ [(some 0,⟨[kv 5 t3,kw 2 t104],[1,2],[5,2]⟩),(none,⟨[kv 3 t3,kw 2 t104],[2],[3,2]⟩)] (sz (.s (.b (sz (sz (.b (.l ⟨[kv 5 t3,kv 7 t3],[1,2,4,6],[5,7]⟩ [(some 2,⟨[kv 5 t3],[1,2,4,6],[5]⟩)] .z))))) .z))))) (sz (.s (.xr [14] [0,1,2,3,4,5,6,7,8,9,10,11,12,13,14,15] [(13,[2])]) .z)))))) func192
def zIU:FS:=⟨(.cons t106 .nil),(.cons t4 .nil),[none],fun x=>gX x.1⟩
theorem zBp:zIU.ok prog 169:=fS (((E0).S zBc).S Qd) (sz (sz (.s (sz (.b (.l ⟨[kv 4 t3],[1,3],[4]⟩ [(some 0,⟨[],[1],[]⟩),(none,⟨[kv 2 t4],[],[2]⟩)] .z))) .z))) func169
def zIr:FS:=⟨(.cons t107 .nil),(.cons t43 .nil),[none],fun x=>zZ x.1⟩
theorem J4:zIr.ok prog 142:=fS ((E0).S zBp) (sz (sz (.s (sz (.b (.l ⟨[kv 3 t3],[0],[3]⟩ [(some 0,⟨[],[],[]⟩),(none,⟨[kv 2 t43],[],[2]⟩)] .z))) .z))) func142
def zIb:FS:=⟨(.cons t107 .nil),(.cons t107 .nil),[some 106],fun x=>gP x.1⟩
theorem EB:zIb.ok prog 162:=fS ((E0).S HX) (sz (sz (sz (.s (.xr [0,2,6] [1,3,4,0,2,5,6,7] [(1,[]),(3,[7]),(4,[7])]) .z)))) func162
def zHR:FS:=⟨(.cons t104 (.cons t104 .nil)),(.cons t104 .nil),[none],fun x=>vf x.1 x.2.1⟩
theorem zAw:zHR.ok prog 227:=fS (E0) .z func227
def zHS:FS:=⟨(.cons t104 (.cons t104 .nil)),(.cons t3 .nil),[none],fun x=>Z6 x.1 x.2.1⟩
theorem zAx:zHS.ok prog 226:=fS (E0) .z func226
def zHQ:FS:=⟨(.cons t104 (.cons t3 .nil)),(.cons t104 .nil),[none],fun x=>yk x.1 x.2.1⟩
theorem zAv:zHQ.ok prog 228:=fS (E0) .z func228
def zHP:FS:=⟨(.cons t104 (.cons t104 .nil)),(.cons t104 .nil),[none],fun x=>kK x.1 x.2.1⟩
theorem zAu:zHP.ok prog 229:=fS (E0) .z func229
def zHO:FS:=⟨(.cons t3 (.cons t3 .nil)),(.cons t3 .nil),[none],fun x=>zu x.1 x.2.1⟩
theorem zAt:zHO.ok prog 230:=fS (E0) (sz (.s (.b (.l ⟨[kv 0 t3,kv 1 t3],[],[0,1]⟩ [(some 0,⟨[kv 0 t3],[],[0]⟩)] .z)) .z)) func230
def zHj:FS:=⟨(.cons t106 (.cons t106 (.cons t106 .nil))),(.cons t208 (.cons t4 .nil)),[none,none],fun x=>vL x.1 x.2.1 x.2.2.1⟩
theorem zBO:zHj.ok prog 207:=fS ((((((E0).S zAt).S zAu).S zAv).S zAx).S zAw) (sz (sz (sz (.s (.xr [8,9] [0,1,2,3,4,5,6,7,8,9] [(0,[]),(1,[]),(2,[]),(3,[]),(4,[]),(5,[]),(6,[]),(7,[])]) (sz (sz (.s (sz (.j ⟨[kv 8 t3,kw 9 t104],[6,9],[8,9]⟩ .z .z)) .z))))))) func207
def zIG:FS:=⟨(.cons t106 (.cons t208 .nil)),(.cons t3 .nil),[none],fun x=>zd x.1 x.2.1⟩
theorem D7:zIG.ok prog 184:=fS (E0) .z func184
def zHi:FS:=⟨(.cons t107 (.cons t208 .nil)),(.cons t4 .nil),[none],fun x=>gL x.1 x.2.1⟩
theorem zBN:zHi.ok prog 208:=fS ((E0).S D7) (sz (.s (sz (.b (.l ⟨[kv 5 t3],[0,3],[5]⟩ [(some 0,⟨[],[],[]⟩),(none,⟨[kv 4 t4],[],[4]⟩)] .z))) .z)) func208
def zHh:FS:=⟨(.cons t203 (.cons t208 .nil)),(.cons t4 .nil),[none],fun x=>y4 x.1 x.2.1⟩
theorem zBM:zHh.ok prog 209:=fS (E0) (sz (.s (sz (.b (.l ⟨[kv 5 t3],[0,3],[5]⟩ [(some 0,⟨[],[],[]⟩),(none,⟨[kv 4 t4],[],[4]⟩)] .z))) .z)) func209
def zIH:FS:=⟨(.cons t107 .nil),(.cons t203 .nil),[some 208],fun x=>vn x.1⟩
theorem Qf:zIH.ok prog 183:=fS ((((E0).S zBM).S zBN).S zBO) (sz (sz (.s (sz (.b (.l ⟨[ko 3 t208 208,kv 4 t3],[0],[4]⟩ [(some 0,⟨[ko 3 t208 208],[],[]⟩)] (sz (.s (.b (sz (.b (.l ⟨[ko 3 t208 208,kv 5 t3],[0,4],[5]⟩ [(some 2,⟨[ko 3 t208 208],[0,4],[]⟩)] (sz (.s (.b (sz (.b (.l ⟨[ko 3 t208 208,kv 6 t3],[0,4,5],[6]⟩ [(some 4,⟨[ko 3 t208 208],[0,4,5],[]⟩)] (sz (.s (.b (.s (.xr [16,17] [0,1,2,3,4,5,6,7,8,9,10,11,12,13,14,15,16,17,18] [(0,[]),(1,[]),(2,[]),(3,[]),(4,[]),(5,[]),(6,[]),(7,[]),(8,[]),(9,[]),(10,[]),(11,[]),(12,[]),(13,[]),(14,[]),(15,[7])]) (sz (.j ⟨[ko 3 t208 208],[0,4,5,6],[]⟩ .z .z)))) .z)))))) .z)))))) .z))))) .z))) func183
def zIc:FS:=⟨(.cons t107 .nil),(.cons t4 .nil),[none],fun x=>gw x.1⟩
theorem Qk:zIc.ok prog 161:=fS (((E0).S D7).S Qf) (sz (sz (.s (sz (.b (.l ⟨[kv 4 t3],[0,3],[4]⟩ [(some 0,⟨[],[],[]⟩),(none,⟨[kv 2 t4],[],[2]⟩)] (sz (.s (.b (sz (.s (sz (.b (.l ⟨[kv 5 t4,kv 6 t3],[0,3,4],[5,6]⟩ [(some 2,⟨[kv 5 t4],[0,3,4],[5]⟩)] .z))) .z))) .z))))) .z))) func161
def zJD:FS:=⟨(.cons t107 .nil),(.cons t4 .nil),[none],fun x=>z6 x.1⟩
theorem qY:zJD.ok prog 130:=fS ((((E0).S Qk).S EB).S J4) (sz (.s (.xg ⟨[kv 2 t4],[],[2]⟩) .z)) func130
def s83:FS:=⟨(.cons t22 .nil),(.cons t30 .nil),[none],fun x=>jx x.1⟩
theorem zEp:s83.ok prog 83:=fS (((((E0).S qY).S Qo).S HX).M HW) (sz (sz (.s (sz (.b (.l ⟨[kv 4 t3,kw 3 t41],[0,2,3],[4,3]⟩ [(some 0,⟨[kw 3 t41],[2,3],[3]⟩)] .z))) (sz (sz (sz (.s (.xg ⟨[kv 8 t4,kw 5 t130],[2,3,5,6,7],[8,5]⟩) (sz (sz (.s (sz (.b (.l ⟨[kv 9 t3,kv 11 t3,(true,6,(.ag (.pr (.v t9) (.pr (.o true t107 107) (.pr (.o true t3 3) .un))))),kw 5 t130],[2,3,5,6,7,8,10],[9,11,5]⟩ [(some 2,⟨[(true,6,(.ag (.pr (.v t9) (.pr (.o true t107 107) (.pr (.o true t3 3) .un))))),kw 5 t130],[2,3,5,6],[5]⟩)] (sz (.s (.b (sz (sz (.s (sz (.j ⟨[(true,6,(.ag (.pr (.v t9) (.pr (.o true t107 107) (.pr (.o true t3 3) .un)))))],[2,3,5,6,7,8,9,10,11,12],[]⟩ .z .z)) .z)))) .z))))) (.s (.s (.xg ⟨[kv 102 t4,kw 5 t130],[2,3,5,6],[102,5]⟩) (.j ⟨[(true,6,(.ag (.pr (.v t9) (.pr (.o true t107 107) (.pr (.o true t3 3) .un)))))],[2,3,6],[]⟩ (sz (sz (.s (.xr [0,6,9] [1,2,3,4,5,7,8,0,6,9,10] [(1,[]),(2,[]),(3,[]),(4,[]),(5,[]),(7,[113]),(8,[113])]) (.s (.xr [0,6,10] [1,2,3,4,5,7,0,6,8,9,10,11] [(1,[]),(2,[]),(3,[]),(4,[]),(5,[]),(7,[123])]) (sz (.j ⟨[(true,6,(.ag (.pr (.v t9) (.pr (.o true t107 107) (.pr (.o true t3 3) .un)))))],[2,3,6],[]⟩ .z .z)))))) .z)) (sz (.s (sz (.b (.l ⟨[kv 18 t3,(true,6,(.ag (.pr (.v t9) (.pr (.o true t107 107) (.pr (.o true t3 3) .un))))),kw 17 t130],[2,6,17],[18,17]⟩ [(some 4,⟨[(true,6,(.ag (.pr (.v t9) (.pr (.o true t107 107) (.pr (.o true t3 3) .un)))))],[2,6],[]⟩)] (sz (.s (.b (.xr [4,8,10] [0,1,2,3,4,5,6,7,8,9,10] [(0,[165,17,154]),(1,[165,17,154]),(2,[165,17,154])])) .z))))) .z))))))))))))) func83
def s86:FS:=⟨(.cons t22 (.cons t30 .nil)),(.cons t28 .nil),[some 107],fun x=>vK x.1 x.2.1⟩
theorem W1:s86.ok prog 86:=fS (((E0).S HX).M HW) (sz (sz (.s (sz (.b (.l ⟨[ko 5 t107 107,kv 6 t3],[0,3],[6]⟩ [(some 0,⟨[ko 5 t107 107],[],[]⟩)] (sz (.s (.b (sz (sz (.s (.xr [7,10] [0,1,2,3,4,5,6,7,8,9,10,11] [(0,[33,7,27]),(1,[33,7,27]),(2,[33,7,27])]) (.s (sz (.j ⟨[kv 9 t107,kw 7 t130],[0,3,5,6,7,8],[9,7]⟩ (sz (.xr [5,10] [0,1,2,3,4,5,6,7,8,9,10,11] [(0,[52,7,27]),(1,[52,7,27]),(2,[52,7,27]),(3,[52,7,27])])) .z)) (.s (sz (.j ⟨[kv 9 t107],[0,3,5,6],[9]⟩ (sz (.xr [5,11,17,20] [0,1,2,3,4,7,8,9,10,13,14,15,16,5,6,11,12,17,18,19,20,21] [(0,[75,7,27,81,87]),(1,[75,7,27,81,87]),(2,[75,7,27,81,87]),(3,[75,7,27,81,87]),(6,[81,7,27,87]),(7,[75,7,27,81,87]),(8,[75,7,27,81,87]),(9,[75,7,27,81,87]),(10,[75,7,27]),(12,[87,7,27]),(13,[75,7,27,81,87]),(14,[75,7,27,81,87]),(15,[75,7,27,81,87]),(16,[75,7,27,81])])) .z)) .z)))))) .z))))) .z))) func86
def zJC:FS:=⟨(.cons t107 (.cons t107 .nil)),(.cons t4 .nil),[none],fun x=>zb x.1 x.2.1⟩
theorem lD:zJC.ok prog 131:=fS ((((E0).S Qk).S EB).S J4) .z func131
def s67:FS:=⟨(.cons t30 .nil),(.cons t43 .nil),[none],fun x=>gV x.1⟩
theorem W6:s67.ok prog 67:=fS (((E0).S lD).S qY) (sz (sz (sz (.s (sz (.b (.l ⟨[kv 3 t3],[1],[3]⟩ [(some 0,⟨[],[1],[]⟩),(none,⟨[kv 2 t43],[],[2]⟩)] .z))) (.s (sz (.b (.l ⟨[kv 4 t3],[1],[4]⟩ [(some 2,⟨[],[],[]⟩),(none,⟨[kv 2 t43],[],[2]⟩)] (sz (.s (.b (sz (sz (.b (.l ⟨[kv 5 t3],[1,4],[5]⟩ [(some 4,⟨[],[1,4],[]⟩),(none,⟨[kv 2 t43],[],[2]⟩)] .z))))) .z))))) .z))))) func67
def zJB:FS:=⟨(.cons t28 .nil),(.cons t43 .nil),[none],fun x=>yZ x.1⟩
theorem Qp:zJB.ok prog 132:=fS ((E0).S J4) (sz (.s (sz (.b (.l ⟨[kv 3 t3],[0],[3]⟩ [(some 0,⟨[],[],[]⟩),(none,⟨[kv 2 t43],[],[2]⟩)] .z))) .z)) func132
def s89:FS:=⟨(.cons t30 (.cons t33 .nil)),(.cons t4 .nil),[none],fun x=>gv x.1 x.2.1⟩
theorem W0:s89.ok prog 89:=fS ((E0).S Qp) .z func89
def zJL:FS:=⟨(.cons t28 .nil),(.cons t28 .nil),[some 107],fun x=>gD x.1⟩
theorem Qr:zJL.ok prog 111:=fS (E0) (sz (sz (.s (sz (.b (.l ⟨[ko 3 t107 107,kv 4 t3],[0],[4]⟩ [(some 0,⟨[ko 3 t107 107],[],[]⟩)] .z))) .z))) func111
def zJA:FS:=⟨(.cons t107 (.cons t28 .nil)),(.cons t4 .nil),[none],fun x=>yy x.1 x.2.1⟩
theorem zCI:zJA.ok prog 133:=fS ((E0).S lD) (sz (.s (sz (.b (.l ⟨[kv 5 t3],[0,1],[5]⟩ [(some 0,⟨[],[],[]⟩),(none,⟨[kv 4 t4],[],[4]⟩)] .z))) .z)) func133
def zIy:FS:=⟨(.cons t28 (.cons t107 .nil)),(.cons t28 .nil),[some 107],fun x=>vd x.1 x.2.1⟩
theorem zCG:zIy.ok prog 135:=fS ((E0).S lD) (sz (sz (.s (sz (.b (.l ⟨[ko 5 t107 107,kv 6 t3],[0,1],[6]⟩ [(some 0,⟨[ko 5 t107 107],[],[]⟩)] (sz (.s (.b (sz (.j ⟨[ko 5 t107 107],[0,1,6],[]⟩ .z .z))) .z))))) .z))) func135
def zIF:FS:=⟨(.cons t28 .nil),(.cons t43 .nil),[none],fun x=>jZ x.1⟩
theorem zBg:zIF.ok prog 185:=fS ((E0).S J4) (sz (sz (.s (sz (.b (.l ⟨[kv 3 t3],[0],[3]⟩ [(some 0,⟨[],[],[]⟩),(none,⟨[kv 2 t43],[],[2]⟩)] .z))) .z))) func185
def zHg:FS:=⟨(.cons t107 .nil),(.cons t203 .nil),[some 208],fun x=>jF x.1⟩
theorem zBL:zHg.ok prog 210:=fS ((((E0).S Qf).S EB).S J4) .z func210
def zHN:FS:=⟨(.cons t106 (.cons t106 .nil)),(.cons t3 .nil),[none],fun x=>y8 x.1 x.2.1⟩
theorem zAs:zHN.ok prog 231:=fS (E0) (sz (sz (sz (.s (sz (.b (.l ⟨[kv 7 t3],[5,6],[7]⟩ [(some 0,⟨[],[],[]⟩),(none,⟨[kv 4 t3],[],[4]⟩)] .z))) .z)))) func231
def zHf:FS:=⟨(.cons t107 (.cons t106 .nil)),(.cons t107 .nil),[none],fun x=>jO x.1 x.2.1⟩
theorem zBK:zHf.ok prog 211:=fS ((E0).S zAs) (sz (sz (.s (.b (.l ⟨[kv 5 t3],[0,3],[5]⟩ [(some 0,⟨[kv 5 t3],[0,3],[5]⟩)] .z)) .z))) func211
def zIE:FS:=⟨(.cons t107 .nil),(.cons t107 .nil),[none],fun x=>zm x.1⟩
theorem D6:zIE.ok prog 186:=fS (((((E0).S zBK).S D7).S zBL).S qY) (sz (sz (sz (sz (.s (sz (.b (.l ⟨[kv 4 t107,kv 5 t3],[0,3],[4,5]⟩ [(some 0,⟨[kv 4 t107],[],[4]⟩)] (sz (.s (.b (sz (.s (sz (.b (.l ⟨[kv 6 t3,kv 7 t3],[0,3,4,5],[6,7]⟩ [(some 2,⟨[kv 6 t3],[0,3,4,5],[6]⟩)] (sz (.s (.b (sz (.j ⟨[kv 6 t3],[0,3,4,5,7],[6]⟩ .z .z))) .z))))) (sz (.j ⟨[kv 4 t107],[0,3,5],[4]⟩ .z .z))))) .z))))) .z))))) func186
def zHM:FS:=⟨(.cons t107 (.cons t106 .nil)),(.cons t107 .nil),[some 106],fun x=>yL x.1 x.2.1⟩
theorem zAr:zHM.ok prog 232:=fS (E0) (sz (.s (.xr [0,2,5] [1,3,4,0,2,5,6] [(1,[]),(3,[5]),(4,[5])]) .z)) func232
def zHe:FS:=⟨(.cons t107 (.cons t107 .nil)),(.cons t28 (.cons t43 .nil)),[some 107,none],fun x=>gW x.1 x.2.1⟩
theorem zBJ:zHe.ok prog 212:=fS ((((E0).S D6).S zAr).S Qo) (sz (sz (sz (.s (sz (.b (.l ⟨[ko 6 t107 107,kv 7 t107,kv 8 t3],[1],[7,8]⟩ [(some 0,⟨[ko 6 t107 107],[],[]⟩),(none,⟨[ko 4 t107 107,kv 5 t43],[],[5]⟩)] (sz (.s (.b (sz (sz (.s (sz (.j ⟨[ko 6 t107 107],[1,7,8],[]⟩ .z .z)) .z)))) .z))))) .z)))) func212
def zID:FS:=⟨(.cons t28 (.cons t107 .nil)),(.cons t28 (.cons t43 .nil)),[none,none],fun x=>y7 x.1 x.2.1⟩
theorem zBf:zID.ok prog 187:=fS (((((E0).S zBJ).S D6).S lD).S qY) (sz (sz (sz (.s (sz (.b (.l ⟨[ko 6 t107 107,kv 7 t3],[0,1],[7]⟩ [(some 0,⟨[ko 6 t107 107],[],[]⟩),(none,⟨[kv 4 t28,kv 5 t43],[],[4,5]⟩)] (sz (.s (.jb ⟨[ko 6 t107 107],[0,1,7],[]⟩ .z) .z))))) .z)))) func187
def zIa:FS:=⟨(.cons t107 (.cons t28 .nil)),(.cons t28 (.cons t43 .nil)),[none,none],fun x=>jY x.1 x.2.1⟩
theorem zBt:zIa.ok prog 163:=fS ((((((E0).S zBf).S D6).S qY).S zBg).S J4) (sz (sz (.s (sz (.j ⟨[kv 6 t43],[0,1],[6]⟩ .z .z)) (sz (sz (.s (sz (.j ⟨[kv 7 t28],[1],[7]⟩ .z .z)) (.s (.s (.f [26] .z) (.b (.l ⟨[kv 7 t28,kv 8 t3],[1],[7,8]⟩ [(some 0,⟨[kv 7 t28],[],[7]⟩),(none,⟨[kv 4 t28,kv 5 t43],[],[4,5]⟩)] .z))) .z))))))) func163
def zIz:FS:=⟨(.cons t28 (.cons t107 .nil)),(.cons t4 (.cons t43 .nil)),[none,none],fun x=>vH x.1 x.2.1⟩
theorem zCH:zIz.ok prog 134:=fS ((E0).S zBt) .z func134
def s68:FS:=⟨(.cons t30 (.cons t33 (.cons t28 (.cons t28 .nil)))),(.cons t33 (.cons t43 .nil)),[none,none],fun x=>jX x.1 x.2.1 x.2.2.1 x.2.2.2.1⟩
theorem zEv:s68.ok prog 68:=fS ((((((((E0).S zCH).S zCG).S zCI).S Qr).S Qp).S W0).S W6) (sz (sz (sz (sz (sz (.s (sz (.j ⟨[kv 10 t43],[2,3,4,5,8],[10]⟩ .z .z)) (sz (sz (sz (.s (sz (.b (.l ⟨[kv 12 t3,kw 8 t33,(true,11,(.ag (.pr (.o true t4 4) (.pr (.o true t4 4) (.pr (.v t28) .un)))))],[2,3,4,5,8,11],[12,8]⟩ [(some 0,⟨[kw 8 t33,(true,11,(.ag (.pr (.o true t4 4) (.pr (.o true t4 4) (.pr (.v t28) .un)))))],[8,11],[8]⟩),(none,⟨[kv 9 t43,kw 8 t33],[8],[9,8]⟩)] (sz (.s (.b (sz (sz (sz (.s (sz (.j ⟨[kv 14 t4,kw 8 t33],[2,3,4,5,8,11,12],[14,8]⟩ .z .z)) .z))))) .z))))) .z)))))))))) func68
def s44:FS:=⟨(.cons t30 (.cons t23 (.cons t3 .nil))),(.cons t62 .nil),[none],fun x=>yj x.1 x.2.1 x.2.2.1⟩
theorem W7:s44.ok prog 44:=fS (((E0).S W1).M HW) (sz (sz (sz (.s (.s (.xg ⟨[kv 25 t4,kw 7 t130],[1,2,3,6,7,8],[25,7]⟩) (.j ⟨[(true,8,(.ag (.pr (.o true t107 107) (.pr (.o true t107 107) (.pr (.v t3) (.pr (.o true t3 3) .un))))))],[1,3,6,7,8],[]⟩ .z .z)) (sz (.s (sz (.b (.l ⟨[kv 10 t3,(true,8,(.ag (.pr (.o true t107 107) (.pr (.o true t107 107) (.pr (.v t3) (.pr (.o true t3 3) .un)))))),kw 7 t130],[1,3,6,7,8,9],[10,7]⟩ [(some 0,⟨[(true,8,(.ag (.pr (.o true t107 107) (.pr (.o true t107 107) (.pr (.v t3) (.pr (.o true t3 3) .un))))))],[1,3,6,8,9],[]⟩)] (sz (.s (.b (sz (.s (sz (.j ⟨[kv 11 t4,kw 7 t130],[1,3,6,7,8,9,10],[11,7]⟩ (.xg ⟨[kv 11 t4,kw 7 t130],[1,3,6,7,8,9,10],[11,7]⟩) .z)) (sz (.j ⟨[(true,8,(.ag (.pr (.o true t107 107) (.pr (.o true t107 107) (.pr (.v t3) (.pr (.o true t3 3) .un))))))],[1,3,6,7,8,9,10],[]⟩ (.xr [2,8,9,10,12] [0,1,3,4,5,6,7,2,8,9,10,11,12] [(0,[58]),(1,[58]),(3,[]),(4,[]),(5,[]),(6,[]),(7,[])]) .z))))) .z))))) (.s (sz (.j ⟨[(true,8,(.ag (.pr (.o true t107 107) (.pr (.o true t107 107) (.pr (.v t3) (.pr (.o true t3 3) .un))))))],[1,3,6,8,9],[]⟩ .z .z)) (.s (sz (.j ⟨[(true,8,(.ag (.pr (.o true t107 107) (.pr (.o true t107 107) (.pr (.v t3) (.pr (.o true t3 3) .un))))))],[6,8],[]⟩ .z .z)) .z)))))))) func44
def zIq:FS:=⟨(.cons t23 .nil),(.cons t4 .nil),[none],fun x=>jT x.1⟩
theorem zCD:zIq.ok prog 143:=fS (E0) (sz (.s (sz (.b (.l ⟨[kv 3 t3],[0],[3]⟩ [(some 0,⟨[],[],[]⟩),(none,⟨[kv 2 t4],[],[2]⟩)] .z))) .z)) func143
def s90:FS:=⟨(.cons t34 (.cons t3 .nil)),(.cons t43 .nil),[none],fun x=>gE x.1 x.2.1⟩
theorem zEm:s90.ok prog 90:=fS (((E0).S zCD).S J4) (sz (sz (.s (.xr [0,3,6] [1,2,4,5,0,3,6,7] [(1,[]),(2,[]),(4,[14]),(5,[14])]) (.s (sz (.b (.l ⟨[kv 7 t3],[0,1,5,6],[7]⟩ [(some 0,⟨[],[0,1,5],[]⟩),(none,⟨[kv 4 t43],[],[4]⟩)] .z))) (sz (.s (sz (.b (.l ⟨[kv 9 t3],[0,1,5],[9]⟩ [(some 2,⟨[],[5],[]⟩),(none,⟨[kv 4 t43],[],[4]⟩)] .z))) .z)))))) func90
def s31:FS:=⟨(.cons t36 .nil),(.cons t43 .nil),[none],fun x=>gU x.1⟩
theorem zFA:s31.ok prog 31:=fS ((((E0).S zEm).S W0).S W6) (sz (sz (sz (sz (sz (sz (.s (sz (.b (.l ⟨[kv 4 t3,kv 5 t3],[1],[4,5]⟩ [(some 0,⟨[kv 4 t3],[],[4]⟩),(none,⟨[kv 2 t43],[],[2]⟩)] .z))) .z))))))) func31
def s28:FJ:=⟨(.cons t22 .nil),(.pr (.ag (.pr (.v t30) (.pr (.v t33) (.pr (.o true t62 62) .un)))) .un),fun x=>jw x.1⟩
theorem zFC:s28.ok prog 28:=fJ ((((((((E0).S zFA).S W7).S zEv).S W1).M HW).S W2).S zEp) (sz (sz (.s (.xr [2,4,5] [0,1,2,3,4,5] [(0,[]),(1,[]),(3,[])]) (.s (sz (.j ⟨[(true,4,(.ag (.pr (.v t30) (.pr (.v t33) (.pr (.o true t62 62) .un)))))],[0,2,3,4],[]⟩ (sz (sz (.j ⟨[(true,4,(.ag (.pr (.v t30) (.pr (.v t33) (.pr (.o true t62 62) .un)))))],[0,2,3,4],[]⟩ (.s (.xr [19,20] [0,1,2,3,4,5,6,7,8,9,10,11,12,13,14,15,16,17,18,19,20,21] [(0,[]),(1,[]),(2,[]),(3,[]),(4,[]),(5,[]),(6,[]),(7,[]),(8,[]),(9,[]),(10,[]),(11,[]),(12,[]),(13,[]),(14,[]),(15,[]),(16,[]),(17,[]),(18,[6])]) (sz (.j ⟨[(true,4,(.ag (.pr (.v t30) (.pr (.v t33) (.pr (.o true t62 62) .un)))))],[0,2,3,4],[]⟩ .z .z))) .z))) .z)) (.s (sz (.b (.l ⟨[kv 8 t3,(true,4,(.ag (.pr (.v t30) (.pr (.v t33) (.pr (.o true t62 62) .un)))))],[0,2,3,4],[8]⟩ [(some 0,⟨[(true,4,(.ag (.pr (.v t30) (.pr (.v t33) (.pr (.o true t62 62) .un)))))],[2,3,4],[]⟩)] .z))) (.s (sz (.j ⟨[(true,4,(.ag (.pr (.v t30) (.pr (.v t33) (.pr (.o true t62 62) .un)))))],[2,4],[]⟩ .z .z)) (.s (.b (.l ⟨[(true,4,(.ag (.pr (.v t30) (.pr (.v t33) (.pr (.o true t62 62) .un)))))],[2,4],[]⟩ [(some 2,⟨[(true,4,(.ag (.pr (.v t30) (.pr (.v t33) (.pr (.o true t62 62) .un)))))],[2,4],[]⟩)] (sz (.b (.xg ⟨[(true,4,(.ag (.pr (.v t30) (.pr (.v t33) (.pr (.o true t62 62) .un)))))],[2,4],[]⟩))))) .z))))))) func28
def s16:FJ:=⟨(.cons t36 (.cons t26 .nil)),(.pr (.ag (.pr (.v t30) (.pr (.v t33) (.pr (.o true t62 62) .un)))) .un),fun x=>kJ x.1 x.2.1⟩
theorem zFF:s16.ok prog 16:=fJ ((E0).S W8) (sz (sz (.s (sz (.b (.l ⟨[kv 6 t3,(true,5,(.ag (.pr (.v t30) (.pr (.v t33) (.pr (.o true t62 62) .un)))))],[2,3,4,5],[6]⟩ [(some 0,⟨[(true,5,(.ag (.pr (.v t30) (.pr (.v t33) (.pr (.o true t62 62) .un)))))],[2,3,4,5],[]⟩)] .z))) (sz (sz (sz (.s (sz (.b (sz (.j ⟨[(true,5,(.ag (.pr (.v t30) (.pr (.v t33) (.pr (.o true t62 62) .un)))))],[4,5],[]⟩ .z (sz (.j ⟨[(true,5,(.ag (.pr (.v t30) (.pr (.v t33) (.pr (.o true t62 62) .un)))))],[4,5],[]⟩ .z (sz (.j ⟨[(true,5,(.ag (.pr (.v t30) (.pr (.v t33) (.pr (.o true t62 62) .un)))))],[4,5],[]⟩ .z (.s (.xr [] [] []) (.j ⟨[(true,5,(.ag (.pr (.v t30) (.pr (.v t33) (.pr (.o true t62 62) .un)))))],[4,5],[]⟩ (.xr [11,14] [0,1,2,3,4,5,6,7,8,9,10,11,12,13,14] [(0,[106,105,104,102,101,5]),(1,[106,105,104,102,101,5]),(2,[106,105,104,102,101,5])]) (sz (.j ⟨[(true,5,(.ag (.pr (.v t30) (.pr (.v t33) (.pr (.o true t62 62) .un)))))],[4,5],[]⟩ (.xr [9,16,19] [0,1,2,3,4,5,6,7,8,10,11,12,13,14,15,9,16,17,18,19] [(0,[123]),(1,[123]),(2,[123]),(10,[]),(11,[]),(12,[]),(13,[]),(14,[]),(15,[])]) (sz (.j ⟨[(true,5,(.ag (.pr (.v t30) (.pr (.v t33) (.pr (.o true t62 62) .un)))))],[4,5],[]⟩ (.xr [9,16,19] [0,1,2,3,4,5,6,7,8,10,11,12,13,14,15,9,16,17,18,19] [(0,[144]),(1,[144]),(2,[144]),(10,[]),(11,[]),(12,[]),(13,[]),(14,[]),(15,[])]) (sz (.j ⟨[(true,5,(.ag (.pr (.v t30) (.pr (.v t33) (.pr (.o true t62 62) .un)))))],[4,5],[]⟩ (.b (.l ⟨[(true,5,(.ag (.pr (.v t30) (.pr (.v t33) (.pr (.o true t62 62) .un)))))],[3,4,5],[]⟩ [(some 3,⟨[(true,5,(.ag (.pr (.v t30) (.pr (.v t33) (.pr (.o true t62 62) .un)))))],[4,5],[]⟩)] .z)) (sz (.j ⟨[(true,5,(.ag (.pr (.v t30) (.pr (.v t33) (.pr (.o true t62 62) .un)))))],[4,5],[]⟩ (sz (.b (.l ⟨[kv 10 t3,(true,5,(.ag (.pr (.v t30) (.pr (.v t33) (.pr (.o true t62 62) .un)))))],[3,4,5,9],[10]⟩ [(some 5,⟨[(true,5,(.ag (.pr (.v t30) (.pr (.v t33) (.pr (.o true t62 62) .un)))))],[4,5],[]⟩)] (sz (.s (.b (.xr [13,16] [0,1,2,3,4,5,6,7,8,9,10,11,12,13,14,15,16] [(0,[188,187,186,184,183,5]),(1,[188,187,186,184,183,5]),(2,[188,187,186,184,183,5])])) .z))))) .z)))))))))))))))))) .z))))))) func16
def s45:FJ:=⟨(.cons t30 .nil),(.pr (.ag (.pr (.v t9) (.pr (.v t28) (.pr (.o true t3 3) .un)))) .un),fun x=>gR x.1⟩
theorem zEx:s45.ok prog 45:=fJ ((E0).S Qr) (sz (.s (.xr [5,8,10] [0,1,2,3,4,6,7,5,8,9,10] [(0,[8]),(1,[8]),(2,[]),(3,[]),(4,[]),(6,[]),(7,[])]) .z)) func45
def s11:FS:=⟨(.cons t22 (.cons t23 (.cons t5 (.cons t5 .nil)))),(.cons t4 .nil),[none],fun x=>jE x.1 x.2.1 x.2.2.1 x.2.2.2.1⟩
theorem zFG:s11.ok prog 11:=fS ((((((((E0).J zEx).S W7).J zFF).S R7).J zFC).S zFB).S zFD) (sz (sz (sz (sz (sz (sz (.s (sz (.b (.l ⟨[kv 16 t3],[1,3,9,10,12,14,15],[16]⟩ [(some 0,⟨[],[9],[]⟩),(none,⟨[kv 8 t4],[],[8]⟩)] (sz (.s (.jb ⟨[],[1,3,9,10,12,14,15,16],[]⟩ (sz (sz (.s (sz (.b (sz (.j ⟨[(true,17,(.ag (.pr (.v t30) (.pr (.v t33) (.pr (.o true t62 62) .un)))))],[1,3,9,10,12,14,15,16,17],[]⟩ .z (sz (.j ⟨[(true,17,(.ag (.pr (.v t30) (.pr (.v t33) (.pr (.o true t62 62) .un)))))],[1,3,9,10,12,14,15,16,17],[]⟩ .z (sz (.j ⟨[(true,17,(.ag (.pr (.v t30) (.pr (.v t33) (.pr (.o true t62 62) .un)))))],[1,3,9,10,12,14,15,16,17],[]⟩ (sz (.xr [7,10] [0,1,2,3,4,5,6,7,8,9,10] [(0,[]),(1,[]),(2,[])])) (sz (.j ⟨[(true,17,(.ag (.pr (.v t30) (.pr (.v t33) (.pr (.o true t62 62) .un)))))],[1,3,9,10,12,14,15,16,17],[]⟩ .z .z)))))))))) .z)))) .z))))) .z))))))) func11
end Go.Dn
end
section
namespace Go.Lift
open Go Go.RowKit Go.Eng Go.ChangeShapes Go.WideShapes Go.ChangeAt Go.Joins Go.Deep Go.WideElems
variable {H:Type} {enc:TypeId×Value->H} {P:Program} {w:World} {base:Nat} {sp:Nat->Bool} {held:Bool} {α β γ:Type}
abbrev O0:zS:=fun _=>0
structure Opens(enc:TypeId×Value->H)(P:Program)(w:World)(base:Nat)(sp:Nat->Bool)(held:Bool)(t:Nat)(r:GR α)(Q:α->Prop):Prop where
 size:P.cellsOf t=r.sz
 fits:r.fits
 op:∀fuel cs x,DataW.trod enc P w base sp held fuel t cs=some x->∃y,r.rel O0 w cs y/\Q y
theorem IL{t:Nat}{k:IntKind}(ht:P.underlying t=some (.int k))(hs:P.cellsOf t=1):Opens enc P w base sp held t (V9 k) fun n=>(Lit.int k n).wf=true :=
 ⟨hs,fun _=>rfl,fun fuel cs x h=>by obtain⟨n,h1,_,h2⟩:=DataW.trod_int ht h;exact⟨n,h1,h2⟩⟩
theorem GA{r:GR α}{O:zS}{Q:α->Prop}:∀ {vs:List Value},(∀v∈vs,∃y,r.v O w v y/\Q y)->∃ys,yu r O w vs ys/\∀y∈ys,Q y
 | [],_=>⟨[],trivial,by simp⟩
 |v::vs,h=>by
   obtain⟨y,h1,h2⟩:=h v (by simp)
   obtain⟨ys,h3,h4⟩:=GA (vs:=vs) fun u hu=>h u (zKe _ hu)
   exact⟨y::ys,⟨h1,h3⟩,fun z hz=>(zKY.1 hz).elim (fun e=>by rw[e];exact h2) (h4 z)⟩
theorem wR{t e:Nat}{r:GR α}{Q:α->Prop}(ht:P.underlying t=some (.slice e))(hs:P.cellsOf t=1)(hE:Opens enc P w base sp held e r Q)(sS:0<r.sz):Opens enc P w base sp held t (rSl r) fun xs=>(∀x∈xs,Q x)/\xs.length<=maxLen:=by
 refine⟨hs,fun _=>rfl,fun fuel cs x h=>?_⟩
 rcases DataW.trod_slice ht h with ⟨rfl,_⟩|⟨a,len,cap,elems,rest,n,_,rfl,_,hb,hl,hm,kA,hel,_,_⟩
 ·exact⟨[],⟨_,[],rfl,⟨none,0,rfl,by simp,by simp,.inl rfl⟩,trivial,fun h=>zKk rfl h⟩,by simp,by simp⟩
 ·have each:∀i,i<len->∃cs,w.cells? base (a.add (i * r.sz)) r.sz=some cs/\∃y,r.rel O0 w cs y/\Q y:=by
   intro i hi;have:=hel i hi
   rw[zKy (by omega),hE.size,Option.bind_eq_some_iff]at this
   obtain⟨cs,h1,h2⟩:=this;exact⟨cs,h1,hE.op n cs _ h2⟩
  let f:Nat->Value:=fun i=>yE r.agg ((w.cells? base (a.add (i * r.sz)) r.sz).getD [])
  have hf:∀i,i<len->∃y,r.v O0 w (f i) y/\Q y:=by
   intro i hi;obtain⟨cs,h1,y,h2,h3⟩:=each i hi;exact⟨y,⟨cs,h2,by show yE r.agg ((w.cells? base (a.add (i * r.sz)) r.sz).getD [])=_;rw[h1];rfl⟩,h3⟩
  have hfc:∀i,i<len->∀j,j<r.sz->w.cell? (a.add (i * r.sz+j))=(f i).cells[j]?:=by
   intro i hi j hj;obtain⟨cs,h1,y,h2,_⟩:=each i hi;have h4:=(World.cells?_some h1).2.2 j hj
   have h5:(f i).cells=cs.toArray:=by
    show (yE r.agg ((w.cells? base (a.add (i * r.sz)) r.sz).getD [])).cells=_
    rw[h1];exact jv (fun ha=>by show cs.length=1;rw[r.len h2,hE.fits ha]) (r.one h2)
   rw[h5,List.getElem?_toArray,<-h4];rw[_root_.Go.Addr.add_add]
  obtain⟨ys,h1,h2⟩:=GA (r:=r) (O:=O0) (w:=w) (Q:=Q) (vs:=(List.range len).map f) (by
   intro v hv;obtain⟨i,hi,rfl⟩:=List.mem_map.1 hv;exact hf i (List.mem_range.1 hi))
  have nS:ys.length=len:=by have:=h1.len;simpa using this.symm
  refine⟨ys,⟨_,(List.range len).map f,rfl,⟨some a,cap,by simp,by simpa using hl,?_,?_⟩,h1,?_⟩,h2,by omega⟩
  ·intro v hv
   obtain⟨y,hy⟩:∃y,r.v O0 w v y:=by
    obtain⟨i,hi,rfl⟩:=List.mem_map.1 hv;obtain⟨y,hy,_⟩:=hf i (List.mem_range.1 hi);exact⟨y,hy⟩
   exact r.ZS hE.fits hy
  ·by_cases h0:len=0
   ·left;simp[h0]
   ·right
    obtain⟨b,off,spot⟩:=a;have bE:(w.cell? (Addr.add ⟨b,off,spot⟩ (0 * r.sz+0))).isSome=true:=by
     rw[hfc 0 (by omega) 0 sS]
     obtain⟨y,hy,_⟩:=hf 0 (by omega)
     have:=r.ZS hE.fits hy;rw[Array.getElem?_eq_getElem (by omega)];rfl
    obtain⟨v0,hv0⟩:=Option.isSome_iff_exists.1 bE;have hspot:spot=none:=by simpa[Addr.add] using World.cell?_spot hv0
    subst hspot;refine⟨b,off,rfl,fun i x hx j hj=>?_⟩
    have hi:i<len:=by have:=(zKa.1 hx).1;simpa using this
    have hx':x=f i:=by
     rw[List.getElem?_map,List.getElem?_range hi]at hx;simpa using hx.symm
    rw[hx',<-hfc i hi j hj];unfold Addr.add;split
    ·rename_i h0;congr 1;simp[h0]
    ·rfl
  ·intro fB g hg
   have h0:0<len:=by
    rcases Nat.eq_zero_or_pos len with h0|h0
    ·subst h0;exact zKk rfl fB
    ·exact h0
   have dY:g=a.block:=by
    have:(Value.slice (some a) len cap).ownBlock=some a.block:=rfl;rw[this]at hg;exact(Option.some.inj hg).symm
   subst dY;refine⟨?_,rfl⟩;obtain⟨cs,h3,_⟩:=each 0 h0;have h4:=(World.cells?_some h3)
   have h5:=h4.2.2 0 sS;rw[zKy (by omega)]at h5
   have he:(a.add (0 * r.sz)).add 0=a:=by simp[Addr.add]
   rw[he]at h5;exact World.block_lt_of_cell? _ _ h5
theorem NI{t:Nat}{r:GR α}{Q:α->Prop}{v:Value}{d:DataW H}{ps:List MemPlace}(hE:Opens enc P w base sp held t r Q)(hv:yE r.agg v.cells.toList=v)(h:DataW.Trod enc P w base sp held t v d ps):∃x,r.v O0 w v x/\Q x:=by
 obtain⟨fuel,hf⟩:=h;obtain⟨y,h1,h2⟩:=hE.op fuel _ _ hf;exact⟨y,⟨_,h1,hv.symm⟩,h2⟩
theorem Az{t e:Nat}{r:GR α}{Q:α->Prop}{re:Reach}{b0:Nat}{v:Value}{d:DataW H}{ps:List MemPlace}(ht:P.underlying t=some (.slice e))(hs:P.cellsOf t=1)(hE:Opens enc P w base sp held e r Q)(sS:0<r.sz)(bP:Value.okWide P w re b0 t v)(h:DataW.Trod enc P w base sp held t v d ps) :
  ∃xs,(rSl r).v O0 w v xs/\(∀x∈xs,Q x)/\xs.length<=maxLen:=by
 obtain⟨a,len,cap,rfl⟩:=okWide_slice ht bP;exact NI (wR ht hs hE sS) (by simp[Value.cells,yE,rSl]) h
theorem zCg:OkO O0 w:=fun _ _=>rfl
theorem Opens.at_{t:Nat}{r:GR α}{Q:α->Prop}(hE:Opens enc P w base sp held t r Q){off n:Nat}{cs:List Value}{y}(h:DataW.trod enc P w base sp held n t ((cs.drop off).take (P.cellsOf t))=some y):∃a,r.rel O0 w ((cs.drop off).take r.sz) a/\Q a:=by
 rw[hE.size]at h;exact hE.op n _ _ h
theorem wf_u8{n:Int}(h:(Lit.int .u8 n).wf=true):0<=n/\n<256:=by
 simp[Lit.wf,IntKind.min,IntKind.max,IntKind.signed,IntKind.bits]at h;omega
end Go.Lift
end
section
namespace Go.Den
open Go Go.RowKit Go.Eng Go.Lift Go.ChangeShapes Go.WideShapes Go.ChangeAt Go.Joins Go.Deep Go.WideElems
variable {H:Type} {enc:TypeId×Value->H} {P:Program} {w:World} {base:Nat} {sp:Nat->Bool} {held:Bool} {α β γ:Type}
theorem DG{rs vs:List Value}{v v1:Value}(h3:kQ rs v)(h4:rs=v1::vs)(h7:vs=[]):v=v1:=by
 subst h7 h4;rcases h3 with h|h
 ·cases h
 ·exact h
end Go.Den
end
