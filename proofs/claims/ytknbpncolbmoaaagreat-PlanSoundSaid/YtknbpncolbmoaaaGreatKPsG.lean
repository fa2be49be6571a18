/- Lemmas behind a claim. -/
import Derived.Test.YtknbpncolbmoaaaGreatKPsF
import Derived.Test.YtknbpncolbmoaaaGreatProg
import Derived.Calls
import Derived.RunT
import Derived.Shelf.SlSortCmp.NoneTotal
import Derived.Ground.SlsfProg
import Derived.Tactics
import Derived.Tactics2
import Derived.TacticsInMore
import Derived.SliceStrings
import Derived.ChangeSlices
import Derived.Lib.SmallJoins
import Derived.OpenShut
import Derived.ShutString
import Derived.ChangeOld
set_option linter.unusedSimpArgs false
set_option linter.unusedVariables false
open Go.Lift.Comp (run_pure zA YJ)
section
namespace Go.Geo
open Go Go.Eng Go.Lift Go.Den Go.F
variable {α β γ δ ε σ τ:Type}
def spN(n:Nat)(inn out:List Bool)(x:Nd):Bool:=decide (x.1=1) && (decide (0<=x.2.1) && (decide (x.2.1<n) && (!B8 inn x.2.1.toNat && !B8 out x.2.1.toNat)))
def pvF(q:List Bool->Bool×Int)(L:List Eff)(sp:List Bool)(lim:Int):Nat->List Bool->List Bool->List Nd->Option (List Nd)
 |0,_,_,_=>none
 |_+1,_,_,[]=>none
 |m+1,inn,out,x::r=>if spN L.length inn out x=true then match pvF q L sp lim m (inn.set x.2.1.toNat true) out r with
   |none=>none
   |some r'=>pvF q L sp lim m inn (out.set x.2.1.toNat true) r'
  else if (x.1=2/\x.2.1=0)/\0<lim/\lim<=cst L (sl inn) then some r
  else if (x.1=3/\x.2.1=0)/\shQ q L sp inn out=true then some r else none
def pvB(j:Job)(lim:Int)(l:List Nd):Bool:=(decide (ckJ j=0) && decide (0<=lim)) && match pvF (enq j) j.2.2.1 (bgn j) lim 40 z8 z8 l with
 |some []=>true
 |_=>false
def und(inn out:List Bool):Nat:=((List.range 8).filter fun k=>!B8 inn k && !B8 out k).length
theorem GC{inn out inn' out':List Bool}{i:Nat}(hi:i<8)(h1:B8 inn i=false/\B8 out i=false)(h2:∀k,k<8->(!B8 inn' k && !B8 out' k)=((!B8 inn k && !B8 out k) && decide (k≠i))):und inn' out'<und inn out:=by
 unfold und;have e:(List.range 8).filter (fun k=>!B8 inn' k && !B8 out' k)=((List.range 8).filter fun k=>!B8 inn k && !B8 out k).filter fun k=>decide (k≠i):=by
  rw[List.filter_filter];refine List.filter_congr fun k hk=>?_
  rw[h2 k (List.mem_range.1 hk),Bool.and_comm]
 rw[e,List.length_filter_lt_length_iff_exists];refine⟨i,?_,by simp⟩
 rw[List.mem_filter,List.mem_range];exact⟨hi,by rw[h1.1,h1.2];rfl⟩
theorem V8{l r:List α}{at_:Nat}{x:α}(h:l.drop at_=x::r):l[at_]?=some x/\r=l.drop (at_+1)/\at_<l.length:=by
 have gF:at_<l.length:=by
  by_cases gF:at_<l.length
  ·exact gF
  ·rw[List.drop_eq_nil_of_le (by omega)]at h;cases h
 obtain⟨v,hv⟩:=zS gF;rw[drop_cons hv]at h;cases h;exact⟨hv,rfl,gF⟩
def pvO(len:Nat):Option (List Nd)->Unit⊕Int×Unit
 |none=>.inl ()
 |some r=>.inr (((len-r.length:Nat):Int),())
section
variable {j:Job} (hj:PlOk j)
include hj
theorem PlOk.walk{sp:List Bool}(cB:sp.length=8){lim:Int}{l:List Nd}(hl:l.length<=1000000):∀(m:Nat) (inn out:List Bool) (at_:Nat),und inn out<m->Bel inn j.2.2.1.length->Bel out j.2.2.1.length->at_<=l.length ->
  Ok (kD m inn out l (j,sp,()) lim (at_:Int)) fun r=>r=pvO l.length (pvF (enq j) j.2.2.1 sp lim m inn out (l.drop at_))/\∀r',pvF (enq j) j.2.2.1 sp lim m inn out (l.drop at_)=some r'->r'=l.drop (l.length-r'.length)/\r'.length<=l.length:=by
 intro m
 induction m with
 |zero=>intro inn out at_ h;omega
 |succ m ih =>
  intro inn out at_ hm hi ho bT;show Ok (Z7 (kD m) inn out l (j,sp,()) lim (at_:Int)) _
  have hn:=hj.n;unfold Z7
  cases hd:l.drop at_ with
  |nil =>
   have sT:l.length<=at_:=List.drop_eq_nil_iff.1 hd;rw[zLr (by rw[Ye,zC];omega),Ok.pure]
   exact⟨rfl,fun r' h=>by cases h⟩
  |cons x r =>
   obtain⟨hx,hr,gF⟩:=V8 hd;rw[zLs (by rw[Ye,zC];omega),Ok.bind,Ok.JH hx,Ok.bind]
   have kA:zF (j,sp,()).1.2.2.1=(j.2.2.1.length:Int):=rfl;have e1:sel (sel (eqI x.1 1) (geI x.2.1 0) false) (ltI x.2.1 (zF (j,sp,()).1.2.2.1)) false=(decide (x.1=1) && (decide (0<=x.2.1) && decide (x.2.1<j.2.2.1.length))):=by
    rw[gy,gy,kA,Bool.and_assoc];rfl
   rw[e1];have hrl:r.length<=l.length:=by rw[hr,List.length_drop];omega
   have hra:r=l.drop (l.length-r.length):=by
    have:l.length-r.length=at_+1:=by rw[hr,List.length_drop];omega
    rw[this];exact hr
   have tailR:∀T:Option (List Nd),T=some r->(Ok (Comp.pure (Sum.inr (((at_+1:Nat):Int),())):Comp (Unit⊕Int×Unit)) fun z=>z=pvO l.length T/\∀r',T=some r'->r'=l.drop (l.length-r'.length)/\r'.length<=l.length):=fun T hT=>by
    rw[Ok.pure,hT];refine⟨?_,fun r' h=>by cases h;exact⟨hra,hrl⟩⟩
    have:l.length-r.length=at_+1:=by rw[hr,List.length_drop];omega
    show _=Sum.inr (((l.length-r.length:Nat):Int),())
    rw[this]
   by_cases hb:(decide (x.1=1) && (decide (0<=x.2.1) && decide (x.2.1<j.2.2.1.length)))=true
   ·have hb':=hb
    simp only[zLR,zLj]at hb';obtain⟨b1,b2,b3⟩:=hb';have dE:x.2.1.toNat<8:=by omega
    have g1:=Ym hi.1 dE;have g2:=Ym ho.1 dE
    rw[hb];refine Ok.Y1 (fun _=>(Ok.idx b2 g1).2 ?_) fun h=>nomatch h
    rw[Ok.bind];have oI:spN j.2.2.1.length inn out x=(!B8 inn x.2.1.toNat && !B8 out x.2.1.toNat):=by
     unfold spN;rw[zLu b1,zLu b2,zLu b3];rfl
    have hg:Ok (Comp.gd (sel true (ntB (B8 inn x.2.1.toNat)) false) (idx out x.2.1) false) fun b=>sel (sel true (ntB (B8 inn x.2.1.toNat)) false) (ntB b) false=spN j.2.2.1.length inn out x:=by
     rw[oI]
     cases hbi:B8 inn x.2.1.toNat with
     |true=>exact Ok.Y1 (fun h=>nomatch h) fun _=>rfl
     |false=>exact Ok.Y1 (fun _=>(Ok.idx b2 g2).2 (by cases B8 out x.2.1.toNat<;>rfl)) fun h=>nomatch h
    refine hg.mono fun b aT=>?_
    rw[aT,vk];by_cases hs:spN j.2.2.1.length inn out x=true
    ·rw[hs,zLr rfl]
     rw[oI,zLR,Bool.not_eq_true',Bool.not_eq_true']at hs;have aP:=hs
     have hC0:j9 inn x.2.1 true=inn.set x.2.1.toNat true:=rfl;have hC1:j9 out x.2.1 true=out.set x.2.1.toNat true:=rfl
     rw[Ok.zQ (jM ⟨b2,by omega⟩),Ok.zQ (jM ⟨b2,by omega⟩),hC0,hC1,zN (by omega),Ok.bind]
     have u1:und (inn.set x.2.1.toNat true) out<und inn out:=GC dE hs fun k hk=>by
      rw[Zl hi.1 dE];by_cases e:k=x.2.1.toNat
      ·rw[zLr e,zLt (by simp[e])];simp
      ·rw[zLs e,zLu e];simp
     have u2:und inn (out.set x.2.1.toNat true)<und inn out:=GC dE hs fun k hk=>by
      rw[Zl ho.1 dE];by_cases e:k=x.2.1.toNat
      ·rw[zLr e,zLt (by simp[e])];simp
      ·rw[zLs e,zLu e];simp
     have bel1:Bel (inn.set x.2.1.toNat true) j.2.2.1.length:=⟨by simp[hi.1],fun i oJ=>by
      rw[Zl hi.1 dE]at oJ;split at oJ
      ·omega
      ·exact hi.2 i oJ⟩
     have bel2:Bel (out.set x.2.1.toNat true) j.2.2.1.length:=⟨by simp[ho.1],fun i oJ=>by
      rw[Zl ho.1 dE]at oJ;split at oJ
      ·omega
      ·exact ho.2 i oJ⟩
     have es:spN j.2.2.1.length inn out x=true:=by rw[oI,hs.1,hs.2];rfl
     refine(ih (inn.set x.2.1.toNat true) out (at_+1) (by omega) bel1 ho (by omega)).mono ?_
     rintro z ⟨rfl,hz⟩;rw[<-hr]at hz |-
     have eF:∀T,pvF (enq j) j.2.2.1 sp lim m (inn.set x.2.1.toNat true) out r=T->pvF (enq j) j.2.2.1 sp lim (m+1) inn out (x::r)=match T with
       |none=>none
       |some r'=>pvF (enq j) j.2.2.1 sp lim m inn (out.set x.2.1.toNat true) r':=fun T hT=>by
      conv=>lhs;unfold pvF
      rw[zLr es,hT]
     cases hT:pvF (enq j) j.2.2.1 sp lim m (inn.set x.2.1.toNat true) out r with
     |none =>
      rw[eF none hT];show Ok (Comp.pure (Sum.inl ())) _
      rw[Ok.pure];exact⟨rfl,fun r' h=>by cases h⟩
     |some r1 =>
      obtain⟨q1,q2⟩:=hz r1 hT;rw[eF (some r1) hT];show Ok ((kD m inn (out.set x.2.1.toNat true) l (j,sp,()) lim ((l.length-r1.length:Nat):Int)).bind _) _
      rw[Ok.bind];refine(ih inn (out.set x.2.1.toNat true) (l.length-r1.length) (by omega) hi bel2 (by omega)).mono ?_
      rintro z ⟨rfl,eZ⟩;rw[<-q1]at eZ |-;have eM:(match some r1 with|none=>none|some r'=>pvF (enq j) j.2.2.1 sp lim m inn (out.set x.2.1.toNat true) r')=pvF (enq j) j.2.2.1 sp lim m inn (out.set x.2.1.toNat true) r1:=rfl
      rw[eM]
      cases hT2:pvF (enq j) j.2.2.1 sp lim m inn (out.set x.2.1.toNat true) r1 with
      |none =>
       show Ok (Comp.pure (Sum.inl ())) _
       rw[Ok.pure];exact⟨rfl,fun r' h=>by cases h⟩
      |some r2 =>
       show Ok (Comp.pure (Sum.inr (((l.length-r2.length:Nat):Int),()))) _
       rw[Ok.pure];exact⟨rfl,fun r' h=>by cases h;exact eZ r2 hT2⟩
    ·have hs:spN j.2.2.1.length inn out x=false:=by simpa using hs
     have eF:pvF (enq j) j.2.2.1 sp lim (m+1) inn out (x::r)=none:=by
      conv=>lhs;unfold pvF
      rw[zLs (by rw[hs];decide),zLs (by omega),zLs (by omega)]
     rw[hs,zLs (by decide),Ok.bind,eF]
     have n2:eqI x.1 2=false:=by rw[<-Bool.not_eq_true,yi];omega
     have n3:eqI x.1 3=false:=by rw[<-Bool.not_eq_true,yi];omega
     rw[n2,n3];refine Ok.Y1 (fun h=>nomatch h) fun _=>?_
     rw[vk,zLs (by simp[sel]),Ok.bind]
     refine Ok.Y1 (fun h=>nomatch h) fun _=>?_
     rw[zLs (by simp[sel]),Ok.pure]
     exact⟨rfl,fun r' h=>by cases h⟩
   ·have hb:(decide (x.1=1) && (decide (0<=x.2.1) && decide (x.2.1<j.2.2.1.length)))=false:=by simpa using hb
    have hs:spN j.2.2.1.length inn out x=false:=by
     unfold spN;rw[<-Bool.and_assoc (decide (0<=x.2.1)),<-Bool.and_assoc (decide (x.1=1)),hb];rfl
    rw[hb];refine Ok.Y1 (fun h=>nomatch h) fun _=>?_
    rw[Ok.bind];refine Ok.Y1 (fun h=>nomatch h) fun _=>?_
    rw[vk,zLs (by decide),Ok.bind]
    have aY:=qW (sp:=sp) hi.1 hi.2 hj.cs;have eF:pvF (enq j) j.2.2.1 sp lim (m+1) inn out (x::r)=if (x.1=2/\x.2.1=0)/\0<lim/\lim<=cst j.2.2.1 (sl inn) then some r else if (x.1=3/\x.2.1=0)/\shQ (enq j) j.2.2.1 sp inn out=true then some r else none:=by
     conv=>lhs;unfold pvF
     rw[zLs (by rw[hs];decide)]
    rw[eF];have oU:Ok (Comp.gd (sel (sel (eqI x.1 2) (eqI x.2.1 0) false) (gtI lim 0) false) (vU (j,sp,()) inn) (0,())) fun c=>sel (sel (sel (eqI x.1 2) (eqI x.2.1 0) false) (gtI lim 0) false) (geI c.1 lim) false=decide ((x.1=2/\x.2.1=0)/\0<lim/\lim<=cst j.2.2.1 (sl inn)):=by
     have e2:sel (sel (eqI x.1 2) (eqI x.2.1 0) false) (gtI lim 0) false=decide ((x.1=2/\x.2.1=0)/\0<lim):=by
      rw[gy,gy,Bool.eq_iff_iff,zLR,zLR,yi,yi,yd,decide_eq_true_iff]
     rw[e2];by_cases h:(x.1=2/\x.2.1=0)/\0<lim
     ·rw[zLu h]
      refine Ok.Y1 (fun _=>(Ok.yZ aY).2 ?_) fun h=>nomatch h
      show geI (cst j.2.2.1 (sl inn)) lim=_
      rw[Bool.eq_iff_iff,Ye,decide_eq_true_iff];exact⟨fun g=>⟨h.1,h.2,g⟩,fun g=>g.2.2⟩
     ·rw[zLt h]
      refine Ok.Y1 (fun h=>nomatch h) fun _=>?_
      rw[zLt fun g=>h ⟨g.1,g.2.1⟩];rfl
    refine oU.mono fun c hc=>?_
    rw[hc,vk];by_cases h2:(x.1=2/\x.2.1=0)/\0<lim/\lim<=cst j.2.2.1 (sl inn)
    ·rw[zLu h2,zLr rfl,zLr h2,zN (by omega)]
     exact tailR _ rfl
    ·rw[zLt h2,zLs (by decide),zLs h2,Ok.bind]
     have hsg:Ok (Comp.gd (sel (eqI x.1 3) (eqI x.2.1 0) false) (gD (j,sp,()) inn out) (false,())) fun c=>sel (sel (eqI x.1 3) (eqI x.2.1 0) false) c.1 false=decide ((x.1=3/\x.2.1=0)/\shQ (enq j) j.2.2.1 sp inn out=true):=by
      have e2:sel (eqI x.1 3) (eqI x.2.1 0) false=decide (x.1=3/\x.2.1=0):=by
       rw[gy,Bool.eq_iff_iff,zLR,yi,yi,decide_eq_true_iff]
      rw[e2];by_cases h:x.1=3/\x.2.1=0
      ·rw[zLu h]
       refine Ok.Y1 (fun _=>(Ok.yZ (hj.rX cB hi.1 ho.1)).2 ?_) fun h=>nomatch h
       show shQ (enq j) j.2.2.1 sp inn out=_
       rw[Bool.eq_iff_iff,decide_eq_true_iff];exact⟨fun g=>⟨h,g⟩,fun g=>g.2⟩
      ·rw[zLt h]
       refine Ok.Y1 (fun h=>nomatch h) fun _=>?_
       rw[zLt fun g=>h g.1];rfl
     refine hsg.mono fun c hc=>?_
     rw[hc];by_cases h3:(x.1=3/\x.2.1=0)/\shQ (enq j) j.2.2.1 sp inn out=true
     ·rw[zLu h3,zLr rfl,zLr h3,zN (by omega)]
      exact tailR _ rfl
     ·rw[zLt h3,zLs (by decide),zLs h3,Ok.pure]
      exact⟨rfl,fun r' h=>by cases h⟩
end
theorem YR{j:Job}(h:SmB j){lim:Int}{l:List Nd}(hl:l.length<=1000000):(za j lim l).val=some (pvB j lim l,()):=by
 refine Ok.val ?_;unfold za pvB;rw[Ok.zQ (gk h.s.w h.s.e)];dsimp only;by_cases hc:ckJ j=0
 ·have hj:=h.pl hc
  by_cases h0:0<=lim
  ·rw[zLs (by rw[gx,zLp,z6,zH];omega),Ok.zQ (wN hj.w hj.cl hj.n hj.sm),zLu hc,zLu h0,Ok.bind]
   dsimp only;have hn:=hj.n
   have hu:und z8 z8<40:=by decide
   refine(hj.walk (sp:=bgn j) (gm _) hl 40 z8 z8 0 hu (wq.le (Nat.zero_le _)) (wq.le (Nat.zero_le _)) (Nat.zero_le _)).mono ?_;rintro z ⟨rfl,hz⟩;rw[List.drop_zero]at hz |-
   cases hT:pvF (enq j) j.2.2.1 (bgn j) lim 40 z8 z8 l with
   |none =>
    show Ok (Comp.pure (false,())) _
    rw[Ok.pure];rfl
   |some r =>
    obtain⟨_,q2⟩:=hz r hT;show Ok (Comp.pure (eqI ((l.length-r.length:Nat):Int) (zF l),())) _
    rw[Ok.pure]
    cases r with
    |nil =>
     have:eqI ((l.length-([]:List Nd).length:Nat):Int) (zF l)=true:=by rw[yi,zC];simp
     rw[this];rfl
    |cons x r =>
     have:eqI ((l.length-(x::r).length:Nat):Int) (zF l)=false:=by
      rw[<-Bool.not_eq_true,yi,zC];simp only[zLZ]at q2 |-;omega
     rw[this];rfl
  ·rw[zLr (by rw[gx,zLp,z6,zH];omega),Ok.pure,zLt h0,Bool.and_false];rfl
 ·rw[zLr (by rw[gx,zLp,z6];exact .inl hc),Ok.pure,zLt hc];rfl
def Snd(j:Job)(lim:Int)(inn out:List Bool):Prop:=∀t,Bel t j.2.2.1.length->alw j.2.2.1 (bgn j) t=true->(enq j t).1=true->jI inn t->(∀k,B8 out k=true->B8 t k=false)->0<lim/\lim<=cst j.2.2.1 (sl t)
theorem WG{L:List Eff}{s t:List Bool}(h:jI s t)(hc:∀k∈sl t,0<=(opn L (k:Int)).2.2.1):cst L (sl s)<=cst L (sl t):=by
 rw[Qw h];have key:∀l:List Nat,(∀k∈l,0<=(opn L (k:Int)).2.2.1)->cst L (l.filter (B8 s))<=cst L l:=by
  intro l
  induction l with
  |nil=>intro _;exact Int.le_refl _
  |cons a l ih =>
   intro hl;have h1:=ih fun k hk=>hl k (by simp[hk])
   have h2:=hl a (by simp)
   have e:∀m,cst L (a::m)=(opn L (a:Int)).2.2.1+cst L m:=fun m=>by simp[cst]
   rw[List.filter_cons,e];split
   ·rw[e];omega
   ·omega
 exact key _ hc
theorem AO{j:Job}(hj:PlOk j){lim:Int}{inn out:List Bool}(h:shQ (enq j) j.2.2.1 (bgn j) inn out=true):Snd j lim inn out:=by
 intro t ht ha he hi ho;exfalso;obtain⟨h1,h2⟩:=(HW ht.1).1 ha;obtain⟨_,hr⟩:=mH (L:=j.2.2.1) (sp:=bgn j) (out:=out);have tP:∀k,B8 t k=true->B8 out k=false:=fun k hk=>by
  cases hb:B8 out k with
  |false=>rfl
  |true=>rw[ho k hb]at hk;cases hk
 have bQ:jI t (Hc j.2.2.1 (bgn j) out):=hr.most t (fun k hk=>zAX hj.n ⟨(h1 k hk).1,tP k hk,(h1 k hk).2⟩) h2
 unfold shQ at h;rw[zLp]at h;rcases h with h|h
 ·rw[List.any_eq_true]at h
  obtain⟨k,hk,h3⟩:=h;rw[bQ k (hi k (kK.1 hk).2)]at h3;cases h3
 ·rw[zLR,decide_eq_true_iff,Bool.not_eq_true']at h
  have:=QH bQ he h.1;rw[h.2]at this;cases this
theorem K9{j:Job}(hj:PlOk j){lim:Int}:∀(m:Nat) (inn out:List Bool) (l r:List Nd),inn.length=8->out.length=8->pvF (enq j) j.2.2.1 (bgn j) lim m inn out l=some r->Snd j lim inn out
 |0,_,_,_,_,_,_,h=>by cases h
 |_+1,_,_,[],_,_,_,h=>by cases h
 |m+1,inn,out,x::l,r,hi,ho,h=>by
  unfold pvF at h;split at h
  ·rename_i hs
   unfold spN at hs;simp only[zLR,zLj,Bool.not_eq_true']at hs;obtain⟨_,b2,b3,b4,b5⟩:=hs;have hn:=hj.n
   have dE:x.2.1.toNat<8:=by omega
   cases hT:pvF (enq j) j.2.2.1 (bgn j) lim m (inn.set x.2.1.toNat true) out l with
   |none=>rw[hT]at h;cases h
   |some r1 =>
    rw[hT]at h;have s1:=K9 hj m (inn.set x.2.1.toNat true) out l r1 (by simp[hi]) ho hT
    have s2:=K9 hj m inn (out.set x.2.1.toNat true) r1 r hi (by simp[ho]) h
    intro t t1 t2 t3 t4 t5
    cases hb:B8 t x.2.1.toNat with
    |true =>
     refine s1 t t1 t2 t3 (fun k hk=>?_) t5
     rw[Zl hi dE]at hk;split at hk
     ·rename_i e;rw[e];exact hb
     ·exact t4 k hk
    |false =>
     refine s2 t t1 t2 t3 t4 fun k hk=>?_
     rw[Zl ho dE]at hk;split at hk
     ·rename_i e;rw[e];exact hb
     ·exact t5 k hk
  ·split at h
   ·rename_i h2
    intro t t1 t2 t3 t4 t5;have:=WG (L:=j.2.2.1) t4 fun k hk=>by have:=(hj.cs k (t1.2 k (kK.1 hk).2)).1;omega
    exact⟨h2.2.1,by omega⟩
   ·split at h
    ·rename_i h3;exact AO hj h3.2
    ·cases h
theorem Ip{j:Job}(h:SmB j){lim:Int}{l:List Nd}(hp:pvB j lim l=true){s:List Int}{c:Int}(hb:IL j s c):0<lim/\lim<=c:=by
 unfold pvB at hp;simp only[zLR,zLj]at hp;obtain⟨⟨hc,_⟩,hp⟩:=hp
 cases hT:pvF (enq j) j.2.2.1 (bgn j) lim 40 z8 z8 l with
 |none=>rw[hT]at hp;cases hp
 |some r =>
  obtain⟨t,_,k2,k3,k4,k5,_⟩:=hb;rw[k2];have hz:∀k,B8 z8 k=false:=fun k=>by
   cases hb:B8 z8 k with
   |false=>rfl
   |true=>have:=wq.2 k hb;omega
  exact K9 (h.pl hc) 40 z8 z8 l r rfl rfl hT t k3 k4 k5 (fun k hk=>by rw[hz k]at hk;cases hk) fun k hk=>by rw[hz k]at hk;cases hk
def bls:Nat->List (List Bool)
 |0=>[[]]
 |n+1=>(bls n).map (false::·)++(bls n).map (true::·)
theorem HR:∀ {n:Nat} {l:List Bool},l.length=n->l∈bls n
 |0,[],_=>List.mem_singleton.2 rfl
 |n+1,b::l,h=>by
  have ih:=HR (n:=n) (l:=l) (by simpa using h)
  unfold bls;rw[zLa,List.mem_map,List.mem_map]
  cases b with
  |false=>exact .inl ⟨l,ih,rfl⟩
  |true=>exact .inr ⟨l,ih,rfl⟩
def sbs(n:Nat):List (List Bool):=(bls n).map fun l=>l++List.replicate (8-n) false
theorem mG{n:Nat}{t:List Bool}(h:Bel t n)(hn:n<=8):t∈sbs n:=by
 refine List.mem_map.2 ⟨t.take n,HR (by rw[zLm,h.1];omega),?_⟩
 refine List.ext_getElem? fun k=>?_
 by_cases hk:k<n
 ·rw[zLf (by rw[zLm,h.1];omega),List.getElem?_take,zLr hk]
 ·rw[zLg (by rw[zLm,h.1];omega),zLm,h.1,Nat.min_eq_left hn,List.getElem?_replicate]
  split
  ·have h8:k<8:=by omega
   rw[Ym h.1 h8]
   cases hb:B8 t k with
   |false=>rfl
   |true=>have:=h.2 k hb;omega
  ·rw[List.getElem?_eq_none (by rw[h.1];omega)]
def zAG(j:Job)(t:List Bool):Bool:=((decide (t.length=8) && (List.range 8).all fun k=>!B8 t k || decide (k<j.2.2.1.length)) && (alw j.2.2.1 (bgn j) t && (enq j t).1)) &&
 (sbs j.2.2.1.length).all fun u=>!alw j.2.2.1 (bgn j) u || (decide ((enq j u).2=0) && (!(enq j u).1 || (decide (cst j.2.2.1 (sl t)<cst j.2.2.1 (sl u)) || decide (u=t))))
def zAD(j:Job):Bool:=(sbs j.2.2.1.length).all fun u=>!alw j.2.2.1 (bgn j) u || (decide ((enq j u).2=0) && !(enq j u).1)
theorem Qf{j:Job}{l:List Int}{c e:Int}(h:BestR j l c e)(hc:ckJ j=0)(hn:j.2.2.1.length<=8){t:List Bool}(ht:zAG j t=true):l=slI t/\c=cst j.2.2.1 (sl t)/\e=0:=by
 unfold zAG at ht;simp only[zLR,zLj,zLw]at ht;obtain⟨⟨⟨h1,h2⟩,h3,h4⟩,h5⟩:=ht;have hb:Bel t j.2.2.1.length:=⟨h1,fun i hi=>by
  by_cases h8:i<8
  ·have:=h2 i (List.mem_range.2 h8)
   rw[hi]at this;simpa using this
  ·rw[Yz h1 (by omega)]at hi;cases hi⟩
 have key:∀u,Bel u j.2.2.1.length->alw j.2.2.1 (bgn j) u=true->(enq j u).2=0/\((enq j u).1=true->cst j.2.2.1 (sl t)<cst j.2.2.1 (sl u)\/u=t):=fun u hu ha=>by
  have:=h5 u (mG hu hn);rw[ha]at this;simp only[Bool.not_true,Bool.false_or,zLR,zLj]at this;refine⟨this.1,fun hq=>?_⟩
  have h6:=this.2;rw[hq]at h6;simpa using h6
 cases h with
 |bad h=>exact zLh hc h
 |err h h' =>
  obtain⟨g1,u,g2,g3,g4⟩:=h';exact zLh (g4.trans (key u g2 g3).1) g1
 |non h h'=>have:=(h' t hb h3).2;rw[h4]at this;cases this
 |ok h h' =>
  obtain⟨u,g1,g2,g3,g4,g5,g6⟩:=h';have:=(g6 t hb h3).2 h4
  rcases(key u g3 g4).2 g5 with g|g
  ·omega
  ·subst g;exact⟨g1,g2,rfl⟩
theorem Vk{j:Job}{l:List Int}{c e:Int}(h:BestR j l c e)(hc:ckJ j=0)(hn:j.2.2.1.length<=8)(ht:zAD j=true):l=[]/\c=0/\e=60:=by
 unfold zAD at ht;rw[zLw]at ht;have key:∀u,Bel u j.2.2.1.length->alw j.2.2.1 (bgn j) u=true->(enq j u).2=0/\(enq j u).1=false:=fun u hu ha=>by
  have:=ht u (mG hu hn);rw[ha]at this;simpa using this
 cases h with
 |bad h=>exact zLh hc h
 |err h h' =>
  obtain⟨g1,u,g2,g3,g4⟩:=h';exact zLh (g4.trans (key u g2 g3).1) g1
 |non h h'=>exact⟨rfl,rfl,rfl⟩
 |ok h h' =>
  obtain⟨u,g1,g2,g3,g4,g5,g6⟩:=h';have:=(key u g3 g4).2
  rw[g5]at this;cases this
def trJ(j:Job)(lim:Int):List Nd:=trL (enq j) j.2.2.1 (bgn j) lim j.2.2.1.length 0 z8 z8
structure BestP(j:Job)(l:List Int)(c:Int)(p:List Nd)(e:Int):Prop where
 b:BestR j l c e
 n:p.length<=511
 p0:e=60->p=trJ j 0
 p1:e=0->0<c->p=trJ j c
theorem wM{j:Job}(h:SmB j):Ok (jy j) fun r=>BestP j r.1 r.2.1 r.2.2.1 r.2.2.2.1:=by
 unfold jy;rw[Ok.zQ (gk h.s.w h.s.e)];dsimp only;by_cases hc:ckJ j=0
 ·have hj:=h.pl hc
  have hb:(bgn j).length=8:=gm _;have hn:=hj.n
  have cH:∀lim,(trJ j lim).length<=511:=fun lim=>zLY (uU _ _ _ _) (tz8 _ hn)
  rw[zLs (by rw[z6];simp[hc]),Ok.zQ (wN hj.w hj.cl hj.n hj.sm),Ok.bind]
  dsimp only;refine(hj.visit hb 40 0 z8 (-1) z8 (by omega) (by omega) wq (.inl rfl)).mono ?_
  rintro(e|⟨b,f,u⟩) hr
  ·dsimp only at hr |-
   refine AF ?_;rw[Ok.pure];have hb:=BestR.err hc hr
   refine⟨hb,Nat.zero_le _,fun he=>?_,fun he _=>zLh he hr.1⟩
   obtain⟨_,t,_,_,h2⟩:=hr;exact zLh (h2.symm.trans he) (S2 hc).e.2.2
  ·dsimp only at hr |-
   have fF:∀t,Bel t j.2.2.1.length->alw j.2.2.1 (bgn j) t=true->(enq j t).2=0/\((enq j t).1=true->0<=b/\b<=cst j.2.2.1 (sl t)):=fun t t1 t2=>hr.bst t t1 t2 fun i hi=>zLh hi (by omega)
   by_cases h1:b = -1
   ·rw[zLr (by rw[yi];exact h1),Ok.bind]
    refine(hj.zAT hb 0).mono fun y hy=>?_
    refine AF ?_;rw[Ok.pure];have hN:zIE j:=fun t t1 t2=>by
     obtain⟨g1,g2⟩:=fF t t1 t2;refine⟨g1,?_⟩
     cases hq:(enq j t).1 with
     |false=>rfl
     |true=>have:=g2 hq;omega
    refine⟨.non hc hN,?_,fun _=>hy,fun he=>by cases he⟩
    rw[hy];exact cH 0
   ·rw[zLs (by rw[yi];exact h1)]
    rcases hr.fnd with g|⟨g1,g2,g3,g4⟩
    ·exact zLh g h1
    have dF:IL j (slI f) b:=⟨f,rfl,g4,g1,g2,g3,fun t t1 t2=>by rw[<-g4];exact⟨(fF t t1 t2).1,fun h=>((fF t t1 t2).2 h).2⟩⟩
    by_cases h0:b=0
    ·rw[zLr (by rw[yi];exact h0)]
     refine AF ?_;rw[Ok.pure];have sS:=zBW (L:=j.2.2.1) (s:=f) (fun k hk=>(hj.cs k (g1.2 k (kK.1 hk).2)).1) (by omega)
     have e:slI f=[]:=by unfold slI;rw[sS];rfl
     rw[e,h0]at dF;exact⟨.ok hc dF,Nat.zero_le _,(fun he=>by cases he),fun _ h=>zLh (show (0:Int)<0 from h) (by omega)⟩
    ·rw[zLs (by rw[yi];exact h0),Ok.zQ (JA g1.1),Ok.bind]
     refine(hj.zAT hb b).mono fun y hy=>?_
     refine AF ?_;rw[Ok.pure];refine⟨.ok hc dF,?_,(fun he=>by cases he),fun _ _=>hy⟩
     rw[hy];exact cH b
 ·rw[zLr (by rw[z6];exact hc),Ok.pure]
  exact⟨.bad hc,Nat.zero_le _,fun he=>zLh he S6.2.2,fun he=>zLh he hc⟩
def b31(x u:Int):Cell:=[((1,0,0,()),u,()),((-1,0,0,()),-x,()),((0,1,0,()),2,()),((0,-1,0,()),0,()),((0,0,1,()),2,()),((0,0,-1,()),0,())]
def j31(L:List Eff):Job:=(([],[b31 0 2,b31 2 4,b31 4 6],[1,2,2],()),([false,false,false],[false,false,false],[],()),L,())
def e31:List Eff:=[([b31 2 4],[],3,[],()),([b31 4 6],[],4,[],()),([b31 2 4,b31 4 6],[],9,[],()),([b31 1 6],[],1,[],())]
def n31:List Eff:=[([b31 2 4],[],3,[],()),([b31 4 6],[],4,[2],()),([b31 2 4,b31 4 6],[],9,[],()),([b31 1 6],[],1,[],())]
def l31:List Eff:=[([b31 2 4],[],3,[],()),([b31 1 6],[],1,[],())]
theorem pM:y5.val=some (j31 e31,()):=by
 have h:y5.run 20=some (j31 e31,()):=by kernel_rfl
 exact YJ h
theorem Gk:gL.val=some (j31 n31,()):=by
 have h:gL.run 20=some (j31 n31,()):=by kernel_rfl
 exact YJ h
def t31(s:List Bool):Bool×Int:=((B8 s 0 && B8 s 1) || (B8 s 2 || B8 s 3),0)
def u31(s:List Bool):Bool×Int:=(B8 s 1,0)
theorem te:(sbs 4).all (fun s=>decide (enq (j31 e31) s=t31 s))=true:=by decide +kernel
theorem tl:(sbs 2).all (fun s=>decide (enq (j31 l31) s=u31 s))=true:=by decide +kernel
theorem ce:ckJ (j31 e31)=0:=by decide +kernel
theorem cn:ckJ (j31 n31)=0:=by decide +kernel
theorem zHw:ckJ (j31 l31)=0:=by decide +kernel
theorem be:bgn (j31 e31)=[false,false,false,true,false,false,false,false]:=by decide +kernel
theorem bn:bgn (j31 n31)=[false,false,false,true,false,false,false,false]:=be
theorem bl:bgn (j31 l31)=[false,true,false,false,false,false,false,false]:=by decide +kernel
theorem zBG{L:List Eff}{n:Nat}{q:List Bool->Bool×Int}(hn:n<=8)(h:(sbs n).all (fun s=>decide (enq (j31 L) s=q s))=true){s:List Bool}(hs:Bel s n):enq (j31 L) s=q s:=by
 rw[zLw]at h;exact of_decide_eq_true (h s (mG hs hn))
theorem zKz(s:List Bool):enq (j31 n31) s=enq (j31 e31) s:=by
 have hc:ctS (j31 n31) s=ctS (j31 e31) s:=by
  unfold ctS
  congr 1
  refine zLi (fun f=>List.flatMap f (sl s)) (funext fun k=>?_)
  show (opn n31 (k:Int)).1=(opn e31 (k:Int)).1
  unfold opn
  match k with
  |0|1|2|3=>rfl
  |k+4=>rfl
 unfold enq;rw[hc];rfl
theorem rY{q q':List Bool->Bool×Int}{L:List Eff}(h:∀s,Bel s L.length->q s=q' s)(sp inn out:List Bool):shQ q L sp inn out=shQ q' L sp inn out:=by
 unfold shQ;rw[h _ (mH (L:=L) (sp:=sp) (out:=out)).2.bel]
theorem K2{q q':List Bool->Bool×Int}{L:List Eff}(h:∀s,Bel s L.length->q s=q' s){sp:List Bool}{lim:Int}:∀(d k:Nat) (inn out:List Bool),trL q L sp lim d k inn out=trL q' L sp lim d k inn out
 |0,_,_,_=>rfl
 |d+1,k,inn,out=>by
  unfold trL;rw[rY h,K2 h d,K2 h d]
theorem wA{q q':List Bool->Bool×Int}{L:List Eff}(h:∀s,Bel s L.length->q s=q' s){sp:List Bool}{lim:Int}:∀(m:Nat) (inn out:List Bool) (l:List Nd),pvF q L sp lim m inn out l=pvF q' L sp lim m inn out l
 |0,_,_,_=>rfl
 |m+1,_,_,[]=>rfl
 |m+1,inn,out,x::r=>by
  unfold pvF;rw[rY h,wA h m];split
  ·cases pvF q' L sp lim m (inn.set x.2.1.toNat true) out r with
   |none=>rfl
   |some r'=>exact wA h m _ _ _
  ·rfl
def pvT(q:List Bool->Bool×Int)(L:List Eff)(sp:List Bool)(lim:Int)(l:List Nd):Bool:=match pvF q L sp lim 40 z8 z8 l with
 |some []=>true
 |_=>false
theorem Si{L:List Eff}{q:List Bool->Bool×Int}{sp:List Bool}(hc:ckJ (j31 L)=0)(hb:bgn (j31 L)=sp)(h:∀s,Bel s L.length->enq (j31 L) s=q s){lim:Int}(h0:0<=lim)(l:List Nd):pvB (j31 L) lim l=pvT q L sp lim l:=by
 unfold pvB pvT;rw[zLu hc,zLu h0,hb];show (true && _)=_
 rw[Bool.true_and];show (match pvF (enq (j31 L)) L sp lim 40 z8 z8 l with|some []=>true|_=>false)=_
 rw[wA h]
theorem zAU{L:List Eff}{q:List Bool->Bool×Int}{sp:List Bool}(hb:bgn (j31 L)=sp)(h:∀s,Bel s L.length->enq (j31 L) s=q s)(lim:Int):trJ (j31 L) lim=trL q L sp lim L.length 0 z8 z8:=by
 unfold trJ;rw[hb];exact K2 h _ _ _ _
def ckT(q:List Bool->Bool×Int)(L:List Eff)(sp t:List Bool):Bool:=((decide (t.length=8) && (List.range 8).all fun k=>!B8 t k || decide (k<L.length)) && (alw L sp t && (q t).1)) &&
 (sbs L.length).all fun u=>!alw L sp u || (decide ((q u).2=0) && (!(q u).1 || (decide (cst L (sl t)<cst L (sl u)) || decide (u=t))))
theorem GN{n:Nat}(hn:n<=8){u:List Bool}(h:u∈sbs n):Bel u n:=by
 unfold sbs at h;obtain⟨l,hl,rfl⟩:=List.mem_map.1 h;have key:∀(n:Nat) (l:List Bool),l∈bls n->l.length=n:=by
  intro n
  induction n with
  |zero=>intro l hl;rw[List.mem_singleton.1 (show l∈[[]] from hl)];rfl
  |succ n ih =>
   intro l hl;unfold bls at hl;rcases zLa.1 hl with h|h
   all_goals
    obtain⟨m,hm,rfl⟩:=List.mem_map.1 h;rw[zLZ,ih m hm]
 have hl:=key n l hl;refine⟨by simp[hl];omega,fun i hi=>?_⟩
 by_cases h:i<n
 ·exact h
 ·exfalso
  unfold B8 at hi;rw[zLk,zLg (by omega),List.getElem?_replicate]at hi
  split at hi<;>cases hi
theorem zEU{L:List Eff}{q:List Bool->Bool×Int}{sp t:List Bool}(hn:L.length<=8)(hb:bgn (j31 L)=sp)(h:∀s,Bel s L.length->enq (j31 L) s=q s)(ht:Bel t L.length)(hk:ckT q L sp t=true):zAG (j31 L) t=true:=by
 unfold ckT at hk;unfold zAG;rw[hb,h t ht];show ((_ && (alw L sp t && (q t).1)) && (sbs L.length).all fun u=>!alw L sp u || (decide ((enq (j31 L) u).2=0) && (!(enq (j31 L) u).1 || (decide (cst L (sl t)<cst L (sl u)) || decide (u=t)))))=true
 rw[zLR]at hk |-;refine⟨hk.1,?_⟩;rw[zLw]at hk |-;intro u hu;rw[h u (GN hn hu)];exact hk.2 u hu
theorem zET{L:List Eff}{q:List Bool->Bool×Int}{sp:List Bool}(hn:L.length<=8)(hb:bgn (j31 L)=sp)(h:∀s,Bel s L.length->enq (j31 L) s=q s)(hk:((sbs L.length).all fun u=>!alw L sp u || (decide ((q u).2=0) && !(q u).1))=true):zAD (j31 L)=true:=by
 unfold zAD;rw[hb];rw[zLw]at hk |-;intro u hu;have iP:u∈sbs L.length:=hu
 rw[h u (GN hn iP)];exact hk u iP
def s31(a b c d:Bool):List Bool:=[a,b,c,d,false,false,false,false]
def zHJ:List Bool:=[false,false,false,true,false,false,false,false]
def UF:List Bool:=[false,true,false,false,false,false,false,false]
theorem GO{a b c d:Bool}:Bel (s31 a b c d) 4:=⟨rfl,fun i hi=>by
 by_cases h:i<4
 ·exact h
 ·exfalso
  match i,h,hi with
  |0,h,_|1,h,_|2,h,_|3,h,_=>exact h (by decide)
  |4,_,hi|5,_,hi|6,_,hi|7,_,hi=>cases hi
  |i+8,_,hi=>rw[Yz (s:=s31 a b c d) rfl (by omega)]at hi;cases hi⟩
theorem W7:∀s,Bel s e31.length->enq (j31 e31) s=t31 s:=fun s hs=>zBG (n:=4) (by decide) te hs
theorem zKu:∀s,Bel s n31.length->enq (j31 n31) s=t31 s:=fun s hs=>by rw[zKz];exact W7 s hs
theorem zFI:∀s,Bel s l31.length->enq (j31 l31) s=u31 s:=fun s hs=>zBG (n:=2) (by decide) tl hs
theorem zGu{L:List Eff}(h:∀x∈L,x.1.length<=2/\x.2.1.length=0/\x.2.2.2.1.length<=1):∀x∈L,SmE x:=fun x hx=>by
 obtain⟨h1,h2,h3⟩:=h x hx;exact⟨by omega,by omega,by omega⟩
theorem Sb{L:List Eff}(hn:L.length<=1000000)(h:∀x∈L,x.1.length<=2/\x.2.1.length=0/\x.2.2.2.1.length<=1):SmB (j31 L):=⟨⟨by show 3<_;omega,zGu h,hn⟩,by show 3<=1000;omega⟩
theorem sme:SmB (j31 e31):=Sb (by decide) (by decide +kernel)
theorem smn:SmB (j31 n31):=Sb (by decide) (by decide +kernel)
theorem sml:SmB (j31 l31):=Sb (by decide) (by decide +kernel)
theorem pe{lim:Int}{l:List Nd}{b:Bool}(h0:0<=lim)(hl:l.length<=1000000)(h:pvT t31 e31 zHJ lim l=b):(za (j31 e31) lim l).val=some (b,()):=by rw[YR sme hl,Si (sp:=zHJ) ce be W7 h0,h]
theorem zHT{lim:Int}{l:List Nd}{b:Bool}(h0:0<=lim)(hl:l.length<=1000000)(h:pvT u31 l31 UF lim l=b):(za (j31 l31) lim l).val=some (b,()):=by rw[YR sml hl,Si (sp:=UF) zHw bl zFI h0,h]
theorem R3{L:List Eff}{q:List Bool->Bool×Int}{sp t:List Bool}{l:List Int}{c:Int}(hs:SmB (j31 L))(hc:ckJ (j31 L)=0)(hb:bgn (j31 L)=sp)(h:∀s,Bel s L.length->enq (j31 L) s=q s)(hn:L.length<=8)(ht:Bel t L.length)(hk:ckT q L sp t=true)(h1:slI t=l)(h2:cst L (sl t)=c)(h3:0<c)(hl:l.length<=1000000)
  (hp:pvT q L sp c (trL q L sp c L.length 0 z8 z8)=true) (dN:(yj l l).val=some (true,())):(yT (j31 L) c l).val=some (true,()):=by
 refine Ok.val ?_;unfold yT;rw[Ok.bind];refine(wM hs).mono ?_;rintro⟨l',c',p,e,u⟩ hr;obtain⟨g1,g2,g3⟩:=Qf hr.b hc hn (zEU hn hb h ht hk);dsimp only at g1 g2 g3;have e1:l'=l:=g1.trans h1
 have e2:c'=c:=g2.trans h2;have hp1:=hr.p1 g3 (by rw[e2];exact h3)
 have hpn:=hr.n;dsimp only at hp1 hpn |-;subst e1 e2 g3;have a1:eqI (0:Int) 0=true:=rfl
 have a2:eqI c' c'=true:=by rw[yi]
 rw[a1,a2,Ok.bind];show Ok (yj l' l') _
 rw[Ok.yZ dN,Ok.bind];show Ok (za (j31 L) c' p) _
 have hv:pvB (j31 L) c' p=true:=by rw[Si hc hb h (by omega),hp1,zAU hb h];exact hp
 rw[Ok.yZ (YR hs (by omega)),hv,Ok.pure];rfl
theorem Qz{l:List Int}(hl:l.length<=1000000):(yj l l).val=some (true,()):=by
 refine Ok.val ?_;unfold yj;rw[zLs (by rw[z6];simp),Ok.bind]
 refine(Ok.count l.length (fun i (x:Int)=>x=(i:Int)) (P:=fun r=>r=.inl ()) rfl ?_ ?_).mono fun r hr=>by rw[hr,Ok.pure]
 ·rintro i x hi rfl
  obtain⟨b,hb⟩:=zS hi;have e:¬neI b b=true:=by rw[z6];simp
  rw[zLr (by rw[zH,zC];omega),Ok.bind,Ok.JH hb,Ok.bind,Ok.JH hb,zLs e,Ok.pure]
  exact zN (by omega)
 ·rintro x rfl
  rw[zLs (by rw[zH,zC];omega),Ok.pure]
theorem zHC:(yT (j31 e31) (Int.ofNat 7) [0,1]).val=some (true,()) :=
 R3 sme ce be W7 (by decide) (GO (a:=true) (b:=true) (c:=false) (d:=false)) (by decide +kernel) rfl (by decide) (by decide) (by decide) (by decide +kernel) (Qz (by decide))
theorem zHB:(yT (j31 n31) (Int.ofNat 9) [2]).val=some (true,()) :=
 R3 smn cn bn zKu (by decide) (GO (a:=false) (b:=false) (c:=true) (d:=false)) (by decide +kernel) rfl (by decide) (by decide) (by decide) (by decide +kernel) (Qz (by decide))
theorem E4{L:List Eff}{sp:List Bool}{l:List Int}{b:Bool}(hs:SmB (j31 L))(hc:ckJ (j31 L)=0)(hb:bgn (j31 L)=sp)(hl:upB L.length (-1) l=true)(h:alw L sp (stO l)=b):(zq (j31 L) l).val=some (b,()):=by
 rw[MW hs hc hl,hb];show some (alw L sp (stO l),())=_
 rw[h]
theorem al1:(zq (j31 e31) [0,1]).val=some (true,()):=E4 sme ce be (by decide) (by decide +kernel)
theorem al2:(zq (j31 e31) [3]).val=some (false,()):=E4 sme ce be (by decide) (by decide +kernel)
theorem al4:(zq (j31 n31) [0,1]).val=some (false,()):=E4 smn cn bn (by decide) (by decide +kernel)
theorem Vz:rQ [1,0]=false:=by decide
theorem al3:(zq (j31 e31) [1,0]).val=some (false,()):=by
 have hj:=sme.pl ce;have ho:Ok (YM (j31 e31) [1,0]) fun r=>r.2.1=false:=by
  unfold YM;rw[Ok.bind];refine(Ok.count 2 (fun i (s:Int×List Bool)=>s.1=(i:Int)/\s.2.length=8) (P:=fun r=>∃s,r=.inl s) ⟨rfl,rfl⟩ ?_ ?_).mono ?_
  ·rintro i ⟨n,s⟩ hi ⟨h1,h2⟩
   dsimp only at h1 h2;subst h1;obtain⟨k,hk⟩:=zS (xs:=([1,0]:List Int)) (k:=i) hi;have aD:k=1\/k=0:=by
    have:=zLW hk;simpa using this
   have kA:zF (j31 e31).2.2.1=4:=rfl;dsimp only;have e1:¬sel (ltI k 0) true (geI k (zF (j31 e31).2.2.1))=true:=by rw[gx,zLp,zH,Ye,kA];omega
   rw[zLr (by rw[zH];show (i:Int)<2;omega),Ok.bind,Ok.JH hk,zLs e1,Ok.zQ (jM ⟨by omega,by omega⟩),Ok.pure]
   exact⟨zN (by omega),by show (j9 s k true).length=8;unfold j9;simp[h2]⟩
  ·rintro⟨n,s⟩ ⟨h1,h2⟩
   dsimp only at h1 h2;subst h1;dsimp only;rw[zLs (by rw[zH];show ¬((2:Nat):Int)<2;omega),Ok.pure]
   exact⟨s,rfl⟩
  ·rintro r ⟨s,rfl⟩
   dsimp only;rw[Ok.zQ (kr (by decide)),Vz,Ok.pure]
 refine Ok.val ?_;unfold zq;rw[Ok.zQ (gk sme.s.w sme.s.e)];dsimp only;rw[zLs (by rw[ce];decide),Ok.bind]
 refine ho.mono ?_;rintro⟨s,b,u⟩ hb;dsimp only at hb |-;rw[hb,Ok.bind];refine Ok.Y1 (fun h=>nomatch h) fun _=>?_
 rw[Ok.bind];refine Ok.Y1 (fun h=>nomatch h) fun _=>?_
 rw[Ok.pure];rfl
theorem S4{l:List Int}{b:Bool}(hl:upB 4 (-1) l=true)(h:t31 (stO l)=(b,0)):(yB (j31 e31) b l).val=some (true,()):=by
 unfold yB;rw[zA,QI sme ce hl,W7 _ (GJ (by decide) hl),h,zLP,Comp.zB]
 cases b<;>rfl
theorem en4:Ok (jE (j31 e31) [4]) fun r=>r.2.1=1:=by
 unfold jE;rw[Ok.zQ (gk sme.s.w sme.s.e)];dsimp only;rw[zLs (by rw[ce];decide),Ok.bind]
 have ho:Ok (YM (j31 e31) [4]) fun r=>r.2.1=false:=by
  unfold YM;rw[Ok.bind];refine(Ok.count 1 (fun i (s:Int×List Bool)=>s.1=(i:Int)/\i=0) (P:=fun r=>∃s,r=.inr (false,s)) ⟨rfl,rfl⟩ ?_ ?_).mono ?_
  ·rintro i ⟨n,s⟩ hi ⟨h1,h2⟩
   dsimp only at h1 h2;subst h1 h2;dsimp only;have hk:([4]:List Int)[0]?=some 4:=rfl
   rw[zLr (by decide),Ok.bind,Ok.JH hk,zLr (by decide),Ok.pure]
   exact⟨_,rfl⟩
  ·rintro s ⟨_,h2⟩
   cases h2
  ·rintro r ⟨s,rfl⟩
   dsimp only;rw[Ok.pure]
 refine ho.mono ?_;rintro⟨s,b,u⟩ hb;dsimp only at hb |-;rw[hb,zLr (by rfl),Ok.pure]
theorem zDv:Ok (jy (j31 l31)) fun r=>r.2.2.2.1=60/\r.2.2.1=trL u31 l31 UF 0 2 0 z8 z8:=by
 refine(wM sml).mono ?_;rintro⟨l',c',p,e,u⟩ hr;have hk:((sbs l31.length).all fun u=>!alw l31 UF u || (decide ((u31 u).2=0) && !(u31 u).1))=true:=by decide +kernel
 obtain⟨_,_,g3⟩:=Vk hr.b zHw (by decide) (zET (by decide) bl zFI hk)
 dsimp only at g3 |-;refine⟨g3,(hr.p0 g3).trans ?_⟩;rw[zAU (sp:=UF) bl zFI];rfl
def w9:List Nd:=[(1,2,()),(2,0,()),(1,0,()),(1,1,()),(2,0,()),(3,0,()),(3,0,())]
def zHA:List Nd:=[(1,0,()),(1,1,()),(2,0,()),(3,0,()),(1,2,()),(2,0,()),(3,0,())]
theorem wu(n:Int):(yK n).val=some ((1,n,()),()):=by unfold yK;exact Comp.zB _
theorem l9:yx.val=some ((2,0,()),()):=by unfold yx;exact Comp.zB _
theorem Zw:ze.val=some ((3,0,()),()):=by unfold ze;exact Comp.zB _
theorem NS:jA.val=some (true,()):=by
 refine Ok.val ?_;unfold jA;rw[Ok.zQ pM,vk];show Ok ((zq (j31 e31) [0,1]).bind _) _
 rw[Ok.zQ al1,zLr rfl];show Ok ((zq (j31 e31) [3]).bind _) _
 rw[Ok.zQ al2,zLr (by rfl)]
 show Ok ((zq (j31 e31) [1,0]).bind _) _
 rw[Ok.zQ al3,zLr (by rfl),Ok.zQ Gk]
 show Ok ((zq (j31 n31) [0,1]).bind _) _
 rw[Ok.zQ al4];show Ok ((jE (j31 e31) [4]).bind _) _
 rw[Ok.bind];refine en4.mono ?_;rintro⟨x,e,u⟩ he;dsimp only at he;rw[vk];show Ok ((yB (j31 e31) false [0]).bind _) _
 rw[Ok.zQ (S4 (by decide) (by decide +kernel)),zLr rfl]
 show Ok ((yB (j31 e31) true [0,1]).bind _) _
 rw[Ok.zQ (S4 (by decide) (by decide +kernel)),zLr rfl]
 show Ok ((yB (j31 e31) true [3]).bind _) _
 rw[Ok.zQ (S4 (by decide) (by decide +kernel)),zLr rfl]
 dsimp only;rw[he,zLr (by decide)]
 show Ok ((yT (j31 e31) (Int.ofNat 7) [0,1]).bind _) _
 rw[Ok.zQ zHC,zLr rfl,Ok.zQ Gk];show Ok ((yT (j31 n31) (Int.ofNat 9) [2]).bind _) _
 rw[Ok.zQ zHB,Ok.zQ pM];have i0:(j31 e31).2.2.1[0]?=some ([b31 2 4],[],3,[],()):=rfl
 have i3:(j31 e31).2.2.1[3]?=some ([b31 1 6],[],1,[],()):=rfl;show Ok ((idx (j31 e31).2.2.1 0).bind _) _
 rw[Ok.bind,Ok.idx (by decide) i0]
 show Ok ((idx (j31 e31).2.2.1 3).bind _) _
 rw[Ok.bind,Ok.idx (by decide) i3]
 show Ok ((jy (j31 l31)).bind _) _
 rw[Ok.bind];refine zDv.mono ?_;rintro⟨l',c',p,e,u⟩ ⟨h60,hp⟩;dsimp only at h60 hp |-;subst h60;rw[Ok.bind];show Ok (za (j31 l31) (Int.ofNat 0) p) _
 have dN:p.length<=1000000:=by rw[hp];decide +kernel
 rw[Ok.yZ (zHT (b:=true) (by decide) dN (by rw[hp];decide +kernel)),Ok.bind]
 show Ok ze _
 rw[Ok.yZ Zw,Ok.bind];show Ok (za (j31 l31) (Int.ofNat 0) [(3,0,())]) _
 rw[Ok.yZ (zHT (b:=true) (by decide) (by decide) (by decide +kernel)),Ok.bind]
 show Ok ze _
 rw[Ok.yZ Zw,Ok.bind];show Ok (za (j31 e31) (Int.ofNat 0) [(3,0,())]) _
 rw[Ok.yZ (pe (b:=false) (by decide) (by decide) (by decide +kernel))]
 rw[Ok.zQ (wu 2),Ok.zQ l9,Ok.zQ (wu 0),Ok.zQ (wu 1),Ok.zQ l9,Ok.zQ Zw,Ok.zQ Zw,Ok.zQ (wu 0),Ok.zQ (wu 1),Ok.zQ l9,Ok.zQ Zw,Ok.zQ (wu 2),Ok.zQ l9,Ok.zQ Zw];show Ok ((za (j31 e31) (Int.ofNat 7) w9).bind _) _
 rw[Ok.zQ (pe (b:=true) (by decide) (by decide) (by decide +kernel))]
 show Ok ((za (j31 e31) (Int.ofNat 7) zHA).bind _) _
 rw[Ok.zQ (pe (b:=false) (by decide) (by decide) (by decide +kernel))]
 show Ok ((za (j31 e31) (Int.ofNat 8) w9).bind _) _
 rw[Ok.zQ (pe (b:=false) (by decide) (by decide) (by decide +kernel))]
 show Ok ((sub w9 0 6).bind _) _
 rw[Ok.bind,Ok.sub (by decide)]
 show Ok ((za (j31 e31) (Int.ofNat 7) ((w9.take 6).drop 0)).bind _) _
 rw[Ok.zQ (pe (b:=false) (by decide) (by decide) (by decide +kernel))]
 show Ok ((app [] w9).bind _) _
 refine vV (by decide) ?_
 rw[Ok.zQ Zw];refine vV (by decide) ?_
 show Ok ((za (j31 e31) (Int.ofNat 7) (w9++[(3,0,())])).bind _) _
 rw[Ok.zQ (pe (b:=false) (by decide) (by decide) (by decide +kernel)),Ok.pure]
 rfl
theorem zGw(l:List (List Int)):Ok (kJ l) fun _=>True:=by
 unfold kJ;rw[Ok.bind];refine(Ok.loop (fun s:List (List Int)×Int=>0<=s.2/\s.2<=7/\(s.1.length:Int)<=s.2) (fun s=>(7-s.2).toNat)
  (P:=fun _=>True) ?_ ?_).mono fun R _=>by rw[Ok.pure];trivial
 ·exact⟨by show (0:Int)<=0;omega,by show (0:Int)<=7;omega,by show ((0:Nat):Int)<=0;omega⟩
 ·rintro⟨m,i⟩ ⟨h1,h2,h3⟩
  dsimp only at h1 h2 h3 |-;split
  ·rename_i hc
   obtain⟨c1,c2⟩:=nH hc;rw[zH]at c1 c2;rw[zC]at c1;obtain⟨z,hz⟩:=zS (xs:=l) (k:=i.toNat) (by omega)
   rw[Ok.bind,Ok.idx h1 hz,Ok.bind,Ok.idx h1 hz];refine qt ⟨by decide,by rw[Zq,zC];omega,by rw[Zq,zC];omega⟩ fun ys _=>?_
   refine vV (by simp;omega) ?_
   rw[Ok.pure];dsimp only;rw[ye (m:=i) (n:=1) (by omega)]
   exact⟨⟨by omega,by omega,by rw[zLS,zLU];omega⟩,by omega⟩
  ·rw[Ok.pure];trivial
theorem JobOk.smB{j:Job}(hj:JobOk j):SmB j:=⟨hj.sm,by have:=hj.p.1.1;omega⟩
theorem Vl{l:List Int}(h:∀x∈l,0<=x/\x<256):Ok (jZ l) fun r=>r.1.length<=15:=by
 unfold jZ;rw[Ok.bind];refine(Ok.loop (fun s:List Nd×Int=>0<=s.2/\s.2<=15/\(s.1.length:Int)=s.2) (fun s=>(15-s.2).toNat) (P:=fun r=>r.length<=15) ⟨by decide,by decide,rfl⟩ ?_).mono fun r hr=>by rw[Ok.pure];exact hr
 rintro⟨m,i⟩ ⟨h1,h2,h3⟩;dsimp only at h1 h2 h3 |-;split
 ·rename_i hc
  obtain⟨c1,c2⟩:=nH hc;rw[zH]at c1 c2;rw[zC]at c1;obtain⟨z,hz⟩:=zS (xs:=l) (k:=i.toNat) (by omega)
  have hzb:=h z (zLW hz);have cz:nU .i64 z=z:=rS (by omega)
  rw[Ok.bind,Ok.idx h1 hz,cz,Ok.bind,Ok.rem (by decide),Ok.bind]
  have hg:Ok (Comp.gd (ntB (eqI (zJ .i64 1 (z.tmod 3)) 1)) (idx l i) (Int.ofNat 0)) fun _=>True:=Ok.Y1 (fun _=>(Ok.idx h1 hz).2 trivial) fun _=>trivial
  refine hg.mono fun b _=>?_
  refine jC (fun _=>True) (fun j hj=>?_) fun y _=>?_
  ·split
   ·rw[Ok.bind,Ok.idx h1 hz,cz,Ok.bind,Ok.yZ (j7 (by decide) (by omega)),Ok.bind,Ok.rem (by decide)]
    exact hj _ trivial
   ·exact hj _ trivial
  ·refine vV (by simp;omega) ?_
   rw[Ok.pure];dsimp only;rw[ye (m:=i) (n:=1) (by omega)]
   exact⟨⟨by omega,by omega,by rw[zLS,zLU];omega⟩,by omega⟩
 ·rw[Ok.pure]
  dsimp only;omega
theorem BestR.ck0{j:Job}{l:List Int}{c:Int}(h:BestR j l c 0):ckJ j=0:=by
 have key:∀e,BestR j l c e->e=0->ckJ j=0:=fun e h he=>by
  cases h with
  |bad g=>exact he
  |err g g'=>exact g
  |non g g'=>exact g
  |ok g g'=>exact g
 exact key 0 h rfl
theorem MD(x:List (List Int)){l:List Int}{m:Int}(hl:∀y∈l,0<=y/\y<256)(hm:0<=m/\m<256):Ok (jR x l m) fun r=>r.1=true:=by
 unfold jR;rw[Ok.zQ NS,Ok.bind];refine(zGw x).mono fun R _=>?_
 rw[Ok.bind];refine(Vy R.1).mono ?_;rintro⟨j,u⟩ ⟨hj,h1⟩;dsimp only at hj h1 |-;have hs:=hj.smB
 show Ok ((jy j).bind _) _
 rw[Ok.bind];refine(wM hs).mono ?_;rintro⟨set,cost,tT,e,u'⟩ hr;have hpn:=hr.n
 have oW:=hr.b;dsimp only at hpn oW |-;have cm:nU .i64 m=m:=rS (by omega)
 rw[cm,Ok.bind,Ok.rem (by decide),Ok.bind]
 refine(Vl hl).mono ?_;rintro⟨nd,u2⟩ sA;dsimp only at sA |-;rw[Ok.zQ Zw,Ok.bind];have aO:e=0->0<=cost/\cost<=8 * 1048576:=fun he=>by
  rw[he]at oW;have hc:ckJ j=0:=oW.ck0
  obtain⟨t,_,k2,k3,_⟩:=oW.ok';have tW:=(hs.pl hc).cs
  have:=l8 (L:=j.2.2.1) (m:=1048576) (l:=sl t) fun k hk=>tW k (k3.2 k (kK.1 hk).2)
  have h8:=wx t;rw[k2];refine⟨this.1,Int.le_trans this.2 ?_⟩;omega
 have key:∀(lim:Int) (p:List Nd),p.length<=1000000->∀b,(za j lim p).val=some (b,())->b=true->e=0->0<lim/\lim<=cost:=fun lim p hp b hv hb he=>by
  rw[YR hs hp]at hv;rw[he]at oW;cases hv;exact Ip hs hb oW.ok'
 refine(Ok.count 4 (fun i (s:Int)=>s=(i:Int)) (P:=fun r:Unit⊕Bool=>r=.inl ()) rfl ?_ ?_).mono ?_
 ·rintro i s hi rfl
  have kA:zF [(m.tmod 25,nd,()),(m.tmod 25,tT,()),(cost,tT,()),(m.tmod 25,[((3:Int),(0:Int),())],())]=4:=rfl;rw[zLr (by rw[kA,zH];omega)]
  refine jC (fun _=>True) (fun j' hj'=>?_) fun _ _=>by rw[Ok.pure];exact zN (by omega)
  obtain⟨z,hz⟩:=zS (xs:=[(m.tmod 25,nd,()),(m.tmod 25,tT,()),(cost,tT,()),(m.tmod 25,[((3:Int),(0:Int),())],())]) (k:=i) hi;have hzl:z.2.1.length<=1000000:=by
   have:=zLW hz;simp only[zLV,List.not_mem_nil,or_false]at this;rcases this with rfl|rfl|rfl|rfl
   ·dsimp only;omega
   ·dsimp only;omega
   ·dsimp only;omega
   ·show 1<=1000000;omega
  rw[Ok.bind,Ok.JH hz];show Ok ((za j z.1 z.2.1).bind _) _
  have hv:=YR hs (lim:=z.1) hzl;rw[Ok.zQ hv];dsimp only
  cases hb:pvB j z.1 z.2.1 with
  |false=>rw[zLr (by rfl)];exact hj' () trivial
  |true =>
   rw[zLs (by decide)]
   have aS:¬sel (eqI e 0) (sel (eqI z.1 0) true (ltI cost z.1)) false=true:=by
    rw[gy,zLR,gx,zLp,yi,yi,zH];rintro⟨he,h2⟩;have:=key z.1 z.2.1 hzl _ hv hb he
    omega
   rw[zLs aS];exact hj' () trivial
 ·rintro s rfl
  have kA:zF [(m.tmod 25,nd,()),(m.tmod 25,tT,()),(cost,tT,()),(m.tmod 25,[((3:Int),(0:Int),())],())]=4:=rfl;rw[zLs (by rw[kA,zH];show ¬((4:Nat):Int)<4;omega),Ok.pure]
 ·rintro r rfl
  dsimp only;rw[Ok.bind];by_cases he:e=0
  ·have e1:neI e 0=false:=by rw[he];rfl
   obtain⟨b1,b2⟩:=aO he;rw[e1,ye (by omega)]
   show Ok (za j (cost+1) tT) _
   have hv:=YR hs (lim:=cost+1) (l:=tT) (by omega)
   rw[Ok.yZ hv,Ok.pure]
   cases hb:pvB j (cost+1) tT with
   |false=>rfl
   |true=>have:=key _ _ (by omega) _ hv hb he;omega
  ·have e1:neI e 0=true:=by rw[z6];exact he
   rw[e1];show Ok (Comp.pure _) _
   rw[Ok.pure,Ok.pure];rfl
end Go.Geo
end
noncomputable section
namespace Go.Dn
open Go Go.Proofs Go.RowKit Go.Eng Go.Lift Go.Den
abbrev prog:Program:=Tryz.prog
theorem mixed:prog.follows .mixedOrders=true:=by kernel_rfl
def t3:Ty:=.int .i64
def t4:Ty:=.bool
def t5:Ty:=.int .u8
def t9:Ty:=.str
def t23:Ty:=.sl t3
def t22:Ty:=.sl t23
def t26:Ty:=.arr 3 t3
def t104:Ty:=.cons t3 (.cons t3 (.cons t3 .nil))
def t106:Ty:=.cons t104 (.cons t3 .nil)
def t107:Ty:=.sl t106
def t28:Ty:=.sl t107
def t30:Ty:=.cons t9 (.cons t28 (.cons t23 .nil))
def t31:Ty:=.sl t4
def t33:Ty:=.cons t31 (.cons t31 (.cons t28 .nil))
def t62:Ty:=.cons t28 (.cons t28 (.cons t3 (.cons t23 .nil)))
def t34:Ty:=.sl t62
def t36:Ty:=.cons t30 (.cons t33 (.cons t34 .nil))
def t41:Ty:=.arr 2 t23
def t43:Ty:=.int .i64
def t48:Ty:=.arr 4 t3
def t81:Ty:=.cons t3 (.cons t3 .nil)
def t73:Ty:=.sl t81
def t78:Ty:=.sl t5
def t85:Ty:=.cons t3 (.cons t73 .nil)
def t87:Ty:=.sl t85
def t117:Ty:=.fn (.cons t3 .nil) (.cons t4 .nil)
def t130:Ty:=.cons t23 (.cons t3 .nil)
def t136:Ty:=.arr 8 t4
def t140:Ty:=.cons t36 (.cons t136 .nil)
def t147:Ty:=.fn (.cons t3 (.cons t136 .nil)) (.nil)
def t156:Ty:=.nil
def t158:Ty:=.fn (.cons t136 (.cons t136 .nil)) (.nil)
def t166:Ty:=.fn (.cons t107 .nil) (.cons t4 .nil)
def t173:Ty:=.fn (.cons t3 (.cons t107 .nil)) (.cons t4 .nil)
def t185:Ty:=.fn (.cons t3 (.cons t136 (.cons t136 .nil))) (.nil)
def t189:Ty:=.sl t106
def t191:Ty:=.sl t28
def t198:Ty:=.fn (.cons t106 .nil) (.cons t4 .nil)
def t202:Ty:=.sl t104
def t208:Ty:=.cons t3 (.cons t3 (.cons t3 (.cons t3 .nil)))
def t203:Ty:=.sl t208
def t210:Ty:=.fn (.cons t208 .nil) (.cons t4 .nil)
def t220:Ty:=.mp t208 t4
def t224:Ty:=.arr 3 t106
def t233:Ty:=.fn (.cons t106 (.cons t106 .nil)) (.cons t3 .nil)
def t245:Ty:=.int .u64
def t246:Ty:=.arr 2 t3
def t247:Ty:=.sl t246
theorem eq3:EqT prog 3 t3 1:=uw (z:=.int .i64 0) (sz:=1) (by_:=8) ⟨by kernel_rfl,by kernel_rfl⟩
def i3:TI:=⟨.int .i64,.int .i64 0,1,8,[],t3,1,false⟩
theorem ok3:i3.ok prog 3:=yN ⟨by kernel_rfl,by kernel_rfl⟩ rfl (fun _=>⟨eq3,by decide,fun _=>by kernel_rfl⟩) (yb rfl)
theorem eq4:EqT prog 4 t4 1:=QG (z:=.bool false) (sz:=1) (by_:=1) ⟨by kernel_rfl,by kernel_rfl⟩
def i4:TI:=⟨.bool,.bool false,1,1,[],t4,1,false⟩
theorem ok4:i4.ok prog 4:=yN ⟨by kernel_rfl,by kernel_rfl⟩ rfl (fun _=>⟨eq4,by decide,fun _=>by kernel_rfl⟩) (yb rfl)
theorem eq5:EqT prog 5 t5 1:=uw (z:=.int .u8 0) (sz:=1) (by_:=1) ⟨by kernel_rfl,by kernel_rfl⟩
def i5:TI:=⟨.int .u8,.int .u8 0,1,1,[],t5,1,false⟩
theorem ok5:i5.ok prog 5:=yN ⟨by kernel_rfl,by kernel_rfl⟩ rfl (fun _=>⟨eq5,by decide,fun _=>by kernel_rfl⟩) (yb rfl)
theorem eq9:EqT prog 9 t9 1:=V4 (z:=.string ⟨#[]⟩) (sz:=1) (by_:=16) ⟨by kernel_rfl,by kernel_rfl⟩
def i9:TI:=⟨.string,.string ⟨#[]⟩,1,16,[],t9,1,false⟩
theorem ok9:i9.ok prog 9:=yN ⟨by kernel_rfl,by kernel_rfl⟩ rfl (fun _=>⟨eq9,by decide,fun _=>by kernel_rfl⟩) (yb rfl)
def i22:=iS 23 t22
theorem zKn:i22.ok prog 22:=XC ⟨by kernel_rfl,by kernel_rfl⟩
def i23:=iS 3 t23
theorem zKm:i23.ok prog 23:=XC ⟨by kernel_rfl,by kernel_rfl⟩
theorem zKy:EqT prog 26 t26 2:=Kr (z:=.agg #[.int .i64 0,.int .i64 0,.int .i64 0]) (sz:=3) (by_:=24) ⟨by kernel_rfl,by kernel_rfl⟩ (dd':=.int .i64) (z':=.int .i64 0) (k:=1) (by_':=8) ⟨by kernel_rfl,by kernel_rfl⟩ rfl rfl eq3
def i26:TI:=⟨.array 3 3,.agg #[.int .i64 0,.int .i64 0,.int .i64 0],3,24,[],t26,2,false⟩
theorem zKl:i26.ok prog 26:=yN ⟨by kernel_rfl,by kernel_rfl⟩ rfl (fun _=>⟨zKy,by decide,fun _=>by kernel_rfl⟩) (yb rfl)
def i28:=iS 107 t28
theorem zKk:i28.ok prog 28:=XC ⟨by kernel_rfl,by kernel_rfl⟩
def i30:TI:=⟨.struct (prog.fieldsOf 30),.agg #[.string ⟨#[]⟩,.slice none 0 0,.slice none 0 0],3,64,[(9,0,0),(28,1,0),(23,2,0)],t30,0,false⟩
theorem zKj:i30.ok prog 30:=gv ⟨by kernel_rfl,by kernel_rfl⟩ (⟨⟨by kernel_rfl,by kernel_rfl,by kernel_rfl⟩,⟨⟨by kernel_rfl,by kernel_rfl,by kernel_rfl⟩,⟨⟨by kernel_rfl,by kernel_rfl,by kernel_rfl⟩,trivial⟩⟩⟩) ⟨by kernel_rfl,fun w=>by kernel_rfl⟩ (ZM rfl) (yb rfl)
def i31:=iS 4 t31
theorem zKi:i31.ok prog 31:=XC ⟨by kernel_rfl,by kernel_rfl⟩
def i33:TI:=⟨.struct (prog.fieldsOf 33),.agg #[.slice none 0 0,.slice none 0 0,.slice none 0 0],3,72,[(31,0,0),(31,1,0),(28,2,0)],t33,0,false⟩
theorem zKh:i33.ok prog 33:=gv ⟨by kernel_rfl,by kernel_rfl⟩ (⟨⟨by kernel_rfl,by kernel_rfl,by kernel_rfl⟩,⟨⟨by kernel_rfl,by kernel_rfl,by kernel_rfl⟩,⟨⟨by kernel_rfl,by kernel_rfl,by kernel_rfl⟩,trivial⟩⟩⟩) ⟨by kernel_rfl,fun w=>by kernel_rfl⟩ (ZM rfl) (yb rfl)
def i34:=iS 62 t34
theorem zKg:i34.ok prog 34:=XC ⟨by kernel_rfl,by kernel_rfl⟩
def i36:TI:=⟨.struct (prog.fieldsOf 36),.agg #[.string ⟨#[]⟩,.slice none 0 0,.slice none 0 0,.slice none 0 0,.slice none 0 0,.slice none 0 0,.slice none 0 0],7,160,[(30,0,2),(33,3,2),(34,6,0)],t36,0,false⟩
theorem zKf:i36.ok prog 36:=gv ⟨by kernel_rfl,by kernel_rfl⟩ (⟨⟨by kernel_rfl,by kernel_rfl,by kernel_rfl⟩,⟨⟨by kernel_rfl,by kernel_rfl,by kernel_rfl⟩,⟨⟨by kernel_rfl,by kernel_rfl,by kernel_rfl⟩,trivial⟩⟩⟩) ⟨by kernel_rfl,fun w=>by kernel_rfl⟩ (ZM rfl) (yb rfl)
def i41:TI:=⟨.array 2 23,.agg #[.slice none 0 0,.slice none 0 0],2,48,[],t41,0,false⟩
theorem zKe:i41.ok prog 41:=yN ⟨by kernel_rfl,by kernel_rfl⟩ rfl (ZM rfl) (yb rfl)
theorem zKx:EqT prog 43 t43 1:=uw (z:=.int .i64 0) (sz:=1) (by_:=8) ⟨by kernel_rfl,by kernel_rfl⟩
def i43:TI:=⟨.int .i64,.int .i64 0,1,8,[],t43,1,false⟩
theorem zKd:i43.ok prog 43:=yN ⟨by kernel_rfl,by kernel_rfl⟩ rfl (fun _=>⟨zKx,by decide,fun _=>by kernel_rfl⟩) (yb rfl)
theorem zKw:EqT prog 48 t48 2:=Kr (z:=.agg #[.int .i64 0,.int .i64 0,.int .i64 0,.int .i64 0]) (sz:=4) (by_:=32) ⟨by kernel_rfl,by kernel_rfl⟩ (dd':=.int .i64) (z':=.int .i64 0) (k:=1) (by_':=8) ⟨by kernel_rfl,by kernel_rfl⟩ rfl rfl eq3
def i48:TI:=⟨.array 4 3,.agg #[.int .i64 0,.int .i64 0,.int .i64 0,.int .i64 0],4,32,[],t48,2,false⟩
theorem zKc:i48.ok prog 48:=yN ⟨by kernel_rfl,by kernel_rfl⟩ rfl (fun _=>⟨zKw,by decide,fun _=>by kernel_rfl⟩) (yb rfl)
def i62:TI:=⟨.struct (prog.fieldsOf 62),.agg #[.slice none 0 0,.slice none 0 0,.int .i64 0,.slice none 0 0],4,80,[(28,0,0),(28,1,0),(3,2,0),(23,3,0)],t62,0,false⟩
theorem zKb:i62.ok prog 62:=gv ⟨by kernel_rfl,by kernel_rfl⟩ (⟨⟨by kernel_rfl,by kernel_rfl,by kernel_rfl⟩,⟨⟨by kernel_rfl,by kernel_rfl,by kernel_rfl⟩,⟨⟨by kernel_rfl,by kernel_rfl,by kernel_rfl⟩,⟨⟨by kernel_rfl,by kernel_rfl,by kernel_rfl⟩,trivial⟩⟩⟩⟩) ⟨by kernel_rfl,fun w=>by kernel_rfl⟩ (ZM rfl) (yb rfl)
def i73:=iS 81 t73
theorem zKa:i73.ok prog 73:=XC ⟨by kernel_rfl,by kernel_rfl⟩
def i78:=iS 5 t78
theorem zKZ:i78.ok prog 78:=XC ⟨by kernel_rfl,by kernel_rfl⟩
theorem zKv:EqT prog 81 t81 2:=YY (fs:=prog.fieldsOf 81) (z:=.agg #[.int .i64 0,.int .i64 0]) (sz:=2) (by_:=16) ⟨by kernel_rfl,by kernel_rfl⟩ rfl rfl (by kernel_rfl) (Je (D:=1) (YZ eq3 (XI _)) (by kernel_rfl))
def i81:TI:=⟨.struct (prog.fieldsOf 81),.agg #[.int .i64 0,.int .i64 0],2,16,[(3,0,0),(3,1,0)],t81,2,false⟩
theorem zKY:i81.ok prog 81:=gv ⟨by kernel_rfl,by kernel_rfl⟩ (⟨⟨by kernel_rfl,by kernel_rfl,by kernel_rfl⟩,⟨⟨by kernel_rfl,by kernel_rfl,by kernel_rfl⟩,trivial⟩⟩) ⟨by kernel_rfl,fun w=>by kernel_rfl⟩ (fun _=>⟨zKv,by decide,fun _=>by kernel_rfl⟩) (yb rfl)
def i85:TI:=⟨.struct (prog.fieldsOf 85),.agg #[.int .i64 0,.slice none 0 0],2,32,[(3,0,0),(73,1,0)],t85,0,false⟩
theorem zKX:i85.ok prog 85:=gv ⟨by kernel_rfl,by kernel_rfl⟩ (⟨⟨by kernel_rfl,by kernel_rfl,by kernel_rfl⟩,⟨⟨by kernel_rfl,by kernel_rfl,by kernel_rfl⟩,trivial⟩⟩) ⟨by kernel_rfl,fun w=>by kernel_rfl⟩ (ZM rfl) (yb rfl)
def i87:=iS 85 t87
theorem zKW:i87.ok prog 87:=XC ⟨by kernel_rfl,by kernel_rfl⟩
theorem zBF:EqT prog 104 t104 2:=YY (fs:=prog.fieldsOf 104) (z:=.agg #[.int .i64 0,.int .i64 0,.int .i64 0]) (sz:=3) (by_:=24) ⟨by kernel_rfl,by kernel_rfl⟩ rfl rfl (by kernel_rfl) (Je (D:=1) (YZ eq3 (XI _)) (by kernel_rfl))
def zHq:TI:=⟨.struct (prog.fieldsOf 104),.agg #[.int .i64 0,.int .i64 0,.int .i64 0],3,24,[(3,0,0),(3,1,0),(3,2,0)],t104,2,false⟩
theorem zGg:zHq.ok prog 104:=gv ⟨by kernel_rfl,by kernel_rfl⟩ (⟨⟨by kernel_rfl,by kernel_rfl,by kernel_rfl⟩,⟨⟨by kernel_rfl,by kernel_rfl,by kernel_rfl⟩,⟨⟨by kernel_rfl,by kernel_rfl,by kernel_rfl⟩,trivial⟩⟩⟩) ⟨by kernel_rfl,fun w=>by kernel_rfl⟩ (fun _=>⟨zBF,by decide,fun _=>by kernel_rfl⟩) (yb rfl)
theorem zBE:EqT prog 106 t106 3:=YY (fs:=prog.fieldsOf 106) (z:=.agg #[.int .i64 0,.int .i64 0,.int .i64 0,.int .i64 0]) (sz:=4) (by_:=32) ⟨by kernel_rfl,by kernel_rfl⟩ rfl rfl (by kernel_rfl) (Je (D:=2) (YZ eq3 (YZ zBF (XI _))) (by kernel_rfl))
def zFH:TI:=⟨.struct (prog.fieldsOf 106),.agg #[.int .i64 0,.int .i64 0,.int .i64 0,.int .i64 0],4,32,[(104,0,2),(3,3,0)],t106,3,false⟩
theorem zGf:zFH.ok prog 106:=gv ⟨by kernel_rfl,by kernel_rfl⟩ (⟨⟨by kernel_rfl,by kernel_rfl,by kernel_rfl⟩,⟨⟨by kernel_rfl,by kernel_rfl,by kernel_rfl⟩,trivial⟩⟩) ⟨by kernel_rfl,fun w=>by kernel_rfl⟩ (fun _=>⟨zBE,by decide,fun _=>by kernel_rfl⟩) (yb rfl)
def i107:=iS 106 t107
theorem zGe:i107.ok prog 107:=XC ⟨by kernel_rfl,by kernel_rfl⟩
def i117:TI:=⟨.func #[3] #[4] false,.nilFunc,1,8,[],t117,0,false⟩
theorem zGd:i117.ok prog 117:=yN ⟨by kernel_rfl,by kernel_rfl⟩ rfl (ZM rfl) (yb rfl)
def i130:TI:=⟨.struct (prog.fieldsOf 130),.agg #[.slice none 0 0,.int .i64 0],2,32,[(23,0,0),(3,1,0)],t130,0,false⟩
theorem zGc:i130.ok prog 130:=gv ⟨by kernel_rfl,by kernel_rfl⟩ (⟨⟨by kernel_rfl,by kernel_rfl,by kernel_rfl⟩,⟨⟨by kernel_rfl,by kernel_rfl,by kernel_rfl⟩,trivial⟩⟩) ⟨by kernel_rfl,fun w=>by kernel_rfl⟩ (ZM rfl) (yb rfl)
theorem zGt:EqT prog 136 t136 2:=Kr (z:=.agg #[.bool false,.bool false,.bool false,.bool false,.bool false,.bool false,.bool false,.bool false]) (sz:=8) (by_:=8) ⟨by kernel_rfl,by kernel_rfl⟩ (dd':=.bool) (z':=.bool false) (k:=1) (by_':=1) ⟨by kernel_rfl,by kernel_rfl⟩ rfl rfl eq4
def zHp:TI:=⟨.array 8 4,.agg #[.bool false,.bool false,.bool false,.bool false,.bool false,.bool false,.bool false,.bool false],8,8,[],t136,2,false⟩
theorem zGb:zHp.ok prog 136:=yN ⟨by kernel_rfl,by kernel_rfl⟩ rfl (fun _=>⟨zGt,by decide,fun _=>by kernel_rfl⟩) (yb rfl)
def zHo:TI:=⟨.struct (prog.fieldsOf 140),.agg #[.string ⟨#[]⟩,.slice none 0 0,.slice none 0 0,.slice none 0 0,.slice none 0 0,.slice none 0 0,.slice none 0 0,.bool false,.bool false,.bool false,.bool false,.bool false,.bool false,.bool false,.bool false],15,168,[(36,0,6),(136,7,7)],t140,0,false⟩
theorem zGa:zHo.ok prog 140:=gv ⟨by kernel_rfl,by kernel_rfl⟩ (⟨⟨by kernel_rfl,by kernel_rfl,by kernel_rfl⟩,⟨⟨by kernel_rfl,by kernel_rfl,by kernel_rfl⟩,trivial⟩⟩) ⟨by kernel_rfl,fun w=>by kernel_rfl⟩ (ZM rfl) (yb rfl)
def zHn:TI:=⟨.func #[3,136] #[] false,.nilFunc,1,8,[],t147,0,false⟩
theorem zGZ:zHn.ok prog 147:=yN ⟨by kernel_rfl,by kernel_rfl⟩ rfl (ZM rfl) (yb rfl)
theorem zGs:EqT prog 156 t156 2:=YY (fs:=prog.fieldsOf 156) (z:=.agg #[]) (sz:=0) (by_:=0) ⟨by kernel_rfl,by kernel_rfl⟩ rfl rfl (by kernel_rfl) (Je (D:=1) (XI _) (by kernel_rfl))
def zFG:TI:=⟨.struct (prog.fieldsOf 156),.agg #[],0,0,[],t156,2,false⟩
theorem zGY:zFG.ok prog 156:=yN ⟨by kernel_rfl,by kernel_rfl⟩ rfl (fun _=>⟨zGs,by decide,fun _=>by kernel_rfl⟩) (yb rfl)
def zHm:TI:=⟨.func #[136,136] #[] false,.nilFunc,1,8,[],t158,0,false⟩
theorem zGX:zHm.ok prog 158:=yN ⟨by kernel_rfl,by kernel_rfl⟩ rfl (ZM rfl) (yb rfl)
def zHl:TI:=⟨.func #[107] #[4] false,.nilFunc,1,8,[],t166,0,false⟩
theorem zGW:zHl.ok prog 166:=yN ⟨by kernel_rfl,by kernel_rfl⟩ rfl (ZM rfl) (yb rfl)
def i173:TI:=⟨.func #[3,107] #[4] false,.nilFunc,1,8,[],t173,0,false⟩
theorem zGV:i173.ok prog 173:=yN ⟨by kernel_rfl,by kernel_rfl⟩ rfl (ZM rfl) (yb rfl)
def zHk:TI:=⟨.func #[3,136,136] #[] false,.nilFunc,1,8,[],t185,0,false⟩
theorem zGU:zHk.ok prog 185:=yN ⟨by kernel_rfl,by kernel_rfl⟩ rfl (ZM rfl) (yb rfl)
def zHj:=iS 106 t189
theorem zGT:zHj.ok prog 189:=XC ⟨by kernel_rfl,by kernel_rfl⟩
def zHi:=iS 28 t191
theorem zGS:zHi.ok prog 191:=XC ⟨by kernel_rfl,by kernel_rfl⟩
def i198:TI:=⟨.func #[106] #[4] false,.nilFunc,1,8,[],t198,0,false⟩
theorem zGR:i198.ok prog 198:=yN ⟨by kernel_rfl,by kernel_rfl⟩ rfl (ZM rfl) (yb rfl)
def zHh:=iS 104 t202
theorem zGQ:zHh.ok prog 202:=XC ⟨by kernel_rfl,by kernel_rfl⟩
def i203:=iS 208 t203
theorem zGP:i203.ok prog 203:=XC ⟨by kernel_rfl,by kernel_rfl⟩
theorem zBD:EqT prog 208 t208 2:=YY (fs:=prog.fieldsOf 208) (z:=.agg #[.int .i64 0,.int .i64 0,.int .i64 0,.int .i64 0]) (sz:=4) (by_:=32) ⟨by kernel_rfl,by kernel_rfl⟩ rfl rfl (by kernel_rfl) (Je (D:=1) (YZ eq3 (XI _)) (by kernel_rfl))
def i208:TI:=⟨.struct (prog.fieldsOf 208),.agg #[.int .i64 0,.int .i64 0,.int .i64 0,.int .i64 0],4,32,[(3,0,0),(3,1,0),(3,2,0),(3,3,0)],t208,2,true⟩
theorem zGO:i208.ok prog 208:=gv ⟨by kernel_rfl,by kernel_rfl⟩ (⟨⟨by kernel_rfl,by kernel_rfl,by kernel_rfl⟩,⟨⟨by kernel_rfl,by kernel_rfl,by kernel_rfl⟩,⟨⟨by kernel_rfl,by kernel_rfl,by kernel_rfl⟩,⟨⟨by kernel_rfl,by kernel_rfl,by kernel_rfl⟩,trivial⟩⟩⟩⟩) ⟨by kernel_rfl,fun w=>by kernel_rfl⟩ (fun _=>⟨zBD,by decide,fun _=>by kernel_rfl⟩) (fun _=>KeyB.agg zBD (by decide) rfl rfl (dd:=.struct (prog.fieldsOf 208)) (z:=.agg #[.int .i64 0,.int .i64 0,.int .i64 0,.int .i64 0]) (sz:=4) (by_:=32) ⟨by kernel_rfl,by kernel_rfl⟩ rfl (fun e x w=>by kernel_rfl))
def i210:TI:=⟨.func #[208] #[4] false,.nilFunc,1,8,[],t210,0,false⟩
theorem zGN:i210.ok prog 210:=yN ⟨by kernel_rfl,by kernel_rfl⟩ rfl (ZM rfl) (yb rfl)
def zHg:TI:=⟨.map 208 4,.map none,1,8,[],t220,0,false⟩
theorem zGM:zHg.ok prog 220:=yN ⟨by kernel_rfl,by kernel_rfl⟩ rfl (ZM rfl) (yb rfl)
theorem zGr:EqT prog 224 t224 4:=Kr (z:=.agg #[.int .i64 0,.int .i64 0,.int .i64 0,.int .i64 0,.int .i64 0,.int .i64 0,.int .i64 0,.int .i64 0,.int .i64 0,.int .i64 0,.int .i64 0,.int .i64 0]) (sz:=12) (by_:=96) ⟨by kernel_rfl,by kernel_rfl⟩ (dd':=.struct (prog.fieldsOf 106)) (z':=.agg #[.int .i64 0,.int .i64 0,.int .i64 0,.int .i64 0]) (k:=4) (by_':=32) ⟨by kernel_rfl,by kernel_rfl⟩ rfl rfl zBE
def zHf:TI:=⟨.array 3 106,.agg #[.int .i64 0,.int .i64 0,.int .i64 0,.int .i64 0,.int .i64 0,.int .i64 0,.int .i64 0,.int .i64 0,.int .i64 0,.int .i64 0,.int .i64 0,.int .i64 0],12,96,[],t224,4,false⟩
theorem zGL:zHf.ok prog 224:=yN ⟨by kernel_rfl,by kernel_rfl⟩ rfl (fun _=>⟨zGr,by decide,fun _=>by kernel_rfl⟩) (yb rfl)
def i233:TI:=⟨.func #[106,106] #[3] false,.nilFunc,1,8,[],t233,0,false⟩
theorem zGK:i233.ok prog 233:=yN ⟨by kernel_rfl,by kernel_rfl⟩ rfl (ZM rfl) (yb rfl)
theorem zGq:EqT prog 245 t245 1:=uw (z:=.int .u64 0) (sz:=1) (by_:=8) ⟨by kernel_rfl,by kernel_rfl⟩
def zHe:TI:=⟨.int .u64,.int .u64 0,1,8,[],t245,1,false⟩
theorem zGJ:zHe.ok prog 245:=yN ⟨by kernel_rfl,by kernel_rfl⟩ rfl (fun _=>⟨zGq,by decide,fun _=>by kernel_rfl⟩) (yb rfl)
theorem zGp:EqT prog 246 t246 2:=Kr (z:=.agg #[.int .i64 0,.int .i64 0]) (sz:=2) (by_:=16) ⟨by kernel_rfl,by kernel_rfl⟩ (dd':=.int .i64) (z':=.int .i64 0) (k:=1) (by_':=8) ⟨by kernel_rfl,by kernel_rfl⟩ rfl rfl eq3
def zHd:TI:=⟨.array 2 3,.agg #[.int .i64 0,.int .i64 0],2,16,[],t246,2,false⟩
theorem zGI:zHd.ok prog 246:=yN ⟨by kernel_rfl,by kernel_rfl⟩ rfl (fun _=>⟨zGp,by decide,fun _=>by kernel_rfl⟩) (yb rfl)
def zHc:=iS 246 t247
theorem zGH:zHc.ok prog 247:=XC ⟨by kernel_rfl,by kernel_rfl⟩
def T:TE:=[(3,i3),(4,i4),(5,i5),(9,i9),(22,i22),(23,i23),(26,i26),(28,i28),(30,i30),(31,i31),(33,i33),(34,i34),(36,i36),(41,i41),(43,i43),(48,i48),(62,i62),(73,i73),(78,i78),(81,i81),(85,i85),(87,i87),(104,zHq),(106,zFH),(107,i107),(117,i117),(130,i130),(136,zHp),(140,zHo),(147,zHn),(156,zFG),(158,zHm),(166,zHl),(173,i173),(185,zHk),(189,zHj),(191,zHi),(198,i198),(202,zHh),(203,i203),(208,i208),(210,i210),(220,zHg),(224,zHf),(233,i233),(245,zHe),(246,zHd),(247,zHc)]
theorem zAL:TOk prog T:=zW ok3 (zW ok4 (zW ok5 (zW ok9 (zW zKn (zW zKm (zW zKl (zW zKk (zW zKj (zW zKi (zW zKh (zW zKg (zW zKf (zW zKe (zW zKd (zW zKc (zW zKb (zW zKa (zW zKZ (zW zKY (zW zKX (zW zKW (zW zGg (zW zGf (zW zGe (zW zGd (zW zGc (zW zGb (zW zGa (zW zGZ (zW zGY (zW zGX (zW zGW (zW zGV (zW zGU (zW zGT (zW zGS (zW zGR (zW zGQ (zW zGP (zW zGO (zW zGN (zW zGM (zW zGL (zW zGK (zW zGJ (zW zGI (zW zGH (Uu _))))))))))))))))))))))))))))))))))))))))))))))))
theorem E0:EK prog T [] [] [] [] [] []:=e0 zAL mixed
end Go.Dn
end
section
namespace Go.Up
open Go
def EG(d:Nat){β:Type}(e:Except String (World×β)):Prop:=∀r,e=.ok r->r.1.drawn=d
theorem EG.bind{d:Nat}{α β:Type}{x:Except String α}{f:α->Except String (World×β)}(h:∀a,EG d (f a)):EG d (x >>= f):=by
 intro r hr
 cases x with
 |error e=>cases hr
 |ok a=>exact h a r hr
theorem EG.throw{d:Nat}{β:Type}{s:String}:EG d (MonadExcept.throw s:Except String (World×β)):=fun r hr=>by cases hr
theorem pb(p:Program)(w:World)(a:Addr)(u:TypeId)(k:Addr)(v:Value)(b:Bool):EG w.drawn (w.viewStore p a u k v b):=by
 unfold World.viewStore;dsimp only
 repeat' first
  |exact EG.throw
  |exact EG.error
  |(intro r hr;cases hr;rfl)
  |refine EG.bind fun _=>?_
  |split
theorem ML(w:World)(a:Addr)(n:Nat):(w.freeze a n).drawn=w.drawn:=by unfold World.freeze;split<;>rfl
theorem zEX{α:Type}(k:Ask α):∀(w:World),w.drawn<=(w.ask k).2.drawn:=by
 induction k with
 |done a=>intro w;exact zLT _
 |ask what range k ih =>
  intro w;unfold World.ask;simp only[];split
  ·exact ih _ _
  ·exact zLY (zLc _) (ih _ { w with drawn:=w.drawn+1 })
theorem zBR(w:World)(c:Sys):w.drawn<=(w.sys c).2.drawn:=by
 unfold World.sys;have h:=zEX (Kernel.perform c w.os) w
 split
 ·exact zLT _
 ·rename_i r os w' fH
  rw[fH]at h;exact h
def RU(d:Nat){α:Type}:Result α->Prop
 |.ok _ w=>d<=w.drawn
 |.halt _ w=>d<=w.drawn
theorem RU.le{d d':Nat}{α:Type}{r:Result α}(h:RU d r)(hd:d'<=d):RU d' r:=by
 cases r<;>exact zLY hd h
theorem Ai{p:Program}{w w':World}{a:Addr}{v:Value}{b:Bool}{l:List Addr}(h:w.farStore p a v b=.ok (w',l)):w'.drawn=w.drawn:=by
 unfold World.farStore at h;split at h
 ·split at h
  ·rename_i r hr
   cases h
   exact pb _ _ _ _ _ _ _ _ hr
  ·cases h
 ·cases h
theorem lY{α:Type}(p:Program)(e:Sem α):∀w:World,RU w.drawn (e.run p w):=by
 induction e with
 |pure a=>intro w;exact zLT _
 |load m a k ih =>
  intro w;simp only[Sem.run];split
  ·exact ih _ _
  ·split
   ·exact ih _ _
   ·exact zLT _
 |store m a v k ih =>
  intro w
  have key:RU w.drawn (match w.cell? a with
   |some _=>if w.frozen? a then .halt (.unsupported (.unsafePointer "a write to bytes that a string shares")) w else k.run p (w.setCell a v)
   |none=>match w.farStore p a v (m == .atomic) with
    |.ok (w,_)=>k.run p w
    |.error h=>.halt h w):=by
   split
   ·split
    ·exact zLT _
    ·exact(ih (w.setCell a v)).le (by unfold World.setCell;exact zLT _)
   ·split
    ·rename_i w' l hw
     exact(ih _).le (by rw[Ai hw];exact zLT _)
    ·exact zLT _
  cases v<;>first|exact key|exact zLT _
 |new o k ih=>intro w;exact ih _ { w with heap:=w.heap.push o }
 |shape r k ih=>intro w;exact ih _ _
 |freeze a n k ih=>intro w;exact(ih (w.freeze a n)).le (by rw[ML];exact zLT _)
 |frozen a k ih=>intro w;exact ih _ _
 |getObj r k ih =>
  intro w;simp only[Sem.run];split
  ·exact zLT _
  ·exact ih _ _
  ·exact zLT _
 |setObj r o k ih =>
  intro w;simp only[Sem.run];split
  ·exact zLT _
  ·exact ih { w with heap:=w.heap.setIfInBounds r o }
  ·exact zLT _
 |choose q k ih =>
  intro w;simp only[Sem.run];split
  ·exact ih _ _
  ·exact(ih _ { w with drawn:=w.drawn+1 }).le (zLc _)
 |sys c k ih=>intro w;exact(ih _ _).le (zBR w c)
 |program k ih=>intro w;exact ih _ _
 |mark m k ih=>intro w;exact ih _
 |halt h=>intro w;exact zLT _
theorem GT{α:Type}(p:Program)(e:Sem α)(w:World)(es:Array Event):RU w.drawn (e.runT p w es).1:=by
 rw[Sem.runT_fst];exact lY p e w
theorem ki{α:Type}{p:Program}{e:Sem α}{w w':World}{a:α}(h:e.run p w=.ok a w'):w.drawn<=w'.drawn:=by
 have:=lY p e w;rw[h]at this;exact this
theorem Us{α:Type}{p:Program}{e:Sem α}{w w':World}{a:Halt}(h:e.run p w=.halt a w'):w.drawn<=w'.drawn:=by
 have:=lY p e w;rw[h]at this;exact this
def GU(d:Nat):GStep->Prop
 |.go _ w _|.comm _ _ _ _ w _|.spawn _ _ w _|.count _ w _|.timer _ _ w _|.alone _ _ w _|.newcoro _ _ _ w _|.coroswitch _ _ _ w _|.collect _ w _|.watch _ w _=>d<=w.drawn
 |.ended _ _ _=>True
theorem GU.le{d d':Nat}{s:GStep}(h:GU d s)(hd:d'<=d):GU d' s:=by
 cases s<;>first|exact zLY hd h|trivial
theorem GU.after{d:Nat}{es:Array Event}{s:GStep}(h:GU d s):GU d (GStep.after es s):=by
 cases s<;>exact h
theorem QM(fr:Frame)(a:List ByteArray)(m:String)(b:Bool)(w:World):GU w.drawn (dieOf fr a m b w):=zLT _
theorem Zi(fr:Frame)(m:String)(w:World):GU w.drawn (endThrow fr m w):=zLT _
theorem Xw(p:Program)(fr:Frame)(v:Value)(w:World):GU w.drawn (endPrinting p fr v w):=by
 unfold endPrinting;dsimp only;split
 ·exact Zi _ _ _
 ·trivial
theorem Do(w:World)(fd:Nat)(t:ByteArray)(o:Outcome):GU w.drawn (endWith w fd t o):=by
 unfold endWith;dsimp only;split
 ·split<;>trivial
 ·trivial
 ·trivial
theorem wc(p:Program)(fr:Frame)(callers:List Frame)(dying:Option Dying)(m:String)(w:World):GU w.drawn (endFatal p fr callers dying m w):=by
 unfold endFatal;dsimp only;split
 ·rename_i h;exact(QM _ _ _ _ _).le (ki h)
 ·trivial
 ·trivial
theorem Ky{α:Type}{p:Program}{e:Sem α}{w:World}{es:Array Event}{r:Result α×Array Event}(h:e.runT p w es=r):RU w.drawn r.1:=by rw[<-h];exact GT p e w es
theorem C5(p:Program)(fr:Frame)(d:Dying)(f:Fatal)(w:World):GU w.drawn (writeOn p fr d f w):=by
 unfold writeOn;dsimp only;split
 ·trivial
 ·split
  ·rename_i h;exact Ky h
  ·rename_i h;exact Ky h
  ·trivial
  ·trivial
theorem Yw(p:Program)(main:Bool)(fr:Frame)(callers:List Frame)(dying:Option Dying)(v:Value)(w:World):GU w.drawn (doReturn p main fr callers dying v w):=by
 unfold doReturn;split
 ·split<;>exact zLT _
 ·split
  ·exact zLT _
  ·trivial
  ·split
   ·exact zLT _
   ·split
    ·exact zLT _
    ·trivial
theorem zEP(p:Program)(fr:Frame)(d:Dying)(w:World):GU w.drawn (die p fr d w):=by
 unfold die;dsimp only;split
 ·exact C5 _ _ _ _ _
 ·split
  ·split
   ·exact zLT _
   ·exact Do _ _ _ _
  ·split
   ·exact zLT _
   ·split
    ·rename_i h;exact ki h
    ·trivial
   ·refine GU.after ?_
    generalize hr:(Sem.runT p _ w #[])=r;have h:=Ky hr
    clear hr;split<;>rename_i h'<;>first|trivial|skip
    ·rw[h']at h;exact h
    ·rw[h']at h;exact h
    ·rw[h']at h;exact(Xw _ _ _ _).le h
   ·trivial
theorem GU.ite{d:Nat}{p:Prop}[Decidable p]{a b:GStep}(h1:GU d a)(h2:GU d b):GU d (if p then a else b):=by split<;>assumption
theorem uG(p:Program)(fr:Frame)(callers:List Frame)(dying:Option Dying)(d:Deferred)(w:World):GU w.drawn (callDeferred p fr callers dying d w):=by
 unfold callDeferred;refine GU.ite trivial ?_;dsimp only;refine GU.after ?_;generalize hr:(Sem.runT p _ w #[])=r;have h:=Ky hr
 clear hr;split<;>rename_i h'<;>rw[h']at h<;>first
  |trivial
  |exact h
  |exact(wc _ _ _ _ _ _).le h
  |exact(Zi _ _ _).le h
  |(split<;>exact h)
theorem IX(p:Program)(main:Bool)(fr:Frame)(callers:List Frame)(dying:Option Dying)(w:World):GU w.drawn (unwind p main fr callers dying w):=by
 unfold unwind;split
 ·dsimp only
  refine GU.after ?_;generalize hr:(Sem.runT p _ w #[])=r;have h:=Ky hr
  clear hr;split<;>rename_i h'<;>rw[h']at h<;>first|trivial|exact h
 ·exact uG _ _ _ _ _ _
 ·split
  ·trivial
  ·split
   ·trivial
   ·split
    ·exact zLT _
    ·split
     ·split
      ·exact zLT _
      ·split
       ·rename_i h;exact ki h
       ·trivial
       ·trivial
     ·split
      ·exact Xw _ _ _ _
      ·trivial
  ·split
   ·exact Yw _ _ _ _ _ _ _
   ·dsimp only
    refine GU.after ?_;generalize hr:(Sem.runT p _ w #[])=r;have h:=Ky hr
    clear hr;split<;>rename_i h'<;>rw[h']at h<;>first|trivial|exact(Yw _ _ _ _ _ _ _).le h
theorem QK(p:Program)(fr:Frame)(callers:List Frame)(dying:Option Dying)(g:Nat)(w:World):GU w.drawn (early p fr callers dying g w):=by
 have nY:∀w':World,w.drawn<=w'.drawn->GU w.drawn (match w'.heap[g]? with
  |some (.pending c elem)=>GStep.go { frame:=fr,callers,status:=.running,dying } { w' with heap:=w'.heap.setIfInBounds g (.cells c elem) }
  |_=>.ended (.stuck "early: the variable does not wait" (fr.pos p)) w'):=by
  intro w' h;split
  ·exact h
  ·trivial
 unfold early;dsimp only
 repeat' first
  |exact nY _ (zLT _)
  |trivial
  |exact zLT _
  |(rename_i h;exact nY _ (ki h))
  |(rename_i h;exact ki h)
  |split
theorem Kd(p:Program)(listen:Bool)(fr:Frame)(callers:List Frame)(dying:Option Dying)(s:Sem Next)(w:World):GU w.drawn (stepG.apply p listen fr callers dying s w):=by
 unfold stepG.apply;dsimp only;refine GU.after ?_;have h:RU w.drawn (if listen then s.runT p w #[] else (s.run p w,#[])).1:=by
  split
  ·exact GT _ _ _ _
  ·exact lY _ _ _
 generalize (if listen then s.runT p w #[] else (s.run p w,#[]))=r at h
 clear s;split<;>rename_i h'<;>rw[h']at h<;>first
  |trivial
  |exact h
  |exact(wc _ _ _ _ _ _).le h
  |exact(Zi _ _ _).le h
  |exact(QK _ _ _ _ _ _).le h
  |exact GU.ite ((Zi _ _ _).le h) h
  |(split<;>first|exact h|exact(Zi _ _ _).le h)
theorem VL(p:Program)(listen:Bool)(fr:Frame)(callers:List Frame)(dying:Option Dying)(w:World):GU w.drawn (stepG.oper p listen fr callers dying w):=by
 unfold stepG.oper;split
 ·trivial
 ·split<;>exact Kd _ _ _ _ _ _ _
theorem GU.elim{d:Nat}{α:Type}{o:Option α}{a:GStep}{f:α->GStep}(h1:GU d a)(h2:∀x,GU d (f x)):GU d (o.elim a f):=by
 cases o
 ·exact h1
 ·exact h2 _
theorem V2(p:Program)(main:Bool)(listen:Bool)(fr:Frame)(callers:List Frame)(dying:Option Dying)(w:World):GU w.drawn (stepG.exec p main listen fr callers dying w):=by
 unfold stepG.exec;dsimp only;split
 all_goals first
  |exact zLT _
  |trivial
  |exact Kd _ _ _ _ _ _ _
  |(refine GU.elim ?_ (fun _=>zLT _);split;exact GU.ite (zLT _) trivial;refine GU.after ?_;generalize hr:(Sem.runT _ _ _ #[])=r;have h:=Ky hr;clear hr;split<;>rename_i h'<;>rw[h']at h<;>first|trivial|exact(Yw _ _ _ _ _ _ _).le h)
  |(refine GU.elim trivial fun _=>Kd _ _ _ _ _ _ _;done)
  |(split;exact GU.ite (zLT _) trivial;refine GU.after ?_;generalize hr:(Sem.runT _ _ _ #[])=r;have h:=Ky hr;clear hr;split<;>rename_i h'<;>rw[h']at h<;>first|trivial|exact(Yw _ _ _ _ _ _ _).le h)
  |(refine GU.ite (VL _ _ _ _ _ _) (zLT _);done)
  |(refine GU.ite (zLT _) ?_;split<;>rename_i h<;>first|trivial|exact ki h)
  |(refine GU.after ?_;generalize hr:(Sem.runT p _ w #[])=r;have h:=Ky hr;clear hr;split<;>rename_i h'<;>rw[h']at h<;>first|trivial|exact h|exact(Kd _ _ _ _ _ _ _).le h)
  |(split<;>first|exact zLT _|trivial)
theorem M7(p:Program)(main:Bool)(g:Goroutine)(w:World)(listen:Bool):GU w.drawn (stepG p main g w listen):=by
 unfold stepG;dsimp only;split
 ·exact zEP _ _ _ _
 ·exact V2 _ _ _ _ _ _ _
 ·exact IX _ _ _ _ _ _
def SU(d:Nat):Stepped->Prop
 |.next m=>d<=m.world.drawn
 |.ended _ _=>True
theorem SU.le{d d':Nat}{s:Stepped}(h:SU d s)(hd:d'<=d):SU d' s:=by
 cases s<;>first|exact zLY hd h|trivial
theorem SU.ite{d:Nat}{p:Prop}[Decidable p]{a b:Stepped}(h1:SU d a)(h2:SU d b):SU d (if p then a else b):=by split<;>assumption
theorem SU.zFF{d:Nat}{β:Type}{p:Prop}[Decidable p]{a b:Stepped×β}(h1:SU d a.1)(h2:SU d b.1):SU d (if p then a else b).1:=by split<;>assumption
theorem Gw(p:Program)(gs:Array Goroutine)(rest:Rest)(w:World):SU w.drawn (look p gs rest w):=by
 unfold look;dsimp only;split
 ·refine SU.ite trivial ?_
  split
  ·trivial
  ·split<;>rename_i h<;>first
    |trivial
    |(have h1:=ki h;exact h1)
 ·trivial
theorem pZ{rest:Rest}{cases:Array CommCase}{w w':World}(h:waitingAt rest cases w=some w'):w'.drawn=w.drawn:=by
 unfold waitingAt at h;split at h
 ·split at h<;>cases h;rfl
 ·cases h;rfl
theorem tB(p:Program)(rest:Rest)(gs:Array Goroutine)(i:Nat)(g:Goroutine)(cases:Array CommCase)(blocking:Bool)(shape:CommShape)(w:World):SU w.drawn (communicate p rest gs i g cases blocking shape w).1:=by
 unfold communicate;dsimp only;refine SU.zFF trivial (SU.zFF (SU.zFF ?_ (zLT _)) ?_)
 ·split
  ·rename_i h;show _<=_;rw[pZ h];exact zLT _
  ·trivial
 ·split
  ·trivial
  ·rename_i h
   have hu:=ki h;clear h;split
   ·split
    ·rename_i h2;exact zLY hu (Us h2)
    ·trivial
   ·exact hu
   ·exact hu
   ·split
    ·exact hu
    ·split
     ·rename_i h2
      have h3:=zLY hu (ki h2);exact h3
     ·trivial
   ·exact hu
   ·exact hu
   ·trivial
theorem QL(w:World)(c:Nat):(drain w c).2.drawn=w.drawn:=by unfold drain;split<;>rfl
theorem rh(m:Machine)(k:Nat)(t:Timer)(a b:Nat):(retime m k t a b).2.world.drawn=m.world.drawn:=by
 unfold retime;dsimp only;split
 ·exact QL _ _
 ·rfl
theorem Iv{m m':Machine}{v:Addr}(h:timerOp.opened m v=some m'):m'.world.drawn=m.world.drawn:=by
 unfold timerOp.opened at h;split at h
 ·split at h<;>cases h;rfl
 ·cases h;rfl
theorem Bb{m m1 m':Machine}{v:Addr}{f:Nat->Timer->Value×Machine}{u:Value}(hf:∀k t,(f k t).2.world.drawn=m1.world.drawn)(h:timerOp.named m v f=.ok (u,m')):m'.world.drawn=m1.world.drawn:=by
 unfold timerOp.named at h;split at h
 ·rename_i k hk
  have h3:=hf k (m.rest.timers.getD k default);injection h with h;rw[h]at h3;exact h3
 ·cases h
theorem C7{m m':Machine}{op:TimerOp}{v:Value}(h:timerOp m op=.ok (v,m')):m'.world.drawn=m.world.drawn:=by
 unfold timerOp at h;split at h
 ·split at h
  ·cases h;rfl
  ·split at h
   ·split at h
    ·cases h
    ·cases h;rfl
   ·cases h
 ·exact Bb (fun k t=>rh _ _ _ _ _) h
 ·split at h
  ·rename_i h1
   have:=Bb (m1:=_) (fun k t=>rh _ _ _ _ _) h
   rw[this];exact Iv h1
  ·cases h
 ·cases h;rfl
theorem Ij(p:Program)(m:Machine)(i:Nat)(listen:Bool):SU m.world.drawn (runT p m i listen).1:=by
 unfold runT;dsimp only;have h:=M7 p (i == 0) (m.gs.swapAt! i { (default:Goroutine) with status:=.finished }).1 m.world listen
 generalize stepG p (i == 0) (m.gs.swapAt! i { (default:Goroutine) with status:=.finished }).1 m.world listen=s at h
 cases s with
 |ended=>trivial
 |comm=>exact(tB _ _ _ _ _ _ _ _ _).le h
 |go=>exact h
 |spawn=>exact h
 |count=>exact SU.ite trivial h
 |alone=>exact h
 |collect=>exact(Gw _ _ _ _).le h
 |watch=>exact h
 |newcoro=>exact h
 |coroswitch g c exit w es =>
  dsimp only;split
  ·exact h
  ·exact h
  ·trivial
 |timer g op w es =>
  dsimp only;split
  ·rename_i h2
   have h3:=C7 h2;show _<=_
   rw[h3];exact h
  ·exact h
  ·trivial
  ·trivial
theorem NR(p:Program)(m:Machine)(k:Nat):SU m.world.drawn (serve p m k):=by
 unfold serve;dsimp only;split
 ·trivial
 ·exact zLT _
 ·split
  ·trivial
  ·exact zLT _
def VU(d:Nat):Move->Prop
 |.goroutine m _=>d<=m.world.drawn
 |.machine s _=>SU d s
theorem VU.le{d d':Nat}{s:Move}(h:VU d s)(hd:d'<=d):VU d' s:=by
 cases s with
 |goroutine m i=>exact zLY hd h
 |machine s ops=>exact SU.le h hd
theorem VU.ite{d:Nat}{p:Prop}[Decidable p]{a b:Move}(h1:VU d a)(h2:VU d b):VU d (if p then a else b):=by split<;>assumption
theorem qY(p:Program)(m:Machine):VU m.world.drawn (askOn p m):=by
 unfold askOn;dsimp only;split
 ·trivial
 ·rename_i h
  have hu:=ki h;clear h;refine VU.ite ((NR _ _ _).le hu) ?_;split
  ·split
   ·exact hu
   ·refine VU.ite hu ?_
    split<;>trivial
  ·split
   ·split
    ·trivial
    ·rename_i h
     have h1:=ki h;refine VU.ite (zLY hu h1) ?_;split
     ·trivial
     ·rename_i h;have h2:=ki h;exact zLY hu (zLY h1 h2)
   ·split
    ·trivial
    ·rename_i h
     have h0:=ki h;split
     ·trivial
     ·rename_i h
      have h1:=ki h;refine VU.ite (zLY hu (zLY h0 h1)) ?_;split
      ·trivial
      ·rename_i h;have h2:=ki h;exact zLY hu (zLY h0 (zLY h1 h2))
    ·rename_i h
     have h0:=ki h;exact zLY hu h0
    ·rename_i h
     have h0:=ki h;split
     ·trivial
     ·rename_i h
      have h1:=ki h;refine VU.ite (zLY hu (zLY h0 h1)) ?_;split
      ·trivial
      ·rename_i h;have h2:=ki h;exact zLY hu (zLY h0 (zLY h1 h2))
theorem CP(p:Program)(m:Machine):VU m.world.drawn (ask p m):=by
 unfold ask;split
 ·split
  ·trivial
  ·rename_i h
   have h1:=ki h;have h2:=Gw p m.gs m.rest ‹World›
   split
   ·rename_i m' h3;rw[h3]at h2;exact(qY _ _).le (zLY h1 h2)
   ·exact h2.le h1
  ·rename_i h
   have h1:=ki h;exact(qY _ _).le h1
 ·exact qY _ _
theorem Vs(p:Program)(m:Machine):VU m.world.drawn (move p m):=by
 unfold move;split
 ·exact VU.ite (zLT _) trivial
 ·split
  ·exact VU.ite (zLT _) (CP p _)
  ·exact CP p m
theorem Uz{p:Program}{m m':Machine}(h:step p m=.next m'):m.world.drawn<=m'.world.drawn:=by
 unfold step stepT at h;have h1:=Vs p m
 split at h
 ·rename_i h2
  rw[h2]at h1;have h3:=Ij p ‹Machine› ‹Nat› true
  rw[h]at h3;exact zLY h1 h3
 ·rename_i h2
  rw[h2]at h1;dsimp only at h;rw[h]at h1;exact h1
theorem U8{p:Program}{n:Nat}:∀ {m m':Machine},runN p n m=.next m'->m.world.drawn<=m'.world.drawn:=by
 induction n with
 |zero=>intro m m' h;cases h;exact zLT _
 |succ n ih =>
  intro m m' h;unfold runN at h;split at h
  ·rename_i h1;exact zLY (Uz h1) (ih h)
  ·rename_i h1;exact zLh h (h1 _)
theorem CL{P:Program}{f:FuncId}{args:Array Value}{w:World}{R:Ending->World->Prop}(h:Calls P f args w R):Calls P f args w fun e w'=>R e w'/\(∀v,e=.returned v->w.drawn<=w'.drawn):=by
 intro cs;obtain⟨e,w',fr,h1,h2,h3⟩:=h cs;refine⟨e,w',fr,⟨h1,?_⟩,h2,h3⟩;rintro v rfl;obtain⟨n,hn⟩:=h2;exact U8 hn
end Go.Up
#print axioms Go.Up.CL
end
section
namespace Go.Den
open Go Go.RowKit Go.Eng Go.Lift
open Go.Sort (SWO grow ahead putRow Holds HoldsK flatK putRowK)
open Go.Proofs (ltOf CmpLays sortWorldK)
theorem qR:∀ {t:Ty},t.nar=true->∀x:t.D,(jc t x).length=t.sz:=by
 intro t
 induction t with
 |int k=>intro _ x;rfl
 |bool=>intro _ x;rfl
 |str=>intro _ x;rfl
 |nil=>intro _ x;rfl
 |cons a b iha ihb =>
  intro h x;simp only[Ty.nar,zLR]at h;simp only[jc,zLS,iha h.1,ihb h.2,Ty.sz]
 |_=>intro h;cases h
theorem QJ:∀ {t:Ty},t.nar=true->∀x:t.D,∀v∈jc t x,v.oneCell'=true:=by
 intro t h x v hv;have:=HC (mS h) v hv
 cases v<;>first|rfl|cases this
theorem QF{w w':World}(h:Ext w w')(hd:w.drawn<=w'.drawn):∃q os,w'=grow (w.drewN q) os:=by
 refine⟨w'.drawn-w.drawn,w'.heap.extract w.heap.size w'.heap.size,?_⟩;have h1:=h.os
 have h2:=h.tape;have h3:=h.output
 have h4:=h.size;have h5:=h.block
 obtain⟨hp,tp,dr,os,ou⟩:=w;obtain⟨hp',tp',dr',os',ou'⟩:=w';simp only at h1 h2 h3 h4 h5 hd;subst h1 h2 h3;unfold grow World.drewN;simp only
 congr 1
 ·apply Array.ext_getElem?
  intro i;by_cases hi:i<hp.size
  ·rw[Array.getElem?_append_left hi];exact h5 i hi
  ·rw[Array.getElem?_append_right (by omega),Array.getElem?_extract]
   by_cases h6:i<hp'.size
   ·rw[zLr (by omega)];congr 1;omega
   ·rw[zLs (by omega),Array.getElem?_eq_none (by omega)]
 ·omega
theorem QU{P:Program}{e:Ty}(hn:e.nar=true)(ha:e.agg=true)[Inhabited e.D]{cf:e.D->e.D->Int}{F:e.D×e.D×Unit->Comp (Int×Unit)}(hF:∀x y,∃n,(F (x,y,())).run n=some (cf x y,()))
  {O:zR} {w:World} (hO:OkO O w) {g:Nat} {cb:Array Value} (hg:FnOk P g)
  (h4:∀O' w',OkO O' w'->zb 0 O w O' w'->∀vs x,(Ty.cons e (.cons e .nil)).args P O' w' vs x->∀n y,(F x).run n=some y->IK P (.func (.func g) #[] cb) vs.toArray w' (fun w'' v=>∃rs,kP rs v/\(Ty.cons (.int .i64) .nil).args P O' w'' rs y))
  {b:Nat} (hb:b<w.heap.size) (bY:O b≠0) (size:Nat):CmpLays P g cb (jc e) e.sz cf b 0 size w:=by
 intro m os dk hdk x y;obtain⟨n,hn'⟩:=hF x y;have f8:w.heap.size<=(sortWorldK (jc e) e.sz w b 0 m dk os).heap.size:=by simp[sortWorldK,grow,putRowK,putRow,Go.Sort.mapBlock,ahead]
 have cC:∀c,c<w.heap.size->c≠b->(sortWorldK (jc e) e.sz w b 0 m dk os).heap[c]?=w.heap[c]?:=by
  intro c hc fC;unfold sortWorldK;rw[Go.Sort.heap_grow_old _ _ (by simpa[putRowK,putRow,Go.Sort.mapBlock,ahead] using hc)]
  simp[putRowK,putRow,Go.Sort.mapBlock,ahead,Array.getElem?_modify,Ne.symm fC]
 have hk:zb 0 O w O (sortWorldK (jc e) e.sz w b 0 m dk os):=⟨f8,fun c hc h0=>⟨h0,cC c hc (fun e=>bY (e ▸ h0))⟩⟩
 have ho:OkO O (sortWorldK (jc e) e.sz w b 0 m dk os):=fun c hc=>hO c (by omega)
 have hv:∀x:e.D,(e.gr P).v O (sortWorldK (jc e) e.sz w b 0 m dk os) (.agg (jc e x).toArray) x:=fun x=>⟨_,uZ hn x,by rw[Ty.jF,ha];rfl⟩
 obtain⟨f,ys,h5,h6⟩:=h4 O _ ho hk [.agg (jc e x).toArray,.agg (jc e y).toArray] (x,y,()) ⟨_,_,rfl,hv x,_,_,rfl,hv y,rfl⟩ n _ hn';obtain⟨fn,g1,g2,g3⟩:=hg.h;simp only[Deferred.ofValue,Sem.run_bind,Sem.run_pure,Result.andThen,invoke,callFunc,run_program,g1]at h5;simp[g2,g3]at h5;obtain⟨rfl,rfl⟩:=h5;refine Calls.mono (Go.Up.CL h6) ?_;rintro e' w' ⟨⟨v,rfl,hE,rs,ht,v1,bI,rfl,hv1,sV⟩,hd⟩
 obtain⟨cs,dU,cI⟩:=hv1;rw[show cs=[Value.int .i64 (cf x y)] from dU]at cI
 have hvs':bI=[]:=sV;subst hvs';refine⟨?_,QF hE (hd _ rfl)⟩;rcases ht with ht|ht
 ·cases ht
 ·rw[ht];show Ending.returned v1=_;rw[cI];rfl
theorem td{e:Ty}(ha:e.agg=true)(x:e.D):(gX e x).cells=(jc e x).toArray:=by unfold gX;rw[ha];rfl
theorem BH{e:Ty}(hn:e.nar=true){P:Program}{O:zR}{w:World}:∀ {vs:List Value} {xs:List e.D},yk (e.gr P) O w vs xs->vs=xs.map (gX e)
 | [],[],_=>rfl
 |v::vs,x::xs,h=>by rw[List.map_cons,<-BH hn h.2,S3 (mS hn) h.1]
 | [],_::_,h=>h.elim
 |_::_,[],h=>h.elim
theorem rj{e:Ty}(hn:e.nar=true){P:Program}{O:zR}{w:World}:∀(xs:List e.D),yk (e.gr P) O w (xs.map (gX e)) xs
 | []=>trivial
 |x::xs=>⟨⟨_,uZ hn x,by rw[Ty.jF];rfl⟩,rj hn xs⟩
section enc
variable {e:Ty} (hn:e.nar=true) (ha:e.agg=true)
include hn ha
theorem MM(x:e.D):(gX e x).cells.size=e.sz:=by rw[td ha];simp[qR hn]
theorem lx(xs:List e.D):∀v∈xs.map (gX e),v.cells.size=e.sz:=by
 intro v hv;obtain⟨x,_,rfl⟩:=List.mem_map.1 hv;exact MM hn ha x
theorem B3 [Inhabited e.D](xs:List e.D){t:Nat}(ht:t<xs.length * e.sz):(flat (xs.map (gX e)))[t]?=some ((flatK (jc e) e.sz xs.toArray)[t]!):=by
 have h0:0<e.sz:=Nat.pos_of_ne_zero fun h=>by rw[h]at ht;omega
 have hq:t / e.sz<xs.length:=Nat.div_lt_of_lt_mul (by rw[Nat.mul_comm];exact ht)
 have hr:t % e.sz<e.sz:=Nat.mod_lt _ h0;rw[Go.Sort.get_flatK _ _ _ _ (by simpa using ht)]
 have h1:=Zr (lx hn ha xs) (t / e.sz) (gX e xs[t / e.sz]) (by simp[hq]) (t % e.sz) hr
 rw[show t / e.sz * e.sz+t % e.sz=t from Nat.div_add_mod' t e.sz]at h1
 rw[h1,td ha];have h2:t % e.sz<(jc e xs[t / e.sz]).length:=by rw[qR hn];exact hr
 simp[hq,h2]
theorem Dl [Inhabited e.D](xs:List e.D):(flatK (jc e) e.sz xs.toArray).toList=flat (xs.map (gX e)):=by
 apply List.ext_getElem?;intro t;by_cases ht:t<xs.length * e.sz
 ·rw[B3 hn ha xs ht,Array.getElem?_toList]
  have:t<(flatK (jc e) e.sz xs.toArray).size:=by simpa using ht
  rw[Array.getElem?_eq_getElem this,getElem!_pos _ t this]
 ·rw[List.getElem?_eq_none (by simpa using ht),List.getElem?_eq_none (by rw[JD (lx hn ha xs),List.length_map];omega)]
theorem MJ [Inhabited e.D]{w:World}{b:Nat}{cur:Array Value}{T:TypeId}{xs:List e.D}(hb:w.heap[b]?=some (.cells cur T (0,0)))(h:cur.toList.take (xs.length * e.sz)=flat (xs.map (gX e))):HoldsK (jc e) e.sz w b 0 xs.toArray:=by
 intro j hj;have hj':j<xs.length * e.sz:=by simpa using hj
 refine⟨?_,by simp[World.frozen?,hb]⟩
 have h1:=B3 hn ha xs hj';rw[<-h,List.getElem?_take_of_lt hj']at h1;simp only[World.cell?,hb,Nat.zero_add];simp only[Option.isSome_none,Bool.false_eq_true,if_false];rw[<-Array.getElem?_toList,h1];rfl
theorem N7{P:Program}{ρ:Go.Shelf.Ren}(L:Go.Proofs.SlLaysF0.n6 P ρ)(aE:∀w,(isAgg (ρ.t 24)).run P w=.ok true w)(zE:∀w,(Go.sizeOf (ρ.t 24)).run P w=.ok e.sz w)[Inhabited e.D]{T:TypeId}
  {cf:e.D->e.D->Int} (hO:SWO (ltOf cf)) (hT:∀x y,(ltOf cf) x y=false->(ltOf cf) y x=false->x=y) {F:e.D×e.D×Unit->Comp (Int×Unit)} (hF:∀x y,∃n,(F (x,y,())).run n=some (cf x y,()))
  {O:zR} {w:World} (hw:OkO O w) {u v:Value} {xs:List e.D} (hA:zAM (e.gr P) T O w u xs) (hv:((Ty.fn (.cons e (.cons e .nil)) (.cons (.int .i64) .nil)).gr P).v O w v F) (hl:xs.length<=LIM) :
  Calls P (ρ.f 6) #[u,v] w (AG (e.gr P) T O w u (xs.mergeSort fun x y=>!(ltOf cf) y x) (zEp false u)):=by
 obtain⟨⟨vs,h1,h2⟩,h3⟩:=hA;have sV:=BH hn h2
 subst sV;obtain⟨cs,⟨u',e1,⟨e2,e3⟩,e4⟩,e5⟩:=hv;obtain⟨g,cb,rfl,hg⟩:=e3 rfl;have hvu:v=.func (.func g) #[] cb:=by rw[e5,e1];rfl
 subst hvu;have kA:(xs.map (gX e)).length=xs.length:=List.length_map _
 have f8:(e.gr P).sz=e.sz:=Ty.yh P e;rcases h1.row.2 with ⟨f1,f2⟩|⟨b,cap,cur,f1,f2,f3,f4,f5,f6,f7⟩
 ·have hx:xs=[]:=List.eq_nil_of_length_eq_zero (by omega)
  subst hx;subst f1;refine Calls.mono (Go.Proofs.AnyF.slices_SortFunc_none L none 0 _ w) ?_;rintro e' w' ⟨he,rfl⟩;exact⟨_,.slice none 0 0,he,⟨⟨rfl,rfl,rfl,zLT _,fun _ _ _=>rfl⟩,.inl rfl⟩,⟨[],OwnS.nil _ _ _ _,by simp[yk]⟩,rfl,rfl⟩
 ·unfold LIM at hl
  subst f1;rw[kA]at f4 f7 h1 |-;rw[f8]at f6 f7;have hb:b<w.heap.size:=(zLq.1 f3).1
  have bY:O b≠0:=h3 b rfl;have eg:∀args w,(callFunc g args).run P w=.ok (.enter g args) w:=by
   intro args w;obtain⟨fn,g1,g2,g3⟩:=hg.h;simp only[callFunc,Sem.run_bind,Sem.run_pure,Result.andThen,run_program,g1];simp[g2,g3]
  have hC2:=QU (P:=P) hn ha hF hw (cb:=cb) hg e4 hb bY xs.toArray.size;have aL:=Go.Proofs.AnyQ.slices_SortFunc_total L e.sz aE zE (jc e) (qR hn) (QJ hn) cf hO g cb b 0 cap xs.toArray w eg hC2 (MJ hn ha f3 f7) hb (by simp;omega) hT
  rw[List.size_toArray]at aL;refine Calls.mono aL ?_;rintro e' w' ⟨he,n,os,rfl⟩;simp only[];generalize sP:(xs.mergeSort fun x y=>!(ltOf cf) y x)=ys
  have i6:ys.length=xs.length:=by rw[<-sP];exact List.length_mergeSort xs
  have hC3:(sortWorldK (jc e) e.sz w b 0 n ys.toArray os).heap[b]?=some (.cells (Go.Sort.putCells id 0 (flatK (jc e) e.sz ys.toArray) cur) T (0,0)):=by
   unfold sortWorldK;rw[Go.Sort.heap_grow_old _ _ (by simpa[putRowK,putRow,Go.Sort.mapBlock,ahead] using hb)]
   simp[putRowK,putRow,Go.Sort.mapBlock,ahead,Array.getElem?_modify,f3,Go.Sort.onCells]
  have hgr:w.grownBy (sortWorldK (jc e) e.sz w b 0 n ys.toArray os) (some b):=by
   refine⟨rfl,rfl,rfl,by simp[sortWorldK,grow,putRowK,putRow,Go.Sort.mapBlock,ahead],fun k hk fC=>?_⟩
   unfold sortWorldK;rw[Go.Sort.heap_grow_old _ _ (by simpa[putRowK,putRow,Go.Sort.mapBlock,ahead] using hk)]
   have:b≠k:=fun e=>fC (by rw[e])
   simp[putRowK,putRow,Go.Sort.mapBlock,ahead,Array.getElem?_modify,this]
  have hC4:(Go.Sort.putCells id 0 (flatK (jc e) e.sz ys.toArray) cur).toList.take (xs.length * e.sz)=flat (ys.map (gX e)):=by
   rw[<-Dl hn ha ys];have fT:xs.length * e.sz<=cur.size:=by rw[f6];exact Nat.mul_le_mul_right _ f4
   apply List.ext_getElem?;intro j;by_cases hj:j<xs.length * e.sz
   ·have h5:j<cur.size:=by omega
    have h6:j<(flatK (jc e) e.sz ys.toArray).size:=by simpa[i6] using hj
    rw[List.getElem?_take_of_lt hj,Array.getElem?_toList,Array.getElem?_toList,Array.getElem?_eq_getElem h6];simp only[Go.Sort.putCells,Array.getElem?_mapIdx,Array.getElem?_eq_getElem h5,Option.map_some,Nat.zero_le,true_and,Nat.zero_add,Nat.sub_zero];rw[zLr h6,getElem!_pos _ j h6];rfl
   ·rw[List.getElem?_take_eq_none (by omega),List.getElem?_eq_none (by simpa[i6] using hj)]
  refine⟨_,.slice (some ⟨b,0,none⟩) xs.length cap,he,⟨hgr,.inl rfl⟩,⟨ys.map (gX e),⟨?_,?_⟩,rj hn ys⟩,rfl,rfl⟩
  ·rw[f8];exact lx hn ha ys
  ·rw[f8,List.length_map,i6]
   refine⟨by rw[JD (lx hn ha ys),List.length_map,i6],.inr ⟨b,cap,_,rfl,Nat.zero_le _,hC3,f4,f5,?_,hC4⟩⟩
   simp[Go.Sort.putCells,f6]
end enc
instance:Inhabited Pln:=⟨((0,0,0,()),0,())⟩
abbrev UD:Ty:=.cons (.cons (.int .i64) (.cons (.int .i64) (.cons (.int .i64) .nil))) (.cons (.int .i64) .nil)
instance:Inhabited UD.D:=⟨(((0:Int),(0:Int),(0:Int),()),(0:Int),())⟩
theorem X9(x y:Pln):ltOf Yo x y=true↔LtP x y:=by unfold ltOf;rw[decide_eq_true_iff];exact KA
theorem XH(x y:Pln):ltOf Yo x y=false↔¬LtP x y:=by rw[<-X9];simp
theorem GF:SWO (ltOf Yo) where
 irrefl x:=(XH x x).2 LtP.irr
 trans x y z h1 h2:=(X9 x z).2 (((X9 x y).1 h1).trans ((X9 y z).1 h2))
 ntrans x y z h1 h2:=by
  rw[XH]at *;intro h3;rcases LtP.tri y z with h|h|h
  ·exact h2 h
  ·subst h;exact h1 h3
  ·exact h1 (h3.trans h)
theorem MR(x y:Pln)(h1:ltOf Yo x y=false)(h2:ltOf Yo y x=false):x=y:=by
 rw[XH]at h1 h2;rcases LtP.tri x y with h|h|h
 ·exact zLh h h1
 ·exact h
 ·exact zLh h h2
theorem I8(l:List Pln):(l.mergeSort fun x y=>!(ltOf Yo) y x)=Xr l:=by
 refine List.Perm.eq_of_pairwise (le:=fun p q=>¬LtP q p) (fun a b _ _ h1 h2=>?_) ?_ (BA l) ((List.mergeSort_perm _ _).trans (rV l).symm)
 ·rcases LtP.tri a b with h|h|h
  ·exact zLh h h2
  ·exact h
  ·exact zLh h h1
 ·have:=List.pairwise_mergeSort (le:=fun x y:Pln=>!(ltOf Yo) y x) (fun a b c h1 h2=>?_) (fun a b=>?_) l
  ·refine this.imp fun {a b} h=>?_
   rw[<-XH];simpa using h
  ·simp only[Bool.not_eq_true']at *
   exact GF.ntrans c b a h2 h1
  ·cases h1:ltOf Yo b a with
   |false=>rfl
   |true=>rw[(XH a b).2 fun h=>LtP.asym ((X9 b a).1 h1) h];rfl
theorem NM{P:Program}{ρ:Go.Shelf.Ren}(L:Go.Proofs.SlLaysF0.n6 P ρ){dd:TypeDesc}{z:Value}{by_:Nat}(hT:Eng.Ty P (ρ.t 24) dd z 4 by_)(hd:vO dd=true){T:TypeId}(hf:FnOk P (ρ.f 6)) :
  FO.ok P (ρ.f 6) ⟨UD,T,.cons (.fn (.cons UD (.cons UD .nil)) (.cons (.int .i64) .nil)) .nil,false,fun xs x=>Ce xs x.1⟩:=by
 refine⟨hf,fun O w hw u xs hA vs z hz n ys hy=>?_⟩
 obtain⟨v,bI,rfl,hv,sV⟩:=hz;rw[show bI=[] from sV]
 have hy':(Ce xs z.1).run n=some ys:=hy;unfold Ce at hy';split at hy'
 ·rename_i h
  have:=run_pure hy';subst this;have hm:=I8 xs
  have:=N7 (P:=P) (e:=UD) rfl rfl L (fun w=>by rw[hT.YL,hd]) hT.zu (T:=T) GF MR h.2 hw hA hv h.1
  refine Calls.mono this fun e w' he=>?_
  rw[<-hm];exact he
 ·cases hy'
end Go.Den
end
section
namespace Go.Proofs
open Go.Shelf
def Tryz.rW:Go.Shelf.Ren:=⟨fun|6=>203|15=>222|14=>221|28=>241|29=>242|20=>233|21=>234|22=>235|23=>236|24=>237|25=>238|26=>239|27=>240|46=>244|47=>245|48=>246|49=>247|50=>248|57=>249|n=>n,fun|22=>107|24=>106|25=>233|3=>3|39=>245|0=>0|53=>257|55=>259|4=>4|46=>250|45=>249|50=>254|5=>5|9=>9|66=>260|70=>264|76=>266|77=>267|n=>n,fun|n=>n⟩
theorem Tryz.zFb:Go.Proofs.SlLaysF0.n6 Tryz.prog Tryz.rW:={
 mixed:=by kernel_rfl
 f6:=⟨Tryz.f203.name,by decide,Tryz.func203.trans (zLi some (by kernel_rfl))⟩
 f14:=⟨Tryz.f221.name,by decide,Tryz.func221.trans (zLi some (by kernel_rfl))⟩
 f15:=Tryz.func222.trans (zLi some (by kernel_rfl))
 f20:=⟨Tryz.f233.name,by decide,Tryz.func233.trans (zLi some (by kernel_rfl))⟩
 f21:=⟨Tryz.f234.name,by decide,Tryz.func234.trans (zLi some (by kernel_rfl))⟩
 f22:=⟨Tryz.f235.name,by decide,Tryz.func235.trans (zLi some (by kernel_rfl))⟩
 f23:=⟨Tryz.f236.name,by decide,Tryz.func236.trans (zLi some (by kernel_rfl))⟩
 f24:=⟨Tryz.f237.name,by decide,Tryz.func237.trans (zLi some (by kernel_rfl))⟩
 f25:=⟨Tryz.f238.name,by decide,Tryz.func238.trans (zLi some (by kernel_rfl))⟩
 f26:=⟨Tryz.f239.name,by decide,Tryz.func239.trans (zLi some (by kernel_rfl))⟩
 f27:=⟨Tryz.f240.name,by decide,Tryz.func240.trans (zLi some (by kernel_rfl))⟩
 f28:=Tryz.func241.trans (zLi some (by kernel_rfl))
 f29:=Tryz.func242.trans (zLi some (by kernel_rfl))
 f46:=⟨Tryz.f244.name,by decide,Tryz.func244.trans (zLi some (by kernel_rfl))⟩
 f47:=Tryz.func245.trans (zLi some (by kernel_rfl))
 f48:=Tryz.func246.trans (zLi some (by kernel_rfl))
 f49:=⟨Tryz.f247.name,by decide,Tryz.func247.trans (zLi some (by kernel_rfl))⟩
 f50:=⟨Tryz.f248.name,by decide,Tryz.func248.trans (zLi some (by kernel_rfl))⟩
 f57:=⟨Tryz.f249.name,by decide,Tryz.func249.trans (zLi some (by kernel_rfl))⟩
 t0:=Tryz.underlying0
 a0:=Tryz.isAgg0
 z0:=Tryz.sizeOf0
 v0:=Tryz.zeroValue0
 t3:=Tryz.underlying3
 a3:=Tryz.isAgg3
 z3:=Tryz.sizeOf3
 v3:=Tryz.zeroValue3
 t4:=Tryz.underlying4
 a4:=Tryz.isAgg4
 z4:=Tryz.sizeOf4
 v4:=Tryz.zeroValue4
 t5:=Tryz.underlying5
 a5:=Tryz.isAgg5
 z5:=Tryz.sizeOf5
 v5:=Tryz.zeroValue5
 t9:=Tryz.underlying9
 a9:=Tryz.isAgg9
 z9:=Tryz.sizeOf9
 v9:=Tryz.zeroValue9
 t22:=Tryz.underlying107
 a22:=Tryz.isAgg107
 z22:=Tryz.sizeOf107
 v22:=Tryz.zeroValue107
 t25:=Tryz.underlying233
 a25:=Tryz.isAgg233
 z25:=Tryz.sizeOf233
 v25:=Tryz.zeroValue233
 t39:=Tryz.underlying245
 a39:=Tryz.isAgg245
 z39:=Tryz.sizeOf245
 v39:=Tryz.zeroValue245
 t45:=Tryz.underlying249
 a45:=Tryz.isAgg249
 z45:=Tryz.sizeOf249
 v45:=Tryz.zeroValue249
 t46:=Tryz.underlying250
 a46:=Tryz.isAgg250
 z46:=Tryz.sizeOf250
 v46:=Tryz.zeroValue250
 t50:=Tryz.underlying254
 a50:=Tryz.isAgg254
 z50:=Tryz.sizeOf254
 v50:=Tryz.zeroValue254
 t53:=Tryz.underlying257
 a53:=Tryz.isAgg257
 z53:=Tryz.sizeOf257
 v53:=Tryz.zeroValue257
 t55:=Tryz.underlying259
 a55:=Tryz.isAgg259
 z55:=Tryz.sizeOf259
 v55:=Tryz.zeroValue259
 t66:=Tryz.underlying260
 a66:=Tryz.isAgg260
 z66:=Tryz.sizeOf260
 v66:=Tryz.zeroValue260
 t70:=Tryz.underlying264
 a70:=Tryz.isAgg264
 z70:=Tryz.sizeOf264
 v70:=Tryz.zeroValue264
 t76:=Tryz.underlying266
 a76:=Tryz.isAgg266
 z76:=Tryz.sizeOf266
 v76:=Tryz.zeroValue266
 t77:=Tryz.underlying267
 a77:=Tryz.isAgg267
 z77:=Tryz.sizeOf267
 v77:=Tryz.zeroValue267 }
end Go.Proofs
end
section
set_option maxRecDepth 20000
namespace Go.Dn
open Go Go.Proofs Go.RowKit Go.Eng Go.Lift Go.Den
def JZ(f:Func):Code:=f.body.getD .skip
theorem zHa{α:Type}{l:List α}(h:l.length=4):∃a b c d,l=[a,b,c,d]:=by
 match l,h with
 | [a,b,c,d],_=>exact⟨a,b,c,d,rfl⟩
theorem zFe:RecG prog 99 Tryz.f99 (cl (JZ Tryz.f99)) (cr (JZ Tryz.f99)) 4 4 5 43 t43:=by
 have hT:=(zAL 43 i43 (by kernel_rfl)).ty
 have iP:∀w,(underlying 43).run prog w=.ok (.int .i64) w:=fun w=>by simp only[underlying,hT.u];rfl
 have hz:∀w,(zeroValue 43).run prog w=.ok i43.z w:=hT.kM;have iN:∀g,Fence.wide.fn g:=fun _=>trivial
 refine⟨Tryz.func99,⟨_,Tryz.func99,rfl,by kernel_rfl⟩,rfl,Tryz.results99,by decide,fun caps hc c₀ cs w v hv hu Q hQ=>?_,fun caps hc c₀ cs w hu Q hQ=>?_⟩
 ·obtain⟨a,b,c,d,rfl⟩:=zHa hc
  dsimp only [cl,JZ,Tryz.f99,Option.getD];apply wpSIn_region;show wpOpsSIn _ _ _ _ _ [0,1,2,3,4,5,6] _ _ _
  simp[wpOpsSIn,go_sem,recoverD,hu,Instr.typeAssert,iP,iN,Act.eval,Act.put];refine hQ _ w (Ext.refl w) ⟨?_,rfl⟩ ?_ ?_ ?_
  ·simp
  ·intro i u hi
   match i,hi with
   |0,hi=>simpa[Act.get] using hi
   |1,hi=>simpa[Act.get] using hi
   |2,hi=>simpa[Act.get] using hi
   |3,hi=>simpa[Act.get] using hi
  ·simp[Act.get]
  ·simp[Act.get]
 ·obtain⟨a,b,c,d,rfl⟩:=zHa hc
  dsimp only [cl,JZ,Tryz.f99,Option.getD];apply wpSIn_region;show wpOpsSIn _ _ _ _ _ [0,1,2,3,4,5,6] _ _ _
  simp[wpOpsSIn,go_sem,recoverD,hu,Instr.typeAssert,iP,iN,hz,Act.eval,Act.put];refine hQ _ w (Ext.refl w) ⟨?_,rfl⟩ ?_ ?_
  ·simp
  ·intro i u hi
   match i,hi with
   |0,hi=>simpa[Act.get] using hi
   |1,hi=>simpa[Act.get] using hi
   |2,hi=>simpa[Act.get] using hi
   |3,hi=>simpa[Act.get] using hi
  ·simp[Act.get]
end Go.Dn
end
section
set_option maxRecDepth 20000
namespace Go.Dn
open Go Go.Proofs Go.RowKit Go.Eng Go.Lift Go.Den
theorem zBf:RecG prog 108 Tryz.f108 (cl (JZ Tryz.f108)) (cr (JZ Tryz.f108)) 1 6 2 156 t156:=by
 have hT:=(zAL 156 zFG (by kernel_rfl)).ty
 have iP:∀w,(underlying 156).run prog w=.ok (.struct (prog.fieldsOf 156)) w:=hT.gR;have hz:∀w,(zeroValue 156).run prog w=.ok (.agg #[]) w:=hT.kM
 have f8:∀w,(sizeOf 156).run prog w=.ok 0 w:=hT.zu;have iN:∀g,Fence.wide.fn g:=fun _=>trivial
 refine⟨Tryz.func108,⟨_,Tryz.func108,rfl,by kernel_rfl⟩,rfl,Tryz.results108,by decide,fun caps hc c₀ cs w v hv hu Q hQ=>?_,fun caps hc c₀ cs w hu Q hQ=>?_⟩
 ·obtain⟨a,rfl⟩:=List.length_eq_one_iff.1 hc
  have hv:v=.agg #[]:=by
   obtain⟨O,w',z,cs',h1,h2⟩:=hv;have h1:cs'=[]:=h1
   subst h1;exact h2
  subst hv;dsimp only [cl,JZ,Tryz.f108,Option.getD];apply wpSIn_region;show wpOpsSIn _ _ _ _ _ [0,1,2,3,4,5,6,7] _ _ _
  simp[wpOpsSIn,go_sem,recoverD,hu,Instr.typeAssert,iP,iN,hz,f8,Act.eval,Act.put];refine hQ _ _ (Ext.alloc w _) ⟨?_,rfl⟩ ?_ ?_ ?_
  ·simp
  ·intro i u hi
   match i,hi with
   |0,hi=>simpa[Act.get] using hi
  ·simp[Act.get]
  ·simp[Act.get]
 ·obtain⟨a,rfl⟩:=List.length_eq_one_iff.1 hc
  dsimp only [cl,JZ,Tryz.f108,Option.getD];apply wpSIn_region;show wpOpsSIn _ _ _ _ _ [0,1,2,3,4,5,6,7] _ _ _
  simp[wpOpsSIn,go_sem,recoverD,hu,Instr.typeAssert,iP,iN,hz,f8,Act.eval,Act.put];refine hQ _ _ (Ext.alloc w _) ⟨?_,rfl⟩ ?_ ?_
  ·simp
  ·intro i u hi
   match i,hi with
   |0,hi=>simpa[Act.get] using hi
  ·simp[Act.get]
end Go.Dn
end
noncomputable section
set_option maxRecDepth 200000
namespace Go.Dn
open Go Go.Proofs Go.RowKit Go.Eng Go.Lift Go.Den
def t222:Ty:=.seq (.cons t224 .nil)
def t235:Ty:=.seq (.cons (.slo t106) .nil)
open Go.F Go.Proofs.Tryz
abbrev sz(h:H):H:=.s .z h
abbrev kv(n:Nat)(t:Ty):Bool×Nat×Knd:=(false,n,.v t)
abbrev kw(n:Nat)(t:Ty):Bool×Nat×Knd:=(true,n,.v t)
abbrev ko(n:Nat)(t:Ty)(T:Nat):Bool×Nat×Knd:=(false,n,.o true t T)
def s55:FS:=⟨(.cons t104 (.cons t104 .nil)),(.cons t107 .nil),[some 106],fun x=>zp x.1 x.2.1⟩
theorem Hz:s55.ok prog 55:=fS (E0) .z func55
def zJt:FS:=⟨(.cons t3 (.cons t3 .nil)),(.cons t107 .nil),[some 106],fun x=>yc x.1 x.2.1⟩
theorem zCz:zJt.ok prog 136:=fS ((E0).S Hz) .z func136
def s84:FS:=⟨(.cons t30 .nil),(.cons t33 .nil),[none],fun x=>jJ x.1⟩
theorem zAi:s84.ok prog 84:=fS (E0) (sz (.s (.xr [3,9] [0,1,2,4,5,6,7,3,8,9] [(4,[]),(5,[]),(6,[]),(7,[])]) .z)) func84
def s77:FJ:=⟨.nil,(.pr (.ag (.pr (.v t30) (.pr (.v t33) (.pr (.o true t62 62) .un)))) .un),fun x=>y5 ⟩
theorem zAj:s77.ok prog 77:=fJ (((E0).S zAi).S zCz) (sz (sz (.s (.f [1] (.xr [2,4,16,18] [0,1,2,3,6,7,8,9,10,11,12,13,14,15,4,5,16,17,18] [(0,[]),(6,[]),(7,[]),(8,[]),(9,[]),(10,[]),(11,[]),(12,[]),(13,[]),(14,[]),(15,[])])) .z))) func77
def zKG:FS:=⟨(.cons t3 .nil),(.cons t4 .nil),[none],fun x=>vy x.1⟩
theorem zDG:zKG.ok prog 117:=fS (E0) .z func117
def zKA:FS:=⟨(.cons t23 (.cons t117 .nil)),(.cons t3 .nil),[none],fun x=>j8 x.1 x.2.1⟩
theorem zDD:zKA.ok prog 129:=fS (E0) (sz (.s (sz (.b (.l ⟨[kv 8 t3],[0,1,7],[8]⟩ [(some 0,⟨[],[],[]⟩),(none,⟨[kv 4 t3],[],[4]⟩)] .z))) .z)) func129
def s72:FS:=⟨(.cons t23 (.cons t117 .nil)),(.cons t4 .nil),[none],fun x=>zj x.1 x.2.1⟩
theorem zAk:s72.ok prog 72:=fS ((E0).S zDD) .z func72
def zJR:FS:=⟨(.cons t28 (.cons t166 .nil)),(.cons t3 .nil),[none],fun x=>yI x.1 x.2.1⟩
theorem RD:zJR.ok prog 168:=fS (E0) (sz (.s (sz (.b (.l ⟨[kv 8 t3],[0,1,7],[8]⟩ [(some 0,⟨[],[],[]⟩),(none,⟨[kv 4 t3],[],[4]⟩)] .z))) .z)) func168
def zJp:FS:=⟨(.cons t28 (.cons t166 .nil)),(.cons t4 .nil),[none],fun x=>zI x.1 x.2.1⟩
theorem lg:zJp.ok prog 140:=fS ((E0).S RD) .z func140
def zIy:FS:=⟨(.cons t107 (.cons t198 .nil)),(.cons t3 .nil),[none],fun x=>yH x.1 x.2.1⟩
theorem Q8:zIy.ok prog 188:=fS (E0) (sz (.s (sz (.b (.l ⟨[kv 8 t3],[0,1,7],[8]⟩ [(some 0,⟨[],[],[]⟩),(none,⟨[kv 4 t3],[],[4]⟩)] .z))) .z)) func188
def zJU:FS:=⟨(.cons t107 (.cons t198 .nil)),(.cons t4 .nil),[none],fun x=>zY x.1 x.2.1⟩
theorem RF:zJU.ok prog 165:=fS ((E0).S Q8) .z func165
def zIx:FS:=⟨(.cons t3 (.cons t23 .nil)),(.cons t4 .nil),[none],fun x=>jG x.1 x.2.1⟩
theorem zCY:zIx.ok prog 189:=fS (E0) (sz (.s (sz (.b (.l ⟨[kv 9 t3],[0,7,8],[9]⟩ [(some 0,⟨[],[],[]⟩),(none,⟨[kv 4 t4],[],[4]⟩)] .z))) .z)) func189
def zIZ:FS:=⟨(.cons t3 .nil),(.cons t3 .nil),[none],fun x=>jh x.1⟩
theorem zCC:zIZ.ok prog 213:=fS (E0) .z func213
def zIw:FS:=⟨(.cons t23 .nil),(.cons t3 .nil),[none],fun x=>Za x.1⟩
theorem zCX:zIw.ok prog 190:=fS ((E0).S zCC) (sz (sz (.s (sz (.b (.l ⟨[kv 3 t3,kv 8 t3],[6,7],[3,8]⟩ [(some 0,⟨[kv 3 t3],[],[3]⟩),(none,⟨[kv 2 t3],[],[2]⟩)] (sz (sz (.s (.b (sz (sz (sz (.b (.l ⟨[kv 3 t3,kv 5 t3],[6,7,8],[3,5]⟩ [(some 2,⟨[kv 3 t3],[6,7,8],[3]⟩)] .z)))))) .z)))))) .z))) func190
def zJS:FS:=⟨(.cons t106 .nil),(.cons t4 .nil),[none],fun x=>Yu x.1⟩
theorem zCk:zJS.ok prog 167:=fS (((E0).S zCX).S zCY) (sz (.s (.xg ⟨[kv 2 t4],[],[2]⟩) .z)) func167
def zJT:FS:=⟨(.cons t106 .nil),(.cons t4 .nil),[none],fun x=>jP x.1⟩
theorem zCl:zJT.ok prog 166:=fS ((E0).S zCk) .z func166
def zJq:FS:=⟨(.cons t107 .nil),(.cons t43 .nil),[none],fun x=>gU x.1⟩
theorem qf:zJq.ok prog 139:=fS (((E0).S zCl).S RF) .z func139
def zJO:FS:=⟨(.cons t107 .nil),(.cons t4 .nil),[none],fun x=>jO x.1⟩
theorem zCh:zJO.ok prog 172:=fS ((E0).S qf) .z func172
def zJf:FS:=⟨(.cons t28 .nil),(.cons t4 .nil),[none],fun x=>ZU x.1⟩
theorem Eg:zJf.ok prog 154:=fS (((E0).S zCh).S lg) .z func154
def zIt:FS:=⟨(.cons t3 .nil),(.cons t107 .nil),[some 106],fun x=>vn x.1⟩
theorem zCV:zIt.okN prog 193:=fN (E0) (sz (.s (sz (.j ⟨[],[0,1],[]⟩ .z .z)) (.s (sz (sz (.j ⟨[ko 0 t106 106],[],[]⟩ (.xg ⟨[ko 0 t106 106],[],[]⟩) .z))) .z))) func193
def zJN:FS:=⟨(.cons t28 .nil),(.cons t107 .nil),[some 106],fun x=>zL x.1⟩
theorem RC:zJN.ok prog 173:=fS ((E0).N zCV) (sz (sz (.s (sz (.b (.l ⟨[kv 3 t3,kv 11 t3],[0,9,10],[3,11]⟩ [(some 0,⟨[kv 3 t3],[0],[3]⟩)] (sz (sz (.s (.b (sz (sz (sz (.j ⟨[],[0,3,9,10,11],[]⟩ .z .z))))) .z)))))) (sz (.s (sz (.b (.l ⟨[ko 6 t106 106,kv 27 t3],[25,26],[27]⟩ [(some 2,⟨[ko 6 t106 106],[],[]⟩)] .z))) .z))))) func173
def zJe:FS:=⟨(.cons t28 .nil),(.cons t189 .nil),[some 106],fun x=>cell_of x.1⟩
theorem Ef:zJe.ok prog 155:=fS ((E0).S RC) (sz (sz (.s (sz (.b (.l ⟨[ko 3 t106 106,kv 16 t3],[14,15],[16]⟩ [(some 0,⟨[ko 3 t106 106],[],[]⟩)] .z))) .z))) func155
def zIX:GS:=⟨(.cons (.box t189) .nil),(.cons t224 .nil),fun x=>vm x.1⟩
theorem zCA:zIX.ok prog 215:=fQ (E0) (sz (.b (.l ⟨[kv 11 t3],[0,1,9,10],[11]⟩ [(some 0,⟨[],[],[]⟩),(none,⟨[],[],[]⟩)] (sz (sz (.s (.b (sz (.s (.f [4] .z) (.b (.l ⟨[kv 21 t3],[0,1,3,4,9,10,11,19,20],[21]⟩ [(some 2,⟨[],[0,1,9,10,11],[]⟩),(none,⟨[],[],[]⟩)] (sz (sz (.s (.b (sz (.s (.f [6] .z) (.b (.l ⟨[kv 33 t3],[0,1,3,4,6,9,10,11,19,20,21,31,32],[33]⟩ [(some 4,⟨[],[0,1,3,4,9,10,11,19,20,21],[]⟩),(none,⟨[],[],[]⟩)] (sz (sz (.s (.b (sz (.s (.f [8] .y) .z))) .z)))))))) .z)))))))) .z)))))) func215
def zIs:FS:=⟨(.cons t189 .nil),(.cons t222 .nil),[none],fun x=>j3 x.1⟩
theorem zCU:zIs.ok prog 194:=fS ((E0).Q zCA) (sz (.s (.f [1] .z) .z)) func194
def zIW:FS:=⟨(.cons t104 (.cons t104 .nil)),(.cons t104 .nil),[none],fun x=>Zf x.1 x.2.1⟩
theorem zBz:zIW.ok prog 216:=fS (E0) .z func216
def zIn:FS:=⟨(.cons t104 (.cons t104 .nil)),(.cons t3 .nil),[none],fun x=>ZX x.1 x.2.1⟩
theorem Q6:zIn.ok prog 199:=fS (E0) .z func199
def zIU:FS:=⟨(.cons t104 (.cons t3 .nil)),(.cons t104 .nil),[none],fun x=>Yb x.1 x.2.1⟩
theorem zBx:zIU.ok prog 218:=fS (E0) .z func218
def zIV:FS:=⟨(.cons t104 (.cons t104 .nil)),(.cons t104 .nil),[none],fun x=>XG x.1 x.2.1⟩
theorem zBy:zIV.ok prog 217:=fS (E0) .z func217
def zIT:FS:=⟨(.cons t23 .nil),(.cons t3 .nil),[none],fun x=>Ka x.1⟩
theorem zBw:zIT.ok prog 219:=fS (E0) (sz (sz (.s (sz (.b (.l ⟨[kv 3 t3,kv 8 t3],[6,7],[3,8]⟩ [(some 0,⟨[kv 3 t3],[],[3]⟩)] (sz (sz (.s (.b (sz (.b (.l ⟨[kv 3 t3,kv 5 t3],[6,7,8],[3,5]⟩ [(some 2,⟨[kv 3 t3],[6,7,8],[3]⟩)] .z)))) .z)))))) .z))) func219
def zIr:FS:=⟨(.cons t224 .nil),(.cons t208 (.cons t4 .nil)),[none,none],fun x=>XK x.1⟩
theorem zCT:zIr.ok prog 195:=fS ((((((E0).S zBw).S zBy).S zBx).S Q6).S zBz) (sz (sz (sz (.s (sz (.b (.l ⟨[kv 5 t3,kv 11 t3,kw 4 t104],[1,2,4,10],[5,11,4]⟩ [(some 0,⟨[kv 5 t3,kw 4 t104],[2,4],[5,4]⟩)] (sz (sz (.s (.b (sz (.s (.xr [13,14] [0,1,2,3,4,5,6,7,8,9,10,11,12,13,14] [(0,[]),(1,[]),(2,[]),(3,[]),(4,[]),(5,[]),(6,[]),(7,[]),(8,[]),(9,[]),(10,[]),(11,[]),(12,[])]) .z))) .z)))))) (sz (sz (.s (sz (.j ⟨[kv 9 t3],[2,4,5],[9]⟩ .z .z)) .z))))))) func195
def zJH:FS:=⟨(.cons t106 (.cons t208 .nil)),(.cons t3 .nil),[none],fun x=>ZZ x.1 x.2.1⟩
theorem Ed:zJH.ok prog 179:=fS ((E0).S Q6) .z func179
def zIS:FS:=⟨(.cons t106 (.cons (.box t208) .nil)),(.cons t4 .nil),[none],fun x=>gl x.1 x.2.1⟩
theorem zBv:zIS.ok prog 220:=fS ((E0).S Ed) .z func220
def zIq:FS:=⟨(.cons t107 (.cons t208 .nil)),(.cons t4 .nil),[none],fun x=>Zj x.1 x.2.1⟩
theorem zCS:zIq.ok prog 196:=fS (((E0).S RF).S zBv) .z func196
def zJM:FS:=⟨(.cons t189 .nil),(.cons t203 .nil),[some 208],fun x=>vh x.1⟩
theorem RB:zJM.ok prog 174:=fS ((((E0).S zCS).S zCT).S zCU) (sz (sz (sz (.s (sz (.b (.l ⟨[(true,3,(.o true t208 208)),(true,4,(.m true t208 t4))],[1,3,4,10],[]⟩ [] (sz (.b (sz (sz (.j ⟨[(true,3,(.o true t208 208)),(true,4,(.m true t208 t4))],[1,3,4,10],[]⟩ .z .z)))))))) .z)))) func174
def zJI:FS:=⟨(.cons t208 (.cons (.box t106) .nil)),(.cons t4 .nil),[none],fun x=>yS x.1 x.2.1⟩
theorem zCd:zJI.ok prog 178:=fS ((E0).S Ed) .z func178
def zIo:FS:=⟨(.cons t203 (.cons t210 .nil)),(.cons t3 .nil),[none],fun x=>vd x.1 x.2.1⟩
theorem zCQ:zIo.ok prog 198:=fS (E0) (sz (.s (sz (.b (.l ⟨[kv 8 t3],[0,1,7],[8]⟩ [(some 0,⟨[],[],[]⟩),(none,⟨[kv 4 t3],[],[4]⟩)] .z))) .z)) func198
def zJJ:FS:=⟨(.cons t203 (.cons t210 .nil)),(.cons t4 .nil),[none],fun x=>yL x.1 x.2.1⟩
theorem zCe:zJJ.ok prog 177:=fS ((E0).S zCQ) .z func177
def zJK:FS:=⟨(.cons t106 (.cons (.box t203) .nil)),(.cons t4 .nil),[none],fun x=>y6 x.1 x.2.1⟩
theorem zCf:zJK.ok prog 176:=fS (((E0).S zCe).S zCd) .z func176
def zIp:FS:=⟨(.cons t189 (.cons t198 .nil)),(.cons t3 .nil),[none],fun x=>vQ x.1 x.2.1⟩
theorem zCR:zIp.ok prog 197:=fS (E0) (sz (.s (sz (.b (.l ⟨[kv 8 t3],[0,1,7],[8]⟩ [(some 0,⟨[],[],[]⟩),(none,⟨[kv 4 t3],[],[4]⟩)] .z))) .z)) func197
def zJL:FS:=⟨(.cons t189 (.cons t198 .nil)),(.cons t4 .nil),[none],fun x=>yF x.1 x.2.1⟩
theorem zCg:zJL.ok prog 175:=fS ((E0).S zCR) .z func175
def zJd:FS:=⟨(.cons t189 .nil),(.cons t4 .nil),[none],fun x=>gh x.1⟩
theorem RJ:zJd.ok prog 156:=fS ((((E0).S zCg).S zCf).S RB) .z func156
def zKF:FS:=⟨(.cons t107 .nil),(.cons t4 .nil),[none],fun x=>jz x.1⟩
theorem lp:zKF.ok prog 118:=fS ((((E0).S RJ).S Ef).S Eg) (sz (.s (.xg ⟨[kv 2 t4],[],[2]⟩) .z)) func118
def zKC:FS:=⟨(.cons t107 (.cons t107 .nil)),(.cons t4 .nil),[none],fun x=>kU x.1 x.2.1⟩
theorem Eh:zKC.ok prog 127:=fS ((((E0).S RJ).S Ef).S Eg) (sz (.s (.xg ⟨[kv 4 t4],[],[4]⟩) .z)) func127
def zJc:FS:=⟨(.cons t107 (.cons (.box t107) .nil)),(.cons t4 .nil),[none],fun x=>gj x.1 x.2.1⟩
theorem zCr:zJc.ok prog 157:=fS ((E0).S Eh) .z func157
def zKE:FS:=⟨(.cons t107 (.cons t28 .nil)),(.cons t4 .nil),[none],fun x=>jD x.1 x.2.1⟩
theorem RQ:zKE.ok prog 119:=fS (((E0).S lg).S zCr) .z func119
def s58:FS:=⟨(.cons t30 .nil),(.cons t43 .nil),[none],fun x=>Yp x.1⟩
theorem zFv:s58.ok prog 58:=fS (((((E0).S RQ).S lp).S zAk).S zDG) (sz (sz (sz (sz (.s (sz (.b (.l ⟨[kv 32 t3],[1,30,31],[32]⟩ [(some 1,⟨[],[],[]⟩),(none,⟨[kv 2 t43],[],[2]⟩)] .z))) .z))))) func58
def zJr:FS:=⟨(.cons t107 .nil),(.cons t4 .nil),[none],fun x=>jH x.1⟩
theorem zCy:zJr.ok prog 138:=fS ((E0).S qf) .z func138
def s87:FS:=⟨(.cons t30 (.cons t33 .nil)),(.cons t4 .nil),[none],fun x=>JP x.1 x.2.1⟩
theorem zFn:s87.ok prog 87:=fS (((E0).S lg).S zCy) .z func87
def zJb:FS:=⟨(.cons t3 .nil),(.cons t28 .nil),[some 107],fun x=>vo x.1⟩
theorem zCq:zJb.okN prog 158:=fN (E0) (sz (.s (sz (.j ⟨[],[0,1],[]⟩ .z .z)) (.s (sz (sz (.j ⟨[ko 0 t107 107],[],[]⟩ (.xg ⟨[ko 0 t107 107],[],[]⟩) .z))) .z))) func158
def zKD:FS:=⟨(.cons t191 .nil),(.cons t28 .nil),[some 107],fun x=>yR x.1⟩
theorem zDF:zKD.ok prog 122:=fS ((E0).N zCq) (sz (sz (.s (sz (.b (.l ⟨[kv 3 t3,kv 11 t3],[0,9,10],[3,11]⟩ [(some 0,⟨[kv 3 t3],[0],[3]⟩)] (sz (sz (.s (.b (sz (sz (sz (.j ⟨[],[0,3,9,10,11],[]⟩ .z .z))))) .z)))))) (sz (.s (sz (.b (.l ⟨[ko 6 t107 107,kv 27 t3],[25,26],[27]⟩ [(some 2,⟨[ko 6 t107 107],[],[]⟩)] .z))) .z))))) func122
def zJo:FS:=⟨(.cons t23 .nil),(.cons t4 .nil),[none],fun x=>jk x.1⟩
theorem RL:zJo.ok prog 141:=fS (E0) (sz (.s (sz (.b (.l ⟨[kv 3 t3],[0],[3]⟩ [(some 0,⟨[],[],[]⟩),(none,⟨[kv 2 t4],[],[2]⟩)] .z))) .z)) func141
def s88:FS:=⟨(.cons t34 (.cons t3 .nil)),(.cons t43 .nil),[none],fun x=>Zg x.1 x.2.1⟩
theorem zFm:s88.ok prog 88:=fS ((((E0).S RL).S qf).S zDF) (sz (sz (.s (sz (.b (.l ⟨[kv 22 t3],[0,1,5,20,21],[22]⟩ [(some 0,⟨[],[0,1,5],[]⟩),(none,⟨[kv 4 t43],[],[4]⟩)] .z))) (sz (.s (sz (.b (.l ⟨[kv 43 t3],[0,1,5,41,42],[43]⟩ [(some 2,⟨[],[5],[]⟩),(none,⟨[kv 4 t43],[],[4]⟩)] .z))) .z))))) func88
def s30:FS:=⟨(.cons t36 .nil),(.cons t43 .nil),[none],fun x=>kR x.1⟩
theorem H0:s30.ok prog 30:=fS ((((E0).S zFm).S zFn).S zFv) (sz (sz (sz (sz (.s (sz (.b (.l ⟨[kv 4 t3,kv 33 t3],[1,31,32],[4,33]⟩ [(some 1,⟨[kv 4 t3],[],[4]⟩),(none,⟨[kv 2 t43],[],[2]⟩)] .z))) .z))))) func30
def s91:FS:=⟨(.cons t36 (.cons t23 .nil)),(.cons t136 (.cons t4 .nil)),[none,none],fun x=>YM x.1 x.2.1⟩
theorem zAf:s91.ok prog 91:=fS ((E0).S RL) (sz (.s (sz (.b (.l ⟨[kv 10 t3,kw 4 t136],[1,2,4,8,9],[10,4]⟩ [(some 0,⟨[kw 4 t136],[1,4],[4]⟩),(none,⟨[kv 5 t4,kw 4 t136],[4],[5,4]⟩)] .z))) .z)) func91
def zJi:FS:=⟨(.cons t107 (.cons (.box t28) .nil)),(.cons t4 .nil),[none],fun x=>vr x.1 x.2.1⟩
theorem zCt:zJi.ok prog 147:=fS ((E0).S RQ) .z func147
def s95:FS:=⟨(.cons t36 .nil),(.cons t140 .nil),[none],fun x=>kQ x.1⟩
theorem Sj:s95.ok prog 95:=fS (((E0).S lg).S zCt) (sz (sz (sz (.s (sz (.b (.l ⟨[kv 16 t3,(true,4,(.o true t107 107))],[1,2,3,4,14,15],[16]⟩ [(some 0,⟨[(true,4,(.o true t107 107))],[1,2,3,4],[]⟩)] (sz (sz (.s (.b (sz (sz (.j ⟨[(true,4,(.o true t107 107))],[1,2,3,4,14,15,16],[]⟩ .z .z)))) .z)))))) (sz (.s (sz (.b (.l ⟨[kv 37 t3,kw 3 t140],[2,3,4,7,33,35,36],[37,3]⟩ [(some 2,⟨[kw 3 t140],[2,3],[3]⟩)] .z))) .z)))))) func95
def zKK:FS:=⟨(.cons t136 .nil),(.cons t23 .nil),[some 3],fun x=>vq x.1⟩
theorem qh:zKK.ok prog 103:=fS (E0) (sz (sz (.s (sz (.b (.l ⟨[ko 3 t3 3,kv 7 t3],[6],[7]⟩ [(some 0,⟨[ko 3 t3 3],[],[]⟩)] (sz (sz (.s (.b (sz (sz (.j ⟨[ko 3 t3 3],[6,7],[]⟩ .z .z)))) .z)))))) .z))) func103
def zJP:FS:=⟨(.cons t3 (.cons (.box t136) .nil)),(.cons t4 .nil),[none],fun x=>yu x.1 x.2.1⟩
theorem zCi:zJP.ok prog 170:=fS (E0) .z func170
def zJh:FS:=⟨(.cons t140 (.cons t136 .nil)),(.cons t136 .nil),[none],fun x=>jj x.1 x.2.1⟩
theorem RK:zJh.ok prog 148:=fS ((((E0).S zAk).S zCi).S qh) (sz (sz (.s (sz (.b (.l ⟨[kv 14 t3,kw 5 t136],[2,3,4,5,13],[14,5]⟩ [(some 0,⟨[kw 5 t136],[2,4,5],[5]⟩)] .z))) (.s (sz (.b (.l ⟨[(false,7,(.bv true t136 136)),kw 5 t136],[2,4,5],[5]⟩ [(some 2,⟨[kw 5 t136],[4,5],[5]⟩)] (sz (.s (.b (sz (sz (.b (.l ⟨[kv 39 t3,kw 5 t136],[2,4,5,7,37,38],[39,5]⟩ [(some 4,⟨[kw 5 t136],[2,4,5,7],[5]⟩)] .z))))) .z))))) .z)))) func148
def s96:FS:=⟨(.cons t140 (.cons t136 .nil)),(.cons t4 .nil),[none],fun x=>vW x.1 x.2.1⟩
theorem zAe:s96.ok prog 96:=fS ((E0).S RK) (sz (sz (.s (sz (.b (.l ⟨[kv 11 t3,kw 5 t136],[2,3,5,10],[11,5]⟩ [(some 0,⟨[kw 5 t136],[2,3,5],[5]⟩)] .z))) .z))) func96
def s35:FS:=⟨(.cons t36 (.cons t23 .nil)),(.cons t4 .nil),[none],fun x=>zq x.1 x.2.1⟩
theorem zFz:s35.ok prog 35:=fS (((((E0).S zAe).S Sj).S zAf).S H0) .z func35
def s78:FJ:=⟨.nil,(.pr (.ag (.pr (.v t30) (.pr (.v t33) (.pr (.o true t62 62) .un)))) .un),fun x=>gL ⟩
theorem zFt:s78.ok prog 78:=fJ ((E0).J zAj) .z func78
def zJl:FS:=⟨(.cons t28 .nil),(.cons t28 .nil),[some 107],fun x=>zh x.1⟩
theorem zCw:zJl.ok prog 144:=fS (E0) .z func144
def zJj:FS:=⟨(.cons t107 (.cons (.box t107) .nil)),(.cons t4 .nil),[none],fun x=>yX x.1 x.2.1⟩
theorem zCu:zJj.ok prog 146:=fS ((E0).S Eh) .z func146
def zJk:FO:=⟨t107,107,(.cons t166 .nil),true,fun xs x=>zm xs x.1⟩
theorem zCv:zJk.ok prog 145:=fO ((E0).S RD) (sz (sz (sz (.s (sz (.b (.l ⟨[kw 0 t28,kv 5 t3,kv 6 t3],[0,1],[5,6]⟩ [(some 0,⟨[kw 0 t28,kv 5 t3],[0],[5]⟩)] (sz (.s (.b (sz (sz (.j ⟨[kw 0 t28,kv 5 t3],[0,1,6],[5]⟩ .z .z)))) .z))))) (.s (.f [0] .z) (.s (.xg ⟨[(false,4,(.o false t107 107))],[],[]⟩) .z)))))) func145
def zJG:FS:=⟨(.cons t28 .nil),(.cons t43 .nil),[none],fun x=>Yr x.1⟩
theorem zCc:zJG.ok prog 180:=fS ((E0).S qf) (sz (sz (.s (sz (.b (.l ⟨[kv 11 t3],[9,10],[11]⟩ [(some 0,⟨[],[],[]⟩),(none,⟨[kv 2 t43],[],[2]⟩)] .z))) .z))) func180
def zIm:FS:=⟨(.cons t107 .nil),(.cons t203 .nil),[some 208],fun x=>Yx x.1⟩
theorem zCP:zIm.ok prog 200:=fS ((((E0).S RB).S Ef).S Eg) .z func200
def zJa:FS:=⟨(.cons t107 .nil),(.cons t107 .nil),[some 106],fun x=>yW x.1⟩
theorem zCp:zJa.ok prog 159:=fS (E0) .z func159
def zIk:FS:=⟨(.cons t106 (.cons (.box t203) .nil)),(.cons t4 .nil),[none],fun x=>jx x.1 x.2.1⟩
theorem zCN:zIk.ok prog 202:=fS ((E0).S Ed) (sz (sz (.s (sz (.b (.l ⟨[kv 4 t3,kv 9 t3],[2,7,8],[4,9]⟩ [(some 0,⟨[kv 4 t3],[],[4]⟩)] (sz (sz (.s (.b (sz (sz (.j ⟨[kv 4 t3],[2,7,8,9],[4]⟩ .z .z)))) .z)))))) .z))) func202
def zIl:FO:=⟨t106,106,(.cons t198 .nil),true,fun xs x=>yE xs x.1⟩
theorem zCO:zIl.ok prog 201:=fO ((E0).S Q8) (sz (sz (sz (.s (sz (.b (.l ⟨[kw 0 t107,kv 5 t3,kv 6 t3],[0,1],[5,6]⟩ [(some 0,⟨[kw 0 t107,kv 5 t3],[0],[5]⟩)] (sz (.s (.b (sz (sz (.j ⟨[kw 0 t107,kv 5 t3],[0,1,6],[5]⟩ .z .z)))) .z))))) (.s (.f [0] .z) (.s (.xg ⟨[(false,4,(.o false t106 106))],[],[]⟩) .z)))))) func201
def zIj:FO:=⟨t106,106,(.cons t233 .nil),false,fun xs x=>zz xs x.1⟩
theorem zCM:zIj.ok prog 203:=NM (ρ:=Go.Proofs.Tryz.rW) Go.Proofs.Tryz.zFb (zAL 106 zFH (by kernel_rfl)).ty rfl ⟨_,func203,rfl,by kernel_rfl⟩
def zIR:FS:=⟨(.cons t3 (.cons t3 .nil)),(.cons t3 .nil),[none],fun x=>Ze x.1 x.2.1⟩
theorem zBu:zIR.ok prog 223:=fS (E0) .z func223
def zIi:FS:=⟨(.cons t106 (.cons t106 .nil)),(.cons t3 .nil),[none],fun x=>kC x.1 x.2.1⟩
theorem zCL:zIi.ok prog 204:=fS ((E0).S zBu) (sz (.b (sz (sz (.s (sz (.b (.l ⟨[kv 5 t3,kv 36 t3],[34,35],[5,36]⟩ [(some 0,⟨[kv 5 t3],[],[5]⟩)] .z))) .z))))) func204
def zIh:FO:=⟨t106,106,.nil,true,fun xs x=>z7 xs ⟩
theorem zCK:zIh.ok prog 205:=fO (E0) (sz (sz (.s (sz (.b (.l ⟨[kw 0 t107,kv 3 t3],[0],[3]⟩ [(some 0,⟨[kw 0 t107],[0],[]⟩),(none,⟨[(false,2,(.o false t106 106))],[],[]⟩)] (sz (.s (.b (sz (.s (.s (.f [0] .z) (.s (sz (.b (.l ⟨[kw 0 t107,kv 3 t3,kv 5 t3],[0,4],[3,5]⟩ [(some 2,⟨[kw 0 t107,kv 3 t3],[0],[3]⟩)] (sz (.s (.b (sz (.j ⟨[kw 0 t107,kv 3 t3],[0,4,5],[3]⟩ .z .z))) .z))))) (.s (.f [0] .z) (.s (.xg ⟨[(false,2,(.o false t106 106))],[],[]⟩) .z)))) .z))) .z))))) .z))) func205
def zJF:FS:=⟨(.cons t107 .nil),(.cons t107 .nil),[some 106],fun x=>gN x.1⟩
theorem Ec:zJF.ok prog 181:=fS (((((((((E0).O zCK).S zCL).O zCM).O zCO).S zCN).S zCp).S zCP).S lp) .z func181
def zIH:FS:=⟨(.cons t104 (.cons t104 .nil)),(.cons t104 .nil),[none],fun x=>wB x.1 x.2.1⟩
theorem zBk:zIH.ok prog 243:=fS (E0) .z func243
def zIP:FS:=⟨(.cons t106 .nil),(.cons t106 .nil),[none],fun x=>YW x.1⟩
theorem zBs:zIP.ok prog 225:=fS ((E0).S zBk) .z func225
def zIQ:GS:=⟨(.cons (.box t107) (.cons (.box t107) .nil)),(.cons (.slo t106) .nil),fun x=>jg x.1 x.2.1⟩
theorem zBt:zIQ.ok prog 224:=fQ ((((E0).S Ec).S RC).S zBs) (sz (sz (.b (.l ⟨[kv 4 t107,kv 11 t3],[0,9,10],[4,11]⟩ [(some 0,⟨[],[],[]⟩),(none,⟨[],[],[]⟩)] (sz (sz (.s (.b (sz (.s (.s (.f [6] .z) (.s (.s .y .z) .z)) (.s (sz (.s .y .z)) .z)))) .z))))))) func224
def zIg:FS:=⟨(.cons t107 (.cons t107 .nil)),(.cons t235 .nil),[none],fun x=>Zd x.1 x.2.1⟩
theorem zCJ:zIg.ok prog 206:=fS ((E0).Q zBt) (sz (.s (.f [2,3] .z) .z)) func206
def zJE:FS:=⟨(.cons t28 (.cons t107 .nil)),(.cons t28 (.cons t43 .nil)),[none,none],fun x=>kB x.1 x.2.1⟩
theorem zCb:zJE.ok prog 182:=fS (((((E0).S zCJ).S Eh).S Ec).S lp) (sz (sz (sz (.s (.f [16,6] .z) (.s (sz (.b (.l ⟨[kv 19 t3,kw 4 t28,kw 5 t43,(true,7,(.o true t107 107))],[1,4,5,6,7,17,18],[19,4,5]⟩ [(some 0,⟨[kw 4 t28,kw 5 t43,(true,7,(.o true t107 107))],[4,5,7],[4,5]⟩),(none,⟨[kw 4 t28,kw 5 t43],[4,5],[4,5]⟩)] (sz (sz (.s (.jb ⟨[kw 4 t28,kw 5 t43,(true,7,(.o true t107 107))],[1,4,5,6,7,17,18,19],[4,5]⟩ (sz (sz (sz (.b (.l ⟨[kw 4 t28,kw 5 t43,(true,7,(.o true t107 107))],[1,4,5,6,7,17,18,19,32],[4,5]⟩ [(none,⟨[kw 4 t28,kw 5 t43],[4,5],[4,5]⟩)] (sz .z))))))) .z)))))) .z))))) func182
def zJZ:FS:=⟨(.cons t107 (.cons t28 .nil)),(.cons t28 (.cons t43 .nil)),[none,none],fun x=>Yq x.1 x.2.1⟩
theorem zCo:zJZ.ok prog 160:=fS ((((((E0).S zCb).S Ec).S lp).S zCc).S qf) (sz (sz (sz (sz (sz (.s (.s (.f [27] .z) (.b (.l ⟨[kv 8 t28,kv 30 t3],[28,29],[8,30]⟩ [(some 0,⟨[kv 8 t28],[],[8]⟩),(none,⟨[kv 4 t28,kv 5 t43],[],[4,5]⟩)] .z))) .z)))))) func160
def zKB:FS:=⟨(.cons t28 (.cons t107 .nil)),(.cons t4 (.cons t43 .nil)),[none,none],fun x=>kt x.1 x.2.1⟩
theorem zDE:zKB.ok prog 128:=fS ((E0).S zCo) .z func128
def s92:FS:=⟨(.cons t140 (.cons t136 .nil)),(.cons t4 (.cons t43 .nil)),[none,none],fun x=>vF x.1 x.2.1⟩
theorem Sk:s92.ok prog 92:=fS ((((((E0).S zDE).O zCv).S zCu).S qh).S zCw) (sz (sz (.s (sz (.b (.l ⟨[ko 6 t107 107,kv 22 t3],[2,20,21],[22]⟩ [(some 0,⟨[ko 6 t107 107],[2],[]⟩)] .z))) (.s (.s (.f [6] .z) (.b (.l ⟨[kv 41 t3],[2,6,39,40],[41]⟩ [(some 2,⟨[],[],[]⟩),(none,⟨[kv 4 t4,kv 5 t43],[],[4,5]⟩)] (sz (sz (.s (.jb ⟨[],[2,6,39,40,41],[]⟩ .z) .z)))))) .z)))) func92
def s33:FS:=⟨(.cons t36 (.cons t23 .nil)),(.cons t4 (.cons t43 .nil)),[none,none],fun x=>jE x.1 x.2.1⟩
theorem zAn:s33.ok prog 33:=fS ((((E0).S Sk).S zAf).S H0) .z func33
def s79:FS:=⟨(.cons t36 (.cons t4 (.cons t23 .nil))),(.cons t4 .nil),[none],fun x=>yB x.1 x.2.1 x.2.2.1⟩
theorem zFs:s79.ok prog 79:=fS ((E0).S zAn) .z func79
def zKM:FS:=⟨(.cons t140 (.cons t136 .nil)),(.cons t3 .nil),[none],fun x=>vU x.1 x.2.1⟩
theorem Ei:zKM.ok prog 101:=fS ((E0).S qh) (sz (sz (.s (sz (.b (.l ⟨[kv 5 t3,kv 11 t3],[2,9,10],[5,11]⟩ [(some 0,⟨[kv 5 t3],[],[5]⟩)] .z))) .z))) func101
def zKN(n:Nat):FK:=⟨(.cons t3 (.cons t136 .nil)),[.r t140 140,.p t3 3,.p t136 136,.s 147],t43,43,fun x c y=>YE n x.1 x.2.1 c.1 y.1 y.2.1⟩
theorem zDK:∀n,(zKN n).ok prog 100:=Ws ⟨_,func100,rfl,by kernel_rfl⟩ (fun _ _ _=>rfl) fun n ih=>fK ((((E0).S Ei).S Sk).S zAe) (sz (.s (sz (.j ⟨[kw 3 t3,kw 4 t136],[0,2,3,4,5,7],[3,4]⟩ (sz (.s (sz (.s .q .z)) (sz (sz (.j ⟨[kw 3 t3,kw 4 t136],[0,2,3,4,5,7],[3,4]⟩ (.xr [2,3] [0,1,2,3] [(1,[3])]) .z))))) .z)) (sz (.b (.l ⟨[kv 11 t3,kw 3 t3,kw 4 t136],[2,3,4,5,7],[11,3,4]⟩ [(some 0,⟨[kw 3 t3,kw 4 t136],[2,3,4,5],[3,4]⟩),(some 1000000007,⟨[kv 0 t43],[],[]⟩)] (sz (.s (.b (sz (sz .q))) .z))))))) ih func100
def zKI:FS:=⟨(.cons t140 (.cons t136 (.cons t136 .nil))),(.cons t4 .nil),[none],fun x=>gD x.1 x.2.1 x.2.2.1⟩
theorem RT:zKI.ok prog 110:=fS ((((E0).S Sk).S qh).S RK) (sz (sz (.s (sz (.b (.l ⟨[kv 18 t3],[3,7,16,17],[18]⟩ [(some 0,⟨[],[3,7],[]⟩),(none,⟨[kv 6 t4],[],[6]⟩)] .z))) .z))) func110
def zJg(n:Nat):FK:=⟨(.cons t3 (.cons t136 (.cons t136 .nil))),[.r t3 3,.r t140 140,.o t81 81 73,.s 185],.nil,0,fun x c y=>jV n x.1 x.2.1 x.2.2.1 c.1 c.2.1 y.1⟩
theorem zCs:∀n,(zJg n).ok prog 151:=Ws ⟨_,func151,rfl,by kernel_rfl⟩ (fun _ _ _=>rfl) fun n ih=>fK (((E0).S RT).S Ei) (sz (.b (sz (.j ⟨[(true,5,(.o false t81 81))],[3,4,5,6],[]⟩ .z (sz (.j ⟨[(true,5,(.o false t81 81))],[3,4,5,6],[]⟩ .z (sz (.s (.xr [2,3,4,5] [0,1,3,2,4,5] [(0,[]),(1,[10])]) (sz (.s .q .q)))))))))) ih func151
def zKL:FS:=⟨(.cons t140 (.cons t3 .nil)),(.cons t73 .nil),[some 81],fun x=>ji x.1 x.2.1⟩
theorem zDJ:zKL.ok prog 102:=fSK (E0) (zCs 40) (sz (sz (sz (sz (.s .q .z))))) func102
def s37:FS:=⟨(.cons t36 .nil),(.cons t23 (.cons t3 (.cons t73 (.cons t43 .nil)))),[none,none,none,none],fun x=>jy x.1⟩
theorem Sn:s37.ok prog 37:=fR (c:=Tryz.f37.body.getD .skip) (((((E0).S qh).S zDJ).S Sj).S H0) (zDK 40) zFe .z .z (sz (sz (sz (sz (.s .q (sz (.s (.xr [1,5,6,7,8,9] [0,2,3,4,1,5,6,7,8,9] [(2,[2]),(3,[]),(4,[])]) .z))))))) (sz (.j ⟨[kw 0 t23,kw 1 t3,kw 2 t73,kw 3 t43],[0,1,2,3],[0,1,2,3]⟩ .z .z)) func37
def s19:FS:=⟨(.cons t23 (.cons t23 .nil)),(.cons t4 .nil),[none],fun x=>yj x.1 x.2.1⟩
theorem zGE:s19.ok prog 19:=fS (E0) (sz (sz (.s (sz (.b (.l ⟨[kv 5 t3],[0,1],[5]⟩ [(some 0,⟨[],[],[]⟩),(none,⟨[kv 4 t4],[],[4]⟩)] .z))) .z))) func19
def zKJ(n:Nat):FK:=⟨(.cons t136 (.cons t136 .nil)),[.p t3 3,.r t73 73,.r t140 140,.s 158,.r t3 3],t156,156,fun x c y=>kD n x.1 x.2.1 c.1 c.2.1 c.2.2.1 y.1⟩
theorem zDI:∀n,(zKJ n).ok prog 109:=Ws ⟨_,func109,rfl,by kernel_rfl⟩ (fun _ _ _=>rfl) fun n ih=>fK (((E0).S RT).S Ei) (sz (.s (sz (.s .q .z)) (sz (sz (.b (sz (.j ⟨[kw 2 t3],[2,3,4,5,6],[2]⟩ (.s (.xr [2,3,4,5] [0,1,3,2,4,5] [(0,[]),(1,[10])]) (.s (.xr [5,7] [0,1,2,3,4,5,6,7] [(2,[64,10]),(3,[64,10])]) (.s .q .q))) (sz (.j ⟨[],[2,3,4,5,6],[]⟩ .z (sz (sz .q))))))))))) ih func109
def s40:FS:=⟨(.cons t36 (.cons t3 (.cons t73 .nil))),(.cons t4 .nil),[none],fun x=>za x.1 x.2.1 x.2.2.1⟩
theorem Sl:s40.ok prog 40:=fR (c:=Tryz.f40.body.getD .skip) (((E0).S Sj).S H0) (zDI 40) zBf .z .z (sz (sz (sz (.s .q .z)))) (sz (.j ⟨[kw 0 t4],[0],[0]⟩ .z .z)) func40
def s80:FS:=⟨(.cons t36 (.cons t3 (.cons t23 .nil))),(.cons t4 .nil),[none],fun x=>yT x.1 x.2.1 x.2.2.1⟩
theorem zFr:s80.ok prog 80:=fS ((((E0).S Sl).S zGE).S Sn) .z func80
def s43:FS:=⟨.nil,(.cons t81 .nil),[none],fun x=>ze ⟩
theorem zAm:s43.ok prog 43:=fS (E0) .z func43
def s81:FS:=⟨(.cons t3 .nil),(.cons t81 .nil),[none],fun x=>yK x.1⟩
theorem zFq:s81.ok prog 81:=fS (E0) .z func81
def s82:FS:=⟨.nil,(.cons t81 .nil),[none],fun x=>yx ⟩
theorem zFp:s82.ok prog 82:=fS (E0) .z func82
def s27:FS:=⟨.nil,(.cons t4 .nil),[none],fun x=>jA ⟩
theorem zGD:s27.ok prog 27:=fS ((((((((((((E0).S zFp).S zFq).S zAm).S Sl).S Sn).S zFr).S zFs).S zAn).J zFt).S zFz).J zAj) (sz (sz (.s (.xg ⟨[kv 2 t4],[1],[2]⟩) (sz (.s (.xg ⟨[kv 5 t4],[1,2],[5]⟩) (sz (sz (sz (sz (sz (sz (.s (.f [12] (.xr [33,35,38] [0,1,2,3,4,5,6,7,8,9,10,11,12,13,14,15,16,17,18,19,20,21,22,23,24,25,26,27,28,29,30,31,32,34,33,35,36,37,38,39,40,41,42] [(32,[156,158]),(34,[])])) .z)))))))))))) func27
def s29:FS:=⟨(.cons t22 .nil),(.cons t22 .nil),[some 23],fun x=>kJ x.1⟩
theorem zGB:s29.ok prog 29:=fS (E0) (sz (sz (.s (sz (.b (.l ⟨[ko 3 t23 23,kv 4 t3],[0],[4]⟩ [(some 0,⟨[ko 3 t23 23],[],[]⟩)] .z))) .z))) func29
def s41:FS:=⟨(.cons t3 (.cons t3 .nil)),(.cons t3 .nil),[none],fun x=>kI x.1 x.2.1⟩
theorem zFy:s41.ok prog 41:=fS (E0) .z func41
def s85:FM:=⟨(.cons (.box t130) (.cons t3 .nil)),[some 130,none],(.cons t3 .nil),fun x=>zG x.1 x.2.1⟩
theorem Hy:s85.ok prog 85:=fM ((E0).S zFy) .z func85
def zJV:FS:=⟨(.cons t104 (.cons t104 .nil)),(.cons t104 .nil),[none],fun x=>Z8 x.1 x.2.1⟩
theorem zCm:zJV.ok prog 164:=fS (E0) .z func164
def zJs:FS:=⟨(.cons t106 .nil),(.cons t106 .nil),[none],fun x=>vJ x.1⟩
theorem RN:zJs.ok prog 137:=fS ((E0).S zCm) .z func137
def zIv:FS:=⟨(.cons t104 .nil),(.cons t26 .nil),[none],fun x=>yA x.1⟩
theorem Q7:zIv.ok prog 191:=fS (E0) .z func191
def zIY:FS:=⟨(.cons t3 .nil),(.cons t3 .nil),[none],fun x=>vS x.1⟩
theorem zCB:zIY.ok prog 214:=fS (E0) .z func214
def zIu:FS:=⟨(.cons t104 .nil),(.cons t104 (.cons t3 .nil)),[none,none],fun x=>gf x.1⟩
theorem zCW:zIu.ok prog 192:=fS (((E0).S zCB).S Q7) (sz (sz (sz (.s (sz (.b (.l ⟨[kv 5 t3,kv 6 t3,kw 2 t104],[1,2,4],[5,6,2]⟩ [(some 0,⟨[kv 5 t3,kw 2 t104],[1,2],[5,2]⟩),(none,⟨[kv 3 t3,kw 2 t104],[2],[3,2]⟩)] (sz (.s (.b (sz (sz (.b (.l ⟨[kv 5 t3,kv 7 t3],[1,2,4,6],[5,7]⟩ [(some 2,⟨[kv 5 t3],[1,2,4,6],[5]⟩)] .z))))) .z))))) (sz (.s (.xr [14] [0,1,2,3,4,5,6,7,8,9,10,11,12,13,14,15] [(13,[2])]) .z)))))) func192
def zJQ:FS:=⟨(.cons t106 .nil),(.cons t4 .nil),[none],fun x=>gK x.1⟩
theorem zCj:zJQ.ok prog 169:=fS (((E0).S zCW).S Q7) (sz (sz (.s (sz (.b (.l ⟨[kv 4 t3],[1,3],[4]⟩ [(some 0,⟨[],[1],[]⟩),(none,⟨[kv 2 t4],[],[2]⟩)] .z))) .z))) func169
def zJn:FS:=⟨(.cons t107 .nil),(.cons t43 .nil),[none],fun x=>zZ x.1⟩
theorem J7:zJn.ok prog 142:=fS ((E0).S zCj) (sz (sz (.s (sz (.b (.l ⟨[kv 3 t3],[0],[3]⟩ [(some 0,⟨[],[],[]⟩),(none,⟨[kv 2 t43],[],[2]⟩)] .z))) .z))) func142
def zJX:FS:=⟨(.cons t107 .nil),(.cons t107 .nil),[some 106],fun x=>gE x.1⟩
theorem Ee:zJX.ok prog 162:=fS ((E0).S Hz) (sz (sz (sz (.s (.xr [0,2,6] [1,3,4,0,2,5,6,7] [(1,[]),(3,[7]),(4,[7])]) .z)))) func162
def zIN:FS:=⟨(.cons t104 (.cons t104 .nil)),(.cons t104 .nil),[none],fun x=>vY x.1 x.2.1⟩
theorem zBq:zIN.ok prog 227:=fS (E0) .z func227
def zIO:FS:=⟨(.cons t104 (.cons t104 .nil)),(.cons t3 .nil),[none],fun x=>Z9 x.1 x.2.1⟩
theorem zBr:zIO.ok prog 226:=fS (E0) .z func226
def zIM:FS:=⟨(.cons t104 (.cons t3 .nil)),(.cons t104 .nil),[none],fun x=>yf x.1 x.2.1⟩
theorem zBp:zIM.ok prog 228:=fS (E0) .z func228
def zIL:FS:=⟨(.cons t104 (.cons t104 .nil)),(.cons t104 .nil),[none],fun x=>kH x.1 x.2.1⟩
theorem zBo:zIL.ok prog 229:=fS (E0) .z func229
def zIK:FS:=⟨(.cons t3 (.cons t3 .nil)),(.cons t3 .nil),[none],fun x=>zr x.1 x.2.1⟩
theorem zBn:zIK.ok prog 230:=fS (E0) (sz (.s (.b (.l ⟨[kv 0 t3,kv 1 t3],[],[0,1]⟩ [(some 0,⟨[kv 0 t3],[],[0]⟩)] .z)) .z)) func230
def zIf:FS:=⟨(.cons t106 (.cons t106 (.cons t106 .nil))),(.cons t208 (.cons t4 .nil)),[none,none],fun x=>vH x.1 x.2.1 x.2.2.1⟩
theorem zCI:zIf.ok prog 207:=fS ((((((E0).S zBn).S zBo).S zBp).S zBr).S zBq) (sz (sz (sz (.s (.xr [8,9] [0,1,2,3,4,5,6,7,8,9] [(0,[]),(1,[]),(2,[]),(3,[]),(4,[]),(5,[]),(6,[]),(7,[])]) (sz (sz (.s (sz (.j ⟨[kv 8 t3,kw 9 t104],[6,9],[8,9]⟩ .z .z)) .z))))))) func207
def zJC:FS:=⟨(.cons t106 (.cons t208 .nil)),(.cons t3 .nil),[none],fun x=>zf x.1 x.2.1⟩
theorem Eb:zJC.ok prog 184:=fS (E0) .z func184
def zIe:FS:=⟨(.cons t107 (.cons t208 .nil)),(.cons t4 .nil),[none],fun x=>vz x.1 x.2.1⟩
theorem zCH:zIe.ok prog 208:=fS ((E0).S Eb) (sz (.s (sz (.b (.l ⟨[kv 5 t3],[0,3],[5]⟩ [(some 0,⟨[],[],[]⟩),(none,⟨[kv 4 t4],[],[4]⟩)] .z))) .z)) func208
def zId:FS:=⟨(.cons t203 (.cons t208 .nil)),(.cons t4 .nil),[none],fun x=>yw x.1 x.2.1⟩
theorem zCG:zId.ok prog 209:=fS (E0) (sz (.s (sz (.b (.l ⟨[kv 5 t3],[0,3],[5]⟩ [(some 0,⟨[],[],[]⟩),(none,⟨[kv 4 t4],[],[4]⟩)] .z))) .z)) func209
def zJD:FS:=⟨(.cons t107 .nil),(.cons t203 .nil),[some 208],fun x=>vg x.1⟩
theorem Q9:zJD.ok prog 183:=fS ((((E0).S zCG).S zCH).S zCI) (sz (sz (.s (sz (.b (.l ⟨[ko 3 t208 208,kv 4 t3],[0],[4]⟩ [(some 0,⟨[ko 3 t208 208],[],[]⟩)] (sz (.s (.b (sz (.b (.l ⟨[ko 3 t208 208,kv 5 t3],[0,4],[5]⟩ [(some 2,⟨[ko 3 t208 208],[0,4],[]⟩)] (sz (.s (.b (sz (.b (.l ⟨[ko 3 t208 208,kv 6 t3],[0,4,5],[6]⟩ [(some 4,⟨[ko 3 t208 208],[0,4,5],[]⟩)] (sz (.s (.b (.s (.xr [16,17] [0,1,2,3,4,5,6,7,8,9,10,11,12,13,14,15,16,17,18] [(0,[]),(1,[]),(2,[]),(3,[]),(4,[]),(5,[]),(6,[]),(7,[]),(8,[]),(9,[]),(10,[]),(11,[]),(12,[]),(13,[]),(14,[]),(15,[7])]) (sz (.j ⟨[ko 3 t208 208],[0,4,5,6],[]⟩ .z .z)))) .z)))))) .z)))))) .z))))) .z))) func183
def zJY:FS:=⟨(.cons t107 .nil),(.cons t4 .nil),[none],fun x=>ga x.1⟩
theorem RH:zJY.ok prog 161:=fS (((E0).S Eb).S Q9) (sz (sz (.s (sz (.b (.l ⟨[kv 4 t3],[0,3],[4]⟩ [(some 0,⟨[],[],[]⟩),(none,⟨[kv 2 t4],[],[2]⟩)] (sz (.s (.b (sz (.s (sz (.b (.l ⟨[kv 5 t4,kv 6 t3],[0,3,4],[5,6]⟩ [(some 2,⟨[kv 5 t4],[0,3,4],[5]⟩)] .z))) .z))) .z))))) .z))) func161
def zJz:FS:=⟨(.cons t107 .nil),(.cons t4 .nil),[none],fun x=>zy x.1⟩
theorem qg:zJz.ok prog 130:=fS ((((E0).S RH).S Ee).S J7) (sz (.s (.xg ⟨[kv 2 t4],[],[2]⟩) .z)) func130
def s83:FS:=⟨(.cons t22 .nil),(.cons t30 .nil),[none],fun x=>jv x.1⟩
theorem zFo:s83.ok prog 83:=fS (((((E0).S qg).S RN).S Hz).M Hy) (sz (sz (.s (sz (.b (.l ⟨[kv 4 t3,kw 3 t41],[0,2,3],[4,3]⟩ [(some 0,⟨[kw 3 t41],[2,3],[3]⟩)] .z))) (sz (sz (sz (.s (.xg ⟨[kv 8 t4,kw 5 t130],[2,3,5,6,7],[8,5]⟩) (sz (sz (.s (sz (.b (.l ⟨[kv 9 t3,kv 11 t3,(true,6,(.ag (.pr (.v t9) (.pr (.o true t107 107) (.pr (.o true t3 3) .un))))),kw 5 t130],[2,3,5,6,7,8,10],[9,11,5]⟩ [(some 2,⟨[(true,6,(.ag (.pr (.v t9) (.pr (.o true t107 107) (.pr (.o true t3 3) .un))))),kw 5 t130],[2,3,5,6],[5]⟩)] (sz (.s (.b (sz (sz (.s (sz (.j ⟨[(true,6,(.ag (.pr (.v t9) (.pr (.o true t107 107) (.pr (.o true t3 3) .un)))))],[2,3,5,6,7,8,9,10,11,12],[]⟩ .z .z)) .z)))) .z))))) (.s (.s (.xg ⟨[kv 102 t4,kw 5 t130],[2,3,5,6],[102,5]⟩) (.j ⟨[(true,6,(.ag (.pr (.v t9) (.pr (.o true t107 107) (.pr (.o true t3 3) .un)))))],[2,3,6],[]⟩ (sz (sz (.s (.xr [0,6,9] [1,2,3,4,5,7,8,0,6,9,10] [(1,[]),(2,[]),(3,[]),(4,[]),(5,[]),(7,[113]),(8,[113])]) (.s (.xr [0,6,10] [1,2,3,4,5,7,0,6,8,9,10,11] [(1,[]),(2,[]),(3,[]),(4,[]),(5,[]),(7,[123])]) (sz (.j ⟨[(true,6,(.ag (.pr (.v t9) (.pr (.o true t107 107) (.pr (.o true t3 3) .un)))))],[2,3,6],[]⟩ .z .z)))))) .z)) (sz (.s (sz (.b (.l ⟨[kv 18 t3,(true,6,(.ag (.pr (.v t9) (.pr (.o true t107 107) (.pr (.o true t3 3) .un))))),kw 17 t130],[2,6,17],[18,17]⟩ [(some 4,⟨[(true,6,(.ag (.pr (.v t9) (.pr (.o true t107 107) (.pr (.o true t3 3) .un)))))],[2,6],[]⟩)] (sz (.s (.b (.xr [4,8,10] [0,1,2,3,4,5,6,7,8,9,10] [(0,[165,17,154]),(1,[165,17,154]),(2,[165,17,154])])) .z))))) .z))))))))))))) func83
def s86:FS:=⟨(.cons t22 (.cons t30 .nil)),(.cons t28 .nil),[some 107],fun x=>vG x.1 x.2.1⟩
theorem zAh:s86.ok prog 86:=fS (((E0).S Hz).M Hy) (sz (sz (.s (sz (.b (.l ⟨[ko 5 t107 107,kv 6 t3],[0,3],[6]⟩ [(some 0,⟨[ko 5 t107 107],[],[]⟩)] (sz (.s (.b (sz (sz (.s (.xr [7,10] [0,1,2,3,4,5,6,7,8,9,10,11] [(0,[33,7,27]),(1,[33,7,27]),(2,[33,7,27])]) (.s (sz (.j ⟨[kv 9 t107,kw 7 t130],[0,3,5,6,7,8],[9,7]⟩ (sz (.xr [5,10] [0,1,2,3,4,5,6,7,8,9,10,11] [(0,[52,7,27]),(1,[52,7,27]),(2,[52,7,27]),(3,[52,7,27])])) .z)) (.s (sz (.j ⟨[kv 9 t107],[0,3,5,6],[9]⟩ (sz (.xr [5,11,17,20] [0,1,2,3,4,7,8,9,10,13,14,15,16,5,6,11,12,17,18,19,20,21] [(0,[75,7,27,81,87]),(1,[75,7,27,81,87]),(2,[75,7,27,81,87]),(3,[75,7,27,81,87]),(6,[81,7,27,87]),(7,[75,7,27,81,87]),(8,[75,7,27,81,87]),(9,[75,7,27,81,87]),(10,[75,7,27]),(12,[87,7,27]),(13,[75,7,27,81,87]),(14,[75,7,27,81,87]),(15,[75,7,27,81,87]),(16,[75,7,27,81])])) .z)) .z)))))) .z))))) .z))) func86
def zJy:FS:=⟨(.cons t107 (.cons t107 .nil)),(.cons t4 .nil),[none],fun x=>zd x.1 x.2.1⟩
theorem lj:zJy.ok prog 131:=fS ((((E0).S RH).S Ee).S J7) .z func131
def s67:FS:=⟨(.cons t30 .nil),(.cons t43 .nil),[none],fun x=>gI x.1⟩
theorem zAl:s67.ok prog 67:=fS (((E0).S lj).S qg) (sz (sz (sz (.s (sz (.b (.l ⟨[kv 3 t3],[1],[3]⟩ [(some 0,⟨[],[1],[]⟩),(none,⟨[kv 2 t43],[],[2]⟩)] .z))) (.s (sz (.b (.l ⟨[kv 4 t3],[1],[4]⟩ [(some 2,⟨[],[],[]⟩),(none,⟨[kv 2 t43],[],[2]⟩)] (sz (.s (.b (sz (sz (.b (.l ⟨[kv 5 t3],[1,4],[5]⟩ [(some 4,⟨[],[1,4],[]⟩),(none,⟨[kv 2 t43],[],[2]⟩)] .z))))) .z))))) .z))))) func67
def zJx:FS:=⟨(.cons t28 .nil),(.cons t43 .nil),[none],fun x=>yY x.1⟩
theorem RP:zJx.ok prog 132:=fS ((E0).S J7) (sz (.s (sz (.b (.l ⟨[kv 3 t3],[0],[3]⟩ [(some 0,⟨[],[],[]⟩),(none,⟨[kv 2 t43],[],[2]⟩)] .z))) .z)) func132
def s89:FS:=⟨(.cons t30 (.cons t33 .nil)),(.cons t4 .nil),[none],fun x=>gY x.1 x.2.1⟩
theorem zAg:s89.ok prog 89:=fS ((E0).S RP) .z func89
def zKH:FS:=⟨(.cons t28 .nil),(.cons t28 .nil),[some 107],fun x=>gZ x.1⟩
theorem zDH:zKH.ok prog 111:=fS (E0) (sz (sz (.s (sz (.b (.l ⟨[ko 3 t107 107,kv 4 t3],[0],[4]⟩ [(some 0,⟨[ko 3 t107 107],[],[]⟩)] .z))) .z))) func111
def zJw:FS:=⟨(.cons t107 (.cons t28 .nil)),(.cons t4 .nil),[none],fun x=>yv x.1 x.2.1⟩
theorem zDC:zJw.ok prog 133:=fS ((E0).S lj) (sz (.s (sz (.b (.l ⟨[kv 5 t3],[0,1],[5]⟩ [(some 0,⟨[],[],[]⟩),(none,⟨[kv 4 t4],[],[4]⟩)] .z))) .z)) func133
def zJu:FS:=⟨(.cons t28 (.cons t107 .nil)),(.cons t28 .nil),[some 107],fun x=>vX x.1 x.2.1⟩
theorem zDA:zJu.ok prog 135:=fS ((E0).S lj) (sz (sz (.s (sz (.b (.l ⟨[ko 5 t107 107,kv 6 t3],[0,1],[6]⟩ [(some 0,⟨[ko 5 t107 107],[],[]⟩)] (sz (.s (.b (sz (.j ⟨[ko 5 t107 107],[0,1,6],[]⟩ .z .z))) .z))))) .z))) func135
def zJB:FS:=⟨(.cons t28 .nil),(.cons t43 .nil),[none],fun x=>jY x.1⟩
theorem zCa:zJB.ok prog 185:=fS ((E0).S J7) (sz (sz (.s (sz (.b (.l ⟨[kv 3 t3],[0],[3]⟩ [(some 0,⟨[],[],[]⟩),(none,⟨[kv 2 t43],[],[2]⟩)] .z))) .z))) func185
def zIc:FS:=⟨(.cons t107 .nil),(.cons t203 .nil),[some 208],fun x=>gz x.1⟩
theorem zCF:zIc.ok prog 210:=fS ((((E0).S Q9).S Ee).S J7) .z func210
def zIJ:FS:=⟨(.cons t106 (.cons t106 .nil)),(.cons t3 .nil),[none],fun x=>y4 x.1 x.2.1⟩
theorem zBm:zIJ.ok prog 231:=fS (E0) (sz (sz (sz (.s (sz (.b (.l ⟨[kv 7 t3],[5,6],[7]⟩ [(some 0,⟨[],[],[]⟩),(none,⟨[kv 4 t3],[],[4]⟩)] .z))) .z)))) func231
def zIb:FS:=⟨(.cons t107 (.cons t106 .nil)),(.cons t107 .nil),[none],fun x=>jK x.1 x.2.1⟩
theorem zCE:zIb.ok prog 211:=fS ((E0).S zBm) (sz (sz (.s (.b (.l ⟨[kv 5 t3],[0,3],[5]⟩ [(some 0,⟨[kv 5 t3],[0,3],[5]⟩)] .z)) .z))) func211
def zJA:FS:=⟨(.cons t107 .nil),(.cons t107 .nil),[none],fun x=>zn x.1⟩
theorem Ea:zJA.ok prog 186:=fS (((((E0).S zCE).S Eb).S zCF).S qg) (sz (sz (sz (sz (.s (sz (.b (.l ⟨[kv 4 t107,kv 5 t3],[0,3],[4,5]⟩ [(some 0,⟨[kv 4 t107],[],[4]⟩)] (sz (.s (.b (sz (.s (sz (.b (.l ⟨[kv 6 t3,kv 7 t3],[0,3,4,5],[6,7]⟩ [(some 2,⟨[kv 6 t3],[0,3,4,5],[6]⟩)] (sz (.s (.b (sz (.j ⟨[kv 6 t3],[0,3,4,5,7],[6]⟩ .z .z))) .z))))) (sz (.j ⟨[kv 4 t107],[0,3,5],[4]⟩ .z .z))))) .z))))) .z))))) func186
def zII:FS:=⟨(.cons t107 (.cons t106 .nil)),(.cons t107 .nil),[some 106],fun x=>yJ x.1 x.2.1⟩
theorem zBl:zII.ok prog 232:=fS (E0) (sz (.s (.xr [0,2,5] [1,3,4,0,2,5,6] [(1,[]),(3,[5]),(4,[5])]) .z)) func232
def zIa:FS:=⟨(.cons t107 (.cons t107 .nil)),(.cons t28 (.cons t43 .nil)),[some 107,none],fun x=>gJ x.1 x.2.1⟩
theorem zCD:zIa.ok prog 212:=fS ((((E0).S Ea).S zBl).S RN) (sz (sz (sz (.s (sz (.b (.l ⟨[ko 6 t107 107,kv 7 t107,kv 8 t3],[1],[7,8]⟩ [(some 0,⟨[ko 6 t107 107],[],[]⟩),(none,⟨[ko 4 t107 107,kv 5 t43],[],[5]⟩)] (sz (.s (.b (sz (sz (.s (sz (.j ⟨[ko 6 t107 107],[1,7,8],[]⟩ .z .z)) .z)))) .z))))) .z)))) func212
def zIz:FS:=⟨(.cons t28 (.cons t107 .nil)),(.cons t28 (.cons t43 .nil)),[none,none],fun x=>yy x.1 x.2.1⟩
theorem zCZ:zIz.ok prog 187:=fS (((((E0).S zCD).S Ea).S lj).S qg) (sz (sz (sz (.s (sz (.b (.l ⟨[ko 6 t107 107,kv 7 t3],[0,1],[7]⟩ [(some 0,⟨[ko 6 t107 107],[],[]⟩),(none,⟨[kv 4 t28,kv 5 t43],[],[4,5]⟩)] (sz (.s (.jb ⟨[ko 6 t107 107],[0,1,7],[]⟩ .z) .z))))) .z)))) func187
def zJW:FS:=⟨(.cons t107 (.cons t28 .nil)),(.cons t28 (.cons t43 .nil)),[none,none],fun x=>jX x.1 x.2.1⟩
theorem zCn:zJW.ok prog 163:=fS ((((((E0).S zCZ).S Ea).S qg).S zCa).S J7) (sz (sz (.s (sz (.j ⟨[kv 6 t43],[0,1],[6]⟩ .z .z)) (sz (sz (.s (sz (.j ⟨[kv 7 t28],[1],[7]⟩ .z .z)) (.s (.s (.f [26] .z) (.b (.l ⟨[kv 7 t28,kv 8 t3],[1],[7,8]⟩ [(some 0,⟨[kv 7 t28],[],[7]⟩),(none,⟨[kv 4 t28,kv 5 t43],[],[4,5]⟩)] .z))) .z))))))) func163
def zJv:FS:=⟨(.cons t28 (.cons t107 .nil)),(.cons t4 (.cons t43 .nil)),[none,none],fun x=>vE x.1 x.2.1⟩
theorem zDB:zJv.ok prog 134:=fS ((E0).S zCn) .z func134
def s68:FS:=⟨(.cons t30 (.cons t33 (.cons t28 (.cons t28 .nil)))),(.cons t33 (.cons t43 .nil)),[none,none],fun x=>jW x.1 x.2.1 x.2.2.1 x.2.2.2.1⟩
theorem zFu:s68.ok prog 68:=fS ((((((((E0).S zDB).S zDA).S zDC).S zDH).S RP).S zAg).S zAl) (sz (sz (sz (sz (sz (.s (sz (.j ⟨[kv 10 t43],[2,3,4,5,8],[10]⟩ .z .z)) (sz (sz (sz (.s (sz (.b (.l ⟨[kv 12 t3,kw 8 t33,(true,11,(.ag (.pr (.o true t4 4) (.pr (.o true t4 4) (.pr (.v t28) .un)))))],[2,3,4,5,8,11],[12,8]⟩ [(some 0,⟨[kw 8 t33,(true,11,(.ag (.pr (.o true t4 4) (.pr (.o true t4 4) (.pr (.v t28) .un)))))],[8,11],[8]⟩),(none,⟨[kv 9 t43,kw 8 t33],[8],[9,8]⟩)] (sz (.s (.b (sz (sz (sz (.s (sz (.j ⟨[kv 14 t4,kw 8 t33],[2,3,4,5,8,11,12],[14,8]⟩ .z .z)) .z))))) .z))))) .z)))))))))) func68
def s44:FS:=⟨(.cons t30 (.cons t23 (.cons t3 .nil))),(.cons t62 .nil),[none],fun x=>vD x.1 x.2.1 x.2.2.1⟩
theorem zFw:s44.ok prog 44:=fS (((E0).S zAh).M Hy) (sz (sz (sz (.s (.s (.xg ⟨[kv 25 t4,kw 7 t130],[1,2,3,6,7,8],[25,7]⟩) (.j ⟨[(true,8,(.ag (.pr (.o true t107 107) (.pr (.o true t107 107) (.pr (.v t3) (.pr (.o true t3 3) .un))))))],[1,3,6,7,8],[]⟩ .z .z)) (sz (.s (sz (.b (.l ⟨[kv 10 t3,(true,8,(.ag (.pr (.o true t107 107) (.pr (.o true t107 107) (.pr (.v t3) (.pr (.o true t3 3) .un)))))),kw 7 t130],[1,3,6,7,8,9],[10,7]⟩ [(some 0,⟨[(true,8,(.ag (.pr (.o true t107 107) (.pr (.o true t107 107) (.pr (.v t3) (.pr (.o true t3 3) .un))))))],[1,3,6,8,9],[]⟩)] (sz (.s (.b (sz (.s (sz (.j ⟨[kv 11 t4,kw 7 t130],[1,3,6,7,8,9,10],[11,7]⟩ (.xg ⟨[kv 11 t4,kw 7 t130],[1,3,6,7,8,9,10],[11,7]⟩) .z)) (sz (.j ⟨[(true,8,(.ag (.pr (.o true t107 107) (.pr (.o true t107 107) (.pr (.v t3) (.pr (.o true t3 3) .un))))))],[1,3,6,7,8,9,10],[]⟩ (.xr [2,8,9,10,12] [0,1,3,4,5,6,7,2,8,9,10,11,12] [(0,[58]),(1,[58]),(3,[]),(4,[]),(5,[]),(6,[]),(7,[])]) .z))))) .z))))) (.s (sz (.j ⟨[(true,8,(.ag (.pr (.o true t107 107) (.pr (.o true t107 107) (.pr (.v t3) (.pr (.o true t3 3) .un))))))],[1,3,6,8,9],[]⟩ .z .z)) (.s (sz (.j ⟨[(true,8,(.ag (.pr (.o true t107 107) (.pr (.o true t107 107) (.pr (.v t3) (.pr (.o true t3 3) .un))))))],[6,8],[]⟩ .z .z)) .z)))))))) func44
def zJm:FS:=⟨(.cons t23 .nil),(.cons t4 .nil),[none],fun x=>jQ x.1⟩
theorem zCx:zJm.ok prog 143:=fS (E0) (sz (.s (sz (.b (.l ⟨[kv 3 t3],[0],[3]⟩ [(some 0,⟨[],[],[]⟩),(none,⟨[kv 2 t4],[],[2]⟩)] .z))) .z)) func143
def s90:FS:=⟨(.cons t34 (.cons t3 .nil)),(.cons t43 .nil),[none],fun x=>vv x.1 x.2.1⟩
theorem zFl:s90.ok prog 90:=fS (((E0).S zCx).S J7) (sz (sz (.s (.xr [0,3,6] [1,2,4,5,0,3,6,7] [(1,[]),(2,[]),(4,[14]),(5,[14])]) (.s (sz (.b (.l ⟨[kv 7 t3],[0,1,5,6],[7]⟩ [(some 0,⟨[],[0,1,5],[]⟩),(none,⟨[kv 4 t43],[],[4]⟩)] .z))) (sz (.s (sz (.b (.l ⟨[kv 9 t3],[0,1,5],[9]⟩ [(some 2,⟨[],[5],[]⟩),(none,⟨[kv 4 t43],[],[4]⟩)] .z))) .z)))))) func90
def s31:FS:=⟨(.cons t36 .nil),(.cons t43 .nil),[none],fun x=>gH x.1⟩
theorem zGA:s31.ok prog 31:=fS ((((E0).S zFl).S zAg).S zAl) (sz (sz (sz (sz (sz (sz (.s (sz (.b (.l ⟨[kv 4 t3,kv 5 t3],[1],[4,5]⟩ [(some 0,⟨[kv 4 t3],[],[4]⟩),(none,⟨[kv 2 t43],[],[2]⟩)] .z))) .z))))))) func31
def s28:FJ:=⟨(.cons t22 .nil),(.pr (.ag (.pr (.v t30) (.pr (.v t33) (.pr (.o true t62 62) .un)))) .un),fun x=>ju x.1⟩
theorem zGC:s28.ok prog 28:=fJ ((((((((E0).S zGA).S zFw).S zFu).S zAh).M Hy).S zAi).S zFo) (sz (sz (.s (.xr [2,4,5] [0,1,2,3,4,5] [(0,[]),(1,[]),(3,[])]) (.s (sz (.j ⟨[(true,4,(.ag (.pr (.v t30) (.pr (.v t33) (.pr (.o true t62 62) .un)))))],[0,2,3,4],[]⟩ (sz (sz (.j ⟨[(true,4,(.ag (.pr (.v t30) (.pr (.v t33) (.pr (.o true t62 62) .un)))))],[0,2,3,4],[]⟩ (.s (.xr [19,20] [0,1,2,3,4,5,6,7,8,9,10,11,12,13,14,15,16,17,18,19,20,21] [(0,[]),(1,[]),(2,[]),(3,[]),(4,[]),(5,[]),(6,[]),(7,[]),(8,[]),(9,[]),(10,[]),(11,[]),(12,[]),(13,[]),(14,[]),(15,[]),(16,[]),(17,[]),(18,[6])]) (sz (.j ⟨[(true,4,(.ag (.pr (.v t30) (.pr (.v t33) (.pr (.o true t62 62) .un)))))],[0,2,3,4],[]⟩ .z .z))) .z))) .z)) (.s (sz (.b (.l ⟨[kv 8 t3,(true,4,(.ag (.pr (.v t30) (.pr (.v t33) (.pr (.o true t62 62) .un)))))],[0,2,3,4],[8]⟩ [(some 0,⟨[(true,4,(.ag (.pr (.v t30) (.pr (.v t33) (.pr (.o true t62 62) .un)))))],[2,3,4],[]⟩)] .z))) (.s (sz (.j ⟨[(true,4,(.ag (.pr (.v t30) (.pr (.v t33) (.pr (.o true t62 62) .un)))))],[2,4],[]⟩ .z .z)) (.s (.b (.l ⟨[(true,4,(.ag (.pr (.v t30) (.pr (.v t33) (.pr (.o true t62 62) .un)))))],[2,4],[]⟩ [(some 2,⟨[(true,4,(.ag (.pr (.v t30) (.pr (.v t33) (.pr (.o true t62 62) .un)))))],[2,4],[]⟩)] (sz (.b (.xg ⟨[(true,4,(.ag (.pr (.v t30) (.pr (.v t33) (.pr (.o true t62 62) .un)))))],[2,4],[]⟩))))) .z))))))) func28
def s42:FS:=⟨(.cons t78 .nil),(.cons t73 .nil),[some 81],fun x=>jZ x.1⟩
theorem zFx:s42.ok prog 42:=fS (E0) (sz (sz (.s (sz (.b (.l ⟨[ko 3 t81 81,kv 4 t3],[0],[4]⟩ [(some 0,⟨[ko 3 t81 81],[],[]⟩)] (sz (.s (.b (sz (.s (sz (.j ⟨[kw 5 t81],[0,3,4,5],[5]⟩ .z .z)) .z))) .z))))) .z))) func42
def s10:FS:=⟨(.cons t22 (.cons t78 (.cons t5 .nil))),(.cons t4 .nil),[none],fun x=>jR x.1 x.2.1 x.2.2.1⟩
theorem zGF:s10.ok prog 10:=fS ((((((((E0).S Sl).S zAm).S zFx).S Sn).J zGC).S zGB).S zGD) (sz (sz (sz (sz (sz (.s (sz (.b (.l ⟨[kv 46 t3],[7,8,10,11,12,44,45],[46]⟩ [(some 0,⟨[],[7,8,10,11,12],[]⟩),(none,⟨[kv 6 t4],[],[6]⟩)] (sz (sz (.s (.jb ⟨[],[7,8,10,11,12,44,45,46],[]⟩ .z) .z)))))) .z)))))) func10
end Go.Dn
end
section
namespace Go.Lift
open Go Go.RowKit Go.Eng Go.ChangeShapes Go.WideShapes Go.ChangeAt Go.Joins Go.Deep Go.WideElems
variable {H:Type} {enc:TypeId×Value->H} {P:Program} {w:World} {base:Nat} {sp:Nat->Bool} {held:Bool} {α β γ:Type}
abbrev O0:zR:=fun _=>0
structure Opens(enc:TypeId×Value->H)(P:Program)(w:World)(base:Nat)(sp:Nat->Bool)(held:Bool)(t:Nat)(r:GR α)(Q:α->Prop):Prop where
 size:P.cellsOf t=r.sz
 fits:r.fits
 op:∀fuel cs x,DataW.trod enc P w base sp held fuel t cs=some x->∃y,r.rel O0 w cs y/\Q y
theorem r9{t:Nat}{k:IntKind}(ht:P.underlying t=some (.int k))(hs:P.cellsOf t=1):Opens enc P w base sp held t (Wt k) fun n=>(Lit.int k n).wf=true :=
 ⟨hs,fun _=>rfl,fun fuel cs x h=>by obtain⟨n,h1,_,h2⟩:=DataW.trod_int ht h;exact⟨n,h1,h2⟩⟩
theorem GY{r:GR α}{O:zR}{Q:α->Prop}:∀ {vs:List Value},(∀v∈vs,∃y,r.v O w v y/\Q y)->∃ys,yk r O w vs ys/\∀y∈ys,Q y
 | [],_=>⟨[],trivial,by simp⟩
 |v::vs,h=>by
   obtain⟨y,h1,h2⟩:=h v (by simp)
   obtain⟨ys,h3,h4⟩:=GY (vs:=vs) fun u hu=>h u (zLb _ hu)
   exact⟨y::ys,⟨h1,h3⟩,fun z hz=>(zLV.1 hz).elim (fun e=>by rw[e];exact h2) (h4 z)⟩
theorem wX{t e:Nat}{r:GR α}{Q:α->Prop}(ht:P.underlying t=some (.slice e))(hs:P.cellsOf t=1)(hE:Opens enc P w base sp held e r Q)(sQ:0<r.sz):Opens enc P w base sp held t (rSl r) fun xs=>(∀x∈xs,Q x)/\xs.length<=maxLen:=by
 refine⟨hs,fun _=>rfl,fun fuel cs x h=>?_⟩
 rcases DataW.trod_slice ht h with ⟨rfl,_⟩|⟨a,len,cap,hC9,rest,n,_,rfl,_,hb,hl,hm,kA,hel,_,_⟩
 ·exact⟨[],⟨_,[],rfl,⟨none,0,rfl,by simp,by simp,.inl rfl⟩,trivial,fun h=>zLh rfl h⟩,by simp,by simp⟩
 ·have each:∀i,i<len->∃cs,w.cells? base (a.add (i * r.sz)) r.sz=some cs/\∃y,r.rel O0 w cs y/\Q y:=by
   intro i hi;have:=hel i hi
   rw[zLv (by omega),hE.size,Option.bind_eq_some_iff]at this
   obtain⟨cs,h1,h2⟩:=this;exact⟨cs,h1,hE.op n cs _ h2⟩
  let f:Nat->Value:=fun i=>yC r.agg ((w.cells? base (a.add (i * r.sz)) r.sz).getD [])
  have hf:∀i,i<len->∃y,r.v O0 w (f i) y/\Q y:=by
   intro i hi;obtain⟨cs,h1,y,h2,h3⟩:=each i hi;exact⟨y,⟨cs,h2,by show yC r.agg ((w.cells? base (a.add (i * r.sz)) r.sz).getD [])=_;rw[h1];rfl⟩,h3⟩
  have hfc:∀i,i<len->∀j,j<r.sz->w.cell? (a.add (i * r.sz+j))=(f i).cells[j]?:=by
   intro i hi j hj;obtain⟨cs,h1,y,h2,_⟩:=each i hi;have h4:=(World.cells?_some h1).2.2 j hj
   have h5:(f i).cells=cs.toArray:=by
    show (yC r.agg ((w.cells? base (a.add (i * r.sz)) r.sz).getD [])).cells=_
    rw[h1];exact jr (fun ha=>by show cs.length=1;rw[r.len h2,hE.fits ha]) (r.one h2)
   rw[h5,List.getElem?_toArray,<-h4];rw[_root_.Go.Addr.add_add]
  obtain⟨ys,h1,h2⟩:=GY (r:=r) (O:=O0) (w:=w) (Q:=Q) (vs:=(List.range len).map f) (by
   intro v hv;obtain⟨i,hi,rfl⟩:=List.mem_map.1 hv;exact hf i (List.mem_range.1 hi))
  have i6:ys.length=len:=by have:=h1.len;simpa using this.symm
  refine⟨ys,⟨_,(List.range len).map f,rfl,⟨some a,cap,by simp,by simpa using hl,?_,?_⟩,h1,?_⟩,h2,by omega⟩
  ·intro v hv
   obtain⟨y,hy⟩:∃y,r.v O0 w v y:=by
    obtain⟨i,hi,rfl⟩:=List.mem_map.1 hv;obtain⟨y,hy,_⟩:=hf i (List.mem_range.1 hi);exact⟨y,hy⟩
   exact r.ZT hE.fits hy
  ·by_cases h0:len=0
   ·left;simp[h0]
   ·right
    obtain⟨b,off,spot⟩:=a;have aY:(w.cell? (Addr.add ⟨b,off,spot⟩ (0 * r.sz+0))).isSome=true:=by
     rw[hfc 0 (by omega) 0 sQ]
     obtain⟨y,hy,_⟩:=hf 0 (by omega)
     have:=r.ZT hE.fits hy;rw[Array.getElem?_eq_getElem (by omega)];rfl
    obtain⟨v0,hv0⟩:=Option.isSome_iff_exists.1 aY;have hC5:spot=none:=by simpa[Addr.add] using World.cell?_spot hv0
    subst hC5;refine⟨b,off,rfl,fun i x hx j hj=>?_⟩
    have hi:i<len:=by have:=(zLX.1 hx).1;simpa using this
    have hx':x=f i:=by
     rw[List.getElem?_map,List.getElem?_range hi]at hx;simpa using hx.symm
    rw[hx',<-hfc i hi j hj];unfold Addr.add;split
    ·rename_i h0;congr 1;simp[h0]
    ·rfl
  ·intro fC g hg
   have h0:0<len:=by
    rcases Nat.eq_zero_or_pos len with h0|h0
    ·subst h0;exact zLh rfl fC
    ·exact h0
   have dJ:g=a.block:=by
    have:(Value.slice (some a) len cap).ownBlock=some a.block:=rfl;rw[this]at hg;exact(Option.some.inj hg).symm
   subst dJ;refine⟨?_,rfl⟩;obtain⟨cs,h3,_⟩:=each 0 h0;have h4:=(World.cells?_some h3)
   have h5:=h4.2.2 0 sQ;rw[zLv (by omega)]at h5
   have he:(a.add (0 * r.sz)).add 0=a:=by simp[Addr.add]
   rw[he]at h5;exact World.block_lt_of_cell? _ _ h5
theorem Nl{t:Nat}{r:GR α}{Q:α->Prop}{v:Value}{d:DataW H}{ps:List MemPlace}(hE:Opens enc P w base sp held t r Q)(hv:yC r.agg v.cells.toList=v)(h:DataW.Trod enc P w base sp held t v d ps):∃x,r.v O0 w v x/\Q x:=by
 obtain⟨fuel,hf⟩:=h;obtain⟨y,h1,h2⟩:=hE.op fuel _ _ hf;exact⟨y,⟨_,h1,hv.symm⟩,h2⟩
theorem BV{t e:Nat}{r:GR α}{Q:α->Prop}{re:Reach}{b0:Nat}{v:Value}{d:DataW H}{ps:List MemPlace}(ht:P.underlying t=some (.slice e))(hs:P.cellsOf t=1)(hE:Opens enc P w base sp held e r Q)(sQ:0<r.sz)(cE:Value.okWide P w re b0 t v)(h:DataW.Trod enc P w base sp held t v d ps) :
  ∃xs,(rSl r).v O0 w v xs/\(∀x∈xs,Q x)/\xs.length<=maxLen:=by
 obtain⟨a,len,cap,rfl⟩:=okWide_slice ht cE;exact Nl (wX ht hs hE sQ) (by simp[Value.cells,yC,rSl]) h
theorem zDb:OkO O0 w:=fun _ _=>rfl
theorem Opens.at_{t:Nat}{r:GR α}{Q:α->Prop}(hE:Opens enc P w base sp held t r Q){off n:Nat}{cs:List Value}{y}(h:DataW.trod enc P w base sp held n t ((cs.drop off).take (P.cellsOf t))=some y):∃a,r.rel O0 w ((cs.drop off).take r.sz) a/\Q a:=by
 rw[hE.size]at h;exact hE.op n _ _ h
theorem wf_u8{n:Int}(h:(Lit.int .u8 n).wf=true):0<=n/\n<256:=by
 simp[Lit.wf,IntKind.min,IntKind.max,IntKind.signed,IntKind.bits]at h;omega
end Go.Lift
end
section
namespace Go.Den
open Go Go.RowKit Go.Eng Go.Lift Go.ChangeShapes Go.WideShapes Go.ChangeAt Go.Joins Go.Deep Go.WideElems
variable {H:Type} {enc:TypeId×Value->H} {P:Program} {w:World} {base:Nat} {sp:Nat->Bool} {held:Bool} {α β γ:Type}
theorem DZ{rs vs:List Value}{v v1:Value}(h3:kP rs v)(h4:rs=v1::vs)(h7:vs=[]):v=v1:=by
 subst h7 h4;rcases h3 with h|h
 ·cases h
 ·exact h
end Go.Den
end
