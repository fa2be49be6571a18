/- Lemmas behind a claim. -/
import Derived.Test.YtknbpncolbmoaaaGreatKPpE
import Derived.Test.YtknbpncolbmoaaaGreatProg
import Derived.Calls
import Derived.RunT
import Derived.Shelf.SlSortCmp.NoneTotal
import Derived.Ground.SlsfProg
import Derived.Tactics
import Derived.Tactics2
import Derived.TacticsInMore
set_option linter.unusedSimpArgs false
set_option linter.unusedVariables false
open Go.Lift.Comp (run_pure zA zM YR)
section
namespace Go.Geo
open Go Go.Eng Go.Lift Go.Den Go.F
variable {α β γ δ ε σ τ:Type}
def zAL(a m:Nat)(g:Nat->Bool):Bool:=(List.range' a m).any g
theorem CW{body:Int->Comp (Comp.Step Int ε)}(g:Nat->Bool){c d:ε}:∀(m a:Nat),(∀(i:Nat),a<=i->i<a+m->(body (i:Int)).val=some (if g i=true then .done c else .next ((i+1:Nat):Int)))->(body ((a+m:Nat):Int)).val=some (.done d)->(Comp.loop body (a:Int)).val=some (bif zAL a m g then c else d)
 |0,a,hb,he=>by rw[zM];rw[Nat.add_zero]at he;rw[he];rfl
 |m+1,a,hb,he=>by
  have ih:=CW g m (a+1) (fun i h1 h2=>hb i (by omega) (by omega)) (by rw[show a+1+m=a+(m+1) by omega];exact he)
  rw[zM,hb a (zLb _) (by omega)]
  grind [zAL]
def lg(l:List Int):Bool:=!zAL 1 (l.length-1) fun k=>decide (l.getD k 0<=l.getD (k-1) 0)
theorem ZG{l:List Int}(hl:l.length<=1000000):(ju l).val=some (lg l,()):=by
 unfold ju lg;have h1:=CW (fun k=>decide (l.getD k 0<=l.getD (k-1) 0)) (c:=(Sum.inr false:Unit⊕Bool)) (d:=Sum.inl ()) (body:=(fun (x:Int)=>if ltI x (zD l)=true then
       (idx l x).bind fun x_1=>(idx l (vu .i64 x 1)).bind fun x_2=>if leI x_1 x_2=true then Comp.pure (Comp.Step.done (Sum.inr false)) else Comp.pure (Comp.Step.next (zG .i64 x 1))
      else Comp.pure (Comp.Step.done (Sum.inl ())))) (l.length-1) 1
  (fun k h1 h2=>by
   obtain⟨a,ha⟩:=zK (xs:=l) (k:=k) (by omega)
   obtain⟨b,hb⟩:=zK (xs:=l) (k:=k-1) (by omega)
   have hi:(idx l (vu .i64 (k:Int) 1)).val=some b:=by
    grind [zO]
   rw[zLz (by grind),zA,zO ha,zLX,zA,hi,zLX,ji ha,ji hb,zJ (by omega)]
   by_cases h:a<=b
   ·simp_all [zAs]
   simp_all [zMA,zAs])
  (by rw[zMA (by grind),Comp.zB])
 rw[zA];refine(zLq (fun o=>Option.bind o _) h1).trans ?_
 grind [Comp.zB]
theorem tH{l:List Int}(hl:l.length<=1000000):(jQ l).val=some (lg l,()):=ZG hl
def rX(n k:Nat)(x:Int):Bool:=(decide (x<0) || decide ((n:Int)<=x)) || decide (x=(k:Int))
def eE(n k:Nat)(x:Eff):Int:=if jd (x.1++x.2.1)=0 then if x.2.2.1<1\/1048576<x.2.2.1 then 3 else bif x.2.2.2.1.any (rX n k) then 3 else bif lg x.2.2.2.1 then 0 else 7 else jd (x.1++x.2.1)
def SmE(x:Eff):Prop:=x.1.length<=100000/\x.2.1.length<=100000/\x.2.2.2.1.length<=100000
theorem B4{s:List Cell}{body:Int->Comp (Comp.Step Int (Unit⊕Int))}(hb:∀(i:Nat) c,s[i]?=some c->(body (i:Int)).val=some (if chk c=0 then .next ((i+1:Nat):Int) else .done (.inr (chk c))))(he:(body (s.length:Int)).val=some (.done (.inl ()))) :
  (Comp.loop body 0).val=some (if jd s=0 then .inl () else .inr (jd s)):=by
 have key:∀(ys zs:List Cell),s=zs++ys->(Comp.loop body (zs.length:Int)).val=some (if jd ys=0 then .inl () else .inr (jd ys)):=by
  intro ys
  induction ys with
  |nil =>
   intro zs hx;rw[zM,show zs.length=s.length by grind,he];rfl
  |cons y ys ih =>
   intro zs hx;have hy:s[zs.length]?=some y:=by grind
   rw[Jb];by_cases h:chk y=0
   ·rw[zLz h,zM,hb _ _ hy,zLz h,zLX]
    simpa using ih (zs++[y]) (by grind)
   ·rw[zMA h,zMA h,zM,hb _ _ hy,zMA h,zLX]
 exact key s [] rfl
theorem w7{n k:Nat}{x:Eff}(hs:SmE x)(hn:n<=100000){ln0:Int}(hl:ln0=(n:Int)){inc:List Int->Comp (Bool×Unit)}(hinc:∀l,l.length<=1000000->(inc l).val=some (lg l,())){body:Int->Comp (Comp.Step Int (Unit⊕Int))}
  (hb:∀(i:Nat) w,x.2.2.2.1[i]?=some w->(body (i:Int)).val=some (if rX n k w=true then .done (.inr 3) else .next ((i+1:Nat):Int))) (he:(body (x.2.2.2.1.length:Int)).val=some (.done (.inl ()))) :
  (if sel (ltI x.2.2.1 1) true (gtI x.2.2.1 1048576)=true then Comp.pure (3,())
      else
       (Comp.loop body 0).bind fun (x_3:Unit⊕Int)=>match x_3 with
        |Sum.inl x_4 =>
         (inc x.2.2.2.1).bind fun x=>if ntB x.1=true then Comp.pure (7,()) else (Comp.pure (0,()):Comp (Int×Unit))
        |Sum.inr x=>Comp.pure (x,())).val=some (if x.2.2.1<1\/1048576<x.2.2.1 then 3 else bif x.2.2.2.1.any (rX n k) then 3 else bif lg x.2.2.2.1 then 0 else 7,()):=by
 obtain⟨s1,s2,s3⟩:=hs;by_cases hc:x.2.2.1<1\/1048576<x.2.2.1
 ·simp_all [XF,zY,Jv]
 ·rw[zMA (by grind),zMA hc,zA]
  have h1:=Z1 x.2.2.2.1 (fun w=>!rX n k w) (c:=(Sum.inr 3:Unit⊕Int)) (d:=Sum.inl ()) (body:=body)
   (fun i w hw=>by grind) he
  have fH:(x.2.2.2.1.all fun w=>!rX n k w) = !x.2.2.2.1.any (rX n k):=by grind
  rw[fH]at h1;refine(zLq (fun o=>Option.bind o _) h1).trans ?_
  rw[zLX]
  cases x.2.2.2.1.any (rX n k) with
  |true=>exact Comp.zB _
  |false =>
   show ((inc x.2.2.2.1).bind fun x=>if ntB x.1=true then Comp.pure (7,()) else (Comp.pure (0,()):Comp (Int×Unit))).val=_
   grind [zA,Comp.zB]
theorem Dy{L:List Eff}{k:Nat}{x:Eff}(hx:L[k]?=some x)(hs:SmE x)(hL:L.length<=100000):(Zs L (k:Int)).val=some (eE L.length k x,()):=by
 have hs':=hs;obtain⟨s1,s2,s3⟩:=hs;unfold Zs eE;have iX:(yU [x.1,x.2.1]).val=some (x.1++x.2.1,()):=by
  have:=lK (z:=([]:Cell)) (xs:=[x.1,x.2.1]) (by grind [LIM]) (by simp)
  simp only[List.flatten_cons,List.flatten_nil,zMF]at this;exact this
 rw[zA,zO hx,zLX,zA,iX,zLX];simp only;generalize fH:x.1++x.2.1=all;have sW:all.length<=200000:=by grind
 have h2:=B4 (s:=all)
  (body:=(fun (x_1:Int)=>if ltI x_1 (zD all)=true then
         (idx all x_1).bind fun x=>(Go.F.gZ x).bind fun x=>if neI x.1 0=true then Comp.pure (Comp.Step.done (Sum.inr x.1)) else Comp.pure (Comp.Step.next (zG .i64 x_1 1))
        else Comp.pure (Comp.Step.done (Sum.inl ()))))
  (fun i c hc=>by
   have gF:=zN hc;rw[zLz (by grind),zA,zO hc,zLX,zA,jw,zLX,zJ (by omega)]
   by_cases h:chk c=0
   ·simp_all [je]
   simp_all [je])
  (by simp[zY,zQ])
 rw[zA];refine(zLq (fun o=>Option.bind o _) h2).trans ?_
 rw[zLX];by_cases h0:jd all=0
 ·rw[zLz h0,zLz h0]
  refine w7 (n:=L.length) (k:=k) hs' hL (ln0:=zD L) rfl (fun l hl=>ZG hl) (fun i w hw=>?_) ?_
  ·have gF:=zN hw
   rw[zLz (by grind),zA,zO hw,zLX,zJ (by omega)]
   have e:sel (sel (ltI w 0) true (geI w (zD L))) true (eqI w (k:Int))=rX L.length k w:=by rw[XF,XF];rfl
   grind [Comp.zB]
  simp[zY,zQ]
 simp_all
theorem Ab{L:List Eff}{k:Nat}{x:Eff}(hx:L[k]?=some x)(hs:SmE x)(hL:L.length<=100000):(gA L (k:Int)).val=some (eE L.length k x,()):=by
 have hs':=hs;obtain⟨s1,s2,s3⟩:=hs;unfold gA eE;rw[zA,zO hx,zLX,zA,yY (by grind [LIM]),zLX,zA,yY (by grind [LIM]),zLX]
 simp only[List.nil_append];generalize fH:x.1++x.2.1=all;have sW:all.length<=200000:=by grind
 have h2:=B4 (s:=all)
  (body:=(fun (x_1:Int)=>if ltI x_1 (zD all)=true then
         (idx all x_1).bind fun x=>(Go.F.zX x).bind fun x=>if neI x.1 0=true then Comp.pure (Comp.Step.done (Sum.inr x.1)) else Comp.pure (Comp.Step.next (zG .i64 x_1 1))
        else Comp.pure (Comp.Step.done (Sum.inl ()))))
  (fun i c hc=>by
   have gF:=zN hc;rw[zLz (by grind),zA,zO hc,zLX,zA,j0,zLX,zJ (by omega)]
   by_cases h:chk c=0
   ·simp_all [je]
   simp_all [je])
  (by simp[zY,zQ])
 rw[zA];refine(zLq (fun o=>Option.bind o _) h2).trans ?_
 rw[zLX];by_cases h0:jd all=0
 ·rw[zLz h0,zLz h0]
  refine w7 (n:=L.length) (k:=k) hs' hL (ln0:=zD L) rfl (fun l hl=>tH hl) (fun i w hw=>?_) ?_
  ·have gF:=zN hw
   rw[zLz (by grind),zA,zO hw,zLX,zJ (by omega)]
   have e:rX L.length k w=((ltI w 0 || geI w (zD L)) || eqI w (k:Int)):=rfl
   rw[e]
   cases h1:ltI w 0 with
   |true =>
    rw[zA];show Option.bind (Comp.pure _).val _=_
    rw[Comp.zB,zLX,zA];show Option.bind (Comp.pure _).val _=_
    grind [Comp.zB]
   |false =>
    rw[zA];show Option.bind (idx x.2.2.2.1 (i:Int)).val _=_
    rw[zO hw,zLX,zA]
    cases h2:geI w (zD L) with
    |true =>
     show Option.bind (Comp.pure _).val _=_
     grind [Comp.zB]
    |false =>
     show Option.bind (idx x.2.2.2.1 (i:Int)).val _=_
     grind [zO,Comp.zB]
  simp[zY,zQ]
 simp_all
def efs(n:Nat):List Eff->Nat->Int
 | [],_=>0
 |x::l,k=>if eE n k x=0 then efs n l (k+1) else eE n k x
def wC(L:List Eff):Nat:=(L.map fun x=>x.1.length).sum
def ckJ(j:Job):Int:=if fit j.1 j.2.1=0 then if 8<j.2.2.1.length then 2 else if efs j.2.2.1.length j.2.2.1 0=0 then if 24<j.2.1.2.2.1.length+wC j.2.2.1 then 2 else 0 else efs j.2.2.1.length j.2.2.1 0 else fit j.1 j.2.1
theorem gx{j:Job}(hw:j.1.2.2.1.length<9223372036854775807)(hs:∀x∈j.2.2.1,SmE x):(km j).val=some (ckJ j,()):=by
 unfold km ckJ;rw[zA,uJ hw,zLX];by_cases hck:ckP j.1=0
 ·rw[zMA (by grind),zA,rO,zLX,yS]
  cases oC:Y7 j.1 j.2.1 with
  |false =>
   simp_all [fit]
  |true =>
   have hf:fit j.1 j.2.1=0:=by simp_all [fit]
   obtain⟨_,_,f1,f2,f3,f4,hn,hwn⟩:=KM hf;rw[zMA (by simp),zLz hf]
   by_cases h8:8<j.2.2.1.length
   ·rw[zLz (by grind),zLz h8,Comp.zB]
   ·rw[zMA (by grind),zMA h8]
    generalize hL:j.2.2.1=L at h8 hs;have key:∀(ys zs:List Eff) (c:Nat),L=zs++ys->c+ys.length * 100000<=10000000->(Comp.loop
          (fun (x:Int×Int)=>if ltI x.2 (zD L)=true then
            (idx L x.2).bind fun (x_1 :
               List (List (Pln))×List (List (Pln))×Int×List Int×Unit) =>
             (Go.F.Zs L x.2).bind fun x_2=>if neI x_2.1 0=true then Comp.pure (Comp.Step.done (Sum.inr x_2.1))
              else Comp.pure (Comp.Step.next (zG .i64 x.1 (zD x_1.1),zG .i64 x.2 1))
           else Comp.pure (Comp.Step.done (Sum.inl x.1:Int⊕Int))) ((c:Int),(zs.length:Int))).val=some (if efs L.length ys zs.length=0 then .inl ((c+wC ys:Nat):Int) else .inr (efs L.length ys zs.length)):=by
     intro ys
     induction ys with
     |nil =>
      intro zs c hx _;rw[zM,zMA (by grind),Comp.zB];rfl
     |cons y ys ih =>
      intro zs c hx hc;have hy:L[zs.length]?=some y:=by grind
      have gF:=zN hy;have hsy:=hs y (zLe hy)
      have hcy:=hsy.1;simp only[zLh]at hc;rw[zM,zLz (by grind),zA,zO hy,zLX,zA,Dy hy hsy (by omega),zLX]
      show _=some (if (if eE L.length zs.length y=0 then efs L.length ys (zs.length+1) else eE L.length zs.length y)=0 then _ else Sum.inr (if eE L.length zs.length y=0 then efs L.length ys (zs.length+1) else eE L.length zs.length y))
      by_cases he:eE L.length zs.length y=0
      ·rw[zMA (by grind),zLz he,Comp.zB,zLX,zJ (by omega)]
       have dI:zG .i64 (c:Int) (zD y.1)=((c+y.1.length:Nat):Int):=by grind
       rw[dI];have:=ih (zs++[y]) (c+y.1.length) (by grind) (by omega)
       grind [wC]
      simp_all [je]
    have h0:=key L [] j.2.1.2.2.1.length rfl (by omega)
    rw[zA];refine(zLq (fun o=>Option.bind o _) h0).trans ?_
    rw[zLX];simp only[List.length_nil];by_cases he:efs L.length L 0=0
    ·rw[zLz he,zLz he]
     show (if gtI ((j.2.1.2.2.1.length+wC L:Nat):Int) 24=true then _ else _:Comp (Int×Unit)).val=_
     by_cases bW:24<j.2.1.2.2.1.length+wC L
     ·rw[zLz (by grind),zLz bW,Comp.zB]
     ·rw[zMA (by grind),zMA bW,Comp.zB]
    simp_all
 simp_all [fit,je]
theorem YD{j:Job}(hw:j.1.2.2.1.length<9223372036854775807)(hs:∀x∈j.2.2.1,SmE x):(yx j).val=some (ckJ j,()):=by
 unfold yx ckJ;rw[zA,XI hw,zLX];by_cases hck:ckP j.1=0
 ·rw[zMA (by grind),zA,rq,zLX,yS]
  cases oC:Y7 j.1 j.2.1 with
  |false =>
   simp_all [fit]
  |true =>
   have hf:fit j.1 j.2.1=0:=by simp_all [fit]
   obtain⟨_,_,f1,f2,f3,f4,hn,hwn⟩:=KM hf;rw[zMA (by simp),zLz hf]
   by_cases h8:8<j.2.2.1.length
   ·rw[zLz (by grind),zLz h8,Comp.zB]
   ·rw[zMA (by grind),zMA h8]
    generalize hL:j.2.2.1=L at h8 hs;have key:∀(ys zs:List Eff) (c:Nat),L=zs++ys->c+ys.length * 100000<=10000000->(Comp.loop
          (fun (x:Int×Int)=>if ltI x.2 (zD L)=true then
            (Go.F.gA L x.2).bind fun x_1=>if neI x_1.1 0=true then Comp.pure (Comp.Step.done (Sum.inr x_1.1))
             else
              (idx L x.2).bind fun (x_2 :
                 List (List (Pln))×List (List (Pln))×Int×List Int×Unit) =>
               Comp.pure (Comp.Step.next (zG .i64 x.1 (zD x_2.1),zG .i64 x.2 1))
           else Comp.pure (Comp.Step.done (Sum.inl x.1:Int⊕Int))) ((c:Int),(zs.length:Int))).val=some (if efs L.length ys zs.length=0 then .inl ((c+wC ys:Nat):Int) else .inr (efs L.length ys zs.length)):=by
     intro ys
     induction ys with
     |nil =>
      intro zs c hx _;rw[zM,zMA (by grind),Comp.zB];rfl
     |cons y ys ih =>
      intro zs c hx hc;have hy:L[zs.length]?=some y:=by grind
      have gF:=zN hy;have hsy:=hs y (zLe hy)
      have hcy:=hsy.1;simp only[zLh]at hc;rw[zM,zLz (by grind),zA,Ab hy hsy (by omega),zLX]
      show _=some (if (if eE L.length zs.length y=0 then efs L.length ys (zs.length+1) else eE L.length zs.length y)=0 then _ else Sum.inr (if eE L.length zs.length y=0 then efs L.length ys (zs.length+1) else eE L.length zs.length y))
      by_cases he:eE L.length zs.length y=0
      ·rw[zMA (by grind),zLz he,zA,zO hy,zLX,Comp.zB,zLX,zJ (by omega)]
       have dI:zG .i64 (c:Int) (zD y.1)=((c+y.1.length:Nat):Int):=by grind
       rw[dI];have:=ih (zs++[y]) (c+y.1.length) (by grind) (by omega)
       grind [wC]
      simp_all [je]
    have h0:=key L [] j.2.1.2.2.1.length rfl (by omega)
    rw[zA];refine(zLq (fun o=>Option.bind o _) h0).trans ?_
    rw[zLX];simp only[List.length_nil];by_cases he:efs L.length L 0=0
    ·rw[zLz he,zLz he]
     show (if gtI ((j.2.1.2.2.1.length+wC L:Nat):Int) 24=true then _ else _:Comp (Int×Unit)).val=_
     by_cases bW:24<j.2.1.2.2.1.length+wC L
     ·rw[zLz (by grind),zLz bW,Comp.zB]
     ·rw[zMA (by grind),zMA bW,Comp.zB]
    simp_all
 simp_all [fit,je]
def opn(L:List Eff)(k:Int):Eff:=L.getD k.toNat ([],[],0,[],())
theorem Jp{L:List Eff}{k:Int}(h:0<=k/\k<L.length):(idx L k).val=some (opn L k):=by
 grind [Yq,opn]
structure SmJ(j:Job):Prop where
 w:j.1.2.2.1.length<9223372036854775807
 e:∀x∈j.2.2.1,SmE x
 n:j.2.2.1.length<=1000000
abbrev Drw:=List Int×Int×Unit
def DOk(n:Int)(d:Drw):Prop:=0<=d.2.1/\d.2.1<=n
theorem Rg{n m:Int}(hm:1<=m/\m<=1000000):Ok (yJ n m) fun r=>0<=r.1/\r.1<m:=by
 unfold yJ;rw[zMA (by grind),Ok.bind,Ok.rem (by omega),Ok.bind]
 have h1 : -m<n.tmod m/\n.tmod m<m:=by
  have:=Int.tmod_lt_of_pos n (show 0<m by omega)
  have h2 : -m<n.tmod m:=by
   rcases Int.le_total 0 n with hn|hn
   ·have:=Int.tmod_nonneg m hn;omega
   ·have h3:=Int.tmod_lt_of_pos (-n) (show 0<m by omega)
    rw[Int.neg_tmod]at h3;omega
  omega
 grind [Ok.rem,Ok.pure,Int.tmod_nonneg,Int.tmod_lt_of_pos]
theorem Vr{d:Drw}{m k:Int}(hm:1<=m/\m<=1000000)(hk:0<=k/\k<=1000000000)(hd:DOk k d):Ok (zF d m) fun r=>DOk (k+1) r.1.1/\(0<=r.2.1/\r.2.1<m):=by
 obtain⟨h1,h2⟩:=hd;unfold zF;by_cases h:(zD d.1)<=d.2.1
 ·rw[zLz (by grind),Ok.pure]
  refine⟨⟨h1,?_⟩,?_⟩
  ·grind
  grind
 ·rw[zQ]at h
  rw[zMA (by grind),jS (by omega),Jg (by omega),show d.2.1+1-1=d.2.1 by omega,Ok.bind]
  obtain⟨x,hx⟩:=zK (xs:=d.1) (k:=d.2.1.toNat) (by omega)
  rw[Ok.idx h1 hx,Ok.bind];refine(Rg hm).mono fun r hr=>?_
  rw[Ok.pure];refine⟨⟨?_,?_⟩,hr⟩
  ·grind
  grind
theorem zEP(a b:V3):Ok (zq a b) fun r=>r.1.length=6:=by
 simp[zq,Ok.pure]
def kN(b n:Nat)(C:List Cell):Prop:=C.length<=n/\∀c∈C,c≠[]/\c.length<=b
abbrev tG:=kN 10
theorem kN.snoc{b n:Nat}{C:List Cell}{c:Cell}(h:kN b n C)(hc:c≠[]/\c.length<=b):kN b (n+1) (C++[c]) :=
by
  refine⟨?_,fun d hd=>?_⟩
  · rw[zLa,zLc];have:=h.1;omega
  · rcases zLi.1 hd with hd|hd
    · exact h.2 d hd
    grind
theorem kN.mono{b n m:Nat}{C:List Cell}(h:kN b n C)(xS:n<=m):kN b m C:=⟨zLg h.1 xS,h.2⟩
theorem kN.wide{b d n:Nat}{C:List Cell}(h:kN b n C)(bO:b<=d):kN d n C:=⟨h.1,fun c hc=>⟨(h.2 c hc).1,zLg (h.2 c hc).2 bO⟩⟩
theorem Qw{c:Cell}(h:c.length=6):c≠[]/\c.length<=6:=by
 grind
theorem yi{d:Drw}{m k:Int}{f:((Drw×Unit)×Int×Unit)->Comp α}{P:α->Prop}(hd:DOk k d)(hm:1<=m/\m<=1000000)(hk:0<=k/\k<=1000000000)
  (h:∀d' v,DOk (k+1) d'->0<=v->v<m->Ok (f ((d',()),v,())) P):Ok ((zF d m).bind f) P:=by
 rw[Ok.bind];exact(Vr hm hk hd).mono fun r hr=>h r.1.1 r.2.1 hr.1 hr.2.1 hr.2.2
theorem vV{k:α->Comp β}{b:(α->Comp β)->Comp β}{P:β->Prop}(I:α->Prop)(hb:∀j,(∀x,I x->Ok (j x) P)->Ok (b j) P)(hk:∀x,I x->Ok (k x) P):Ok (jn k b) P:=hb k hk
theorem d0(x:List Int):DOk 0 (x,0,()):=by unfold DOk;show (0:Int)<=0/\(0:Int)<=0;omega
theorem YP{xs:List β}{i:Int}{f:β->Comp α}{P:α->Prop}(h0:0<=i)(h1:i<xs.length)(h:∀x,x∈xs->Ok (f x) P):Ok ((idx xs i).bind f) P:=by
 obtain⟨x,hx⟩:=zK (xs:=xs) (k:=i.toNat) (by omega)
 rw[Ok.bind,Ok.idx h0 hx];exact h x (zLe hx)
theorem GD:1000000<=LIM:=by decide
theorem zp{xs ys:List β}{f:List β->Comp α}{P:α->Prop}(hl:xs.length+ys.length<=1000000)(h:Ok (f (xs++ys)) P):Ok ((app xs ys).bind f) P:=by
 rw[Ok.bind,Ok.app (by have:=GD;omega)];exact h
theorem zEW{a b:V3}{f:Cell×Unit->Comp α}{P:α->Prop}(h:∀c:Cell,c.length=6->Ok (f (c,())) P):Ok ((zq a b).bind f) P:=by
 rw[Ok.bind];exact(zEP a b).mono fun r hr=>h r.1 hr
theorem Wp{ys:Cell}{f:Cell->Comp α}{P:α->Prop}(hn:ys≠[])(hl:ys.length<=1000000)(h:Ok (f ys) P):Ok ((Mn [] ys).bind f) P:=by
 cases ys with
 |nil=>exact(hn rfl).elim
 |cons y ys =>
  show Ok ((app [] (y::ys)).bind f) P
  exact zp (by simpa using hl) h
theorem nV{a b:Bool}(h:sel a b false=true):a=true/\b=true:=by cases a<;>cases b<;>simp_all [sel]
def ZW(p:Part):Prop:=tG 12 p.2.1/\p.2.1≠[]/\p.2.2.1.length=p.2.1.length
theorem WD{x0:List (List Int)}{p:Part}(hp:ZW p):Ok (vH x0 p) fun r=>r.1.length<=4:=by
 unfold vH;rw[Ok.bind];have hq:∀n:Nat,n<9223372036854775807->True:=fun _ _=>trivial
 refine(Ok.loop (fun s:List Cell×Int=>0<=s.2/\s.2<=4/\(s.1.length:Int)=s.2) (fun s=>(4-s.2).toNat) (P:=fun r=>r.length<=4) ?_ ?_).mono fun r hr=>?_
 ·exact⟨by show (0:Int)<=0;omega,by show (0:Int)<=4;omega,rfl⟩
 ·rintro⟨C,i⟩ ⟨h1,h2,h3⟩
  dsimp only at h1 h2 h3 |-
  have hl:0<p.2.1.length:=by cases hc:p.2.1 with
   |nil=>exact(hp.2.1 hc).elim
   |cons _ _=>simp
  have dU:=hp.1.1;split
  ·rename_i hc
   obtain⟨c1,c2⟩:=nV hc;rw[zY]at c1 c2;rw[zQ]at c1;refine YP h1 c1 fun d hd=>?_
   refine yi (d0 d) (by decide) (by decide) fun d1 v1 e1 g1 g1'=>?_
   refine yi e1 (by rw[zQ];omega) (by decide) fun d2 v2 e2 g2 g2'=>?_
   rw[zQ]at g2';refine YP g2 g2' fun c hc=>?_
   obtain⟨k1,k2⟩:=hp.1.2 c hc;refine Wp k1 (by omega) ?_
   refine vV (fun x=>DOk 4 x.2) (fun j hj=>?_) fun x hx=>?_
   ·dsimp only
    split
    ·refine yi e2 (by decide) (by decide) fun d3 v3 e3 g3 g3'=>?_
     refine yi e3 (by decide) (by decide) fun d4 v4 e4 g4 g4'=>?_
     refine zp (by simp;omega) ?_
     exact hj _ e4
    ·exact hj _ ⟨e2.1,by have:=e2.2;show d2.2.1<=4;omega⟩
   ·refine vV (fun _=>True) (fun j hj=>?_) fun y _=>?_
    ·dsimp only
     split
     ·refine yi hx (by decide) (by decide) fun d3 v3 e3 g3 g3'=>?_
      refine yi e3 (by decide) (by decide) fun d4 v4 e4 g4 g4'=>?_
      refine yi e4 (by decide) (by decide) fun d5 v5 e5 g5 g5'=>?_
      refine yi e5 (by decide) (by decide) fun d6 v6 e6 g6 g6'=>?_
      refine yi e6 (by decide) (by decide) fun d7 v7 e7 g7 g7'=>?_
      refine yi e7 (by decide) (by decide) fun d8 v8 e8 g8 g8'=>?_
      exact zEW fun c _=>hj _ trivial
     ·exact hj _ trivial
    ·refine zp (by simp;omega) ?_
     rw[Ok.pure];dsimp only;rw[jS (by omega)]
     refine⟨⟨by omega,by omega,by rw[zLa,zLc];omega⟩,by omega⟩
  ·rw[Ok.pure];dsimp only;omega
 ·rw[Ok.pure];exact hr
def box(a b c d e f:Int):Cell:=[((1,0,0,()),d,()),((-1,0,0,()),-a,()),((0,1,0,()),e,()),((0,-1,0,()),-b,()),((0,0,1,()),f,()),((0,0,-1,()),-c,())]
theorem HW{a b c d e f:Int}(h:((-1000<=a/\a<=1000) /\ -1000<=b/\b<=1000) /\ -1000<=c/\c<=1000):(zq (a,b,c,()) (d,e,f,())).val=some (box a b c d e f,()):=by
 unfold zq;rw[Comp.zB];have hn:∀x:Int, -1000<=x/\x<=1000->Yw .i64 x = -x:=fun x hx=>Ji (by omega)
 simp only[hn a h.1.1,hn b h.1.2,hn c h.2];rfl
theorem zGf{p q r:Pln}(hp:okB p)(hq:okB q)(hr:okB r){x:Pnt}(h:mt p q r=some x):Bd 300000000000000 (x.1,x.2.1,x.2.2.1,())/\0<=x.2.2.2.1/\x.2.2.2.1<=600000000000:=by
 have hd:=E5 hp hq hr;obtain⟨n1,n2,n3⟩:=Ex hp hq hr;unfold mt at h;split at h
 ·cases h
 ·rename_i fD
  cases h
  generalize det p q r=w at hd fD;generalize num p q r=v at n1 n2 n3;have hg:(0:Int)<=((YB v w:Nat):Int):=Int.natCast_nonneg _
  have t:∀ {a k:Int}, -k<=a/\a<=k -> -k<=a.tdiv ((YB v w:Nat):Int)/\a.tdiv ((YB v w:Nat):Int)<=k:=fun {a k} ha=>by
   have:=GO (a:=a) (b:=((YB v w:Nat):Int));omega
  unfold mkP Bd;dsimp only;by_cases hw:w<0
  ·rw[zLz hw]
   refine⟨⟨t (by omega),t (by omega),t (by omega)⟩,Int.tdiv_nonneg (by omega) hg,(t (a := -w) (k:=600000000000) (by omega)).2⟩
  simp_all [zMA,Int.tdiv_nonneg]
def Sep(a b:Cell):Prop:=∃p∈a,∃q∈b,(p.1.1+q.1.1=0/\p.1.2.1+q.1.2.1=0/\p.1.2.2.1+q.1.2.2.1=0)/\p.2.1+q.2.1<=0
theorem Sep.symm{a b:Cell}(h:Sep a b):Sep b a:=by
 obtain⟨p,hp,q,hq,h1,h2⟩:=h;exact⟨q,hq,p,hp,by omega,by omega⟩
theorem Sep.more{a b a' b':Cell}(h:Sep a b)(ha:∀p∈a,p∈a')(hb:∀p∈b,p∈b'):Sep a' b':=by
 obtain⟨p,hp,q,hq,h1⟩:=h;exact⟨p,ha p hp,q,hb q hq,h1⟩
theorem zBT{r:List Pln}(hr:∀p∈r,okB p){p q:Pln}(hp:p∈r)(hq:q∈r)(h:(p.1.1+q.1.1=0/\p.1.2.1+q.1.2.1=0/\p.1.2.2.1+q.1.2.2.1=0)/\p.2.1+q.2.1<=0):full r=false:=by
 unfold full;rw[List.all_eq_false];refine⟨p,hp,?_⟩;rw[Bool.not_eq_true,List.any_eq_false];intro x hx t7;rw[tB]at hx;obtain⟨hi,t,ht,hm⟩:=hx;obtain⟨t1,t2,t3⟩:=mB ht;obtain⟨⟨b1,b2,b3⟩,d1,d2⟩:=zGf (hr _ t1) (hr _ t2) (hr _ t3) hm;unfold ins at hi;rw[zME]at hi;have hq0:=hi q hq
 simp only[zLr]at hq0 t7;obtain⟨⟨p1,p2,p3⟩,pB⟩:=hr p hp;obtain⟨⟨q1,q2,q3⟩,qB⟩:=hr q hq;have m1:=vn p1 b1;have m2:=vn p2 b2;have m3:=vn p3 b3
 have m4:=vn (A:=2097152) (B:=600000000000) pB (b:=x.2.2.2.1) (by omega)
 have m5:=vn (A:=2097152) (B:=600000000000) qB (b:=x.2.2.2.1) (by omega)
 dsimp only at m1 m2 m3;have e1:q.1.1 * x.1 = -(p.1.1 * x.1):=by grind
 have e2:q.1.2.1 * x.2.1 = -(p.1.2.1 * x.2.1):=by grind
 have e3:q.1.2.2.1 * x.2.2.1 = -(p.1.2.2.1 * x.2.2.1):=by grind
 have e4:(p.2.1+q.2.1) * x.2.2.2.1<=0:=Int.mul_nonpos_of_nonpos_of_nonneg (by omega) d1
 grind [rm,dt,EF]
theorem Wg{a b:Cell}(h:Sep a b):apa a b=true:=by
 unfold apa;by_cases ha:chk a=0
 ·by_cases hb:chk b=0
  ·obtain⟨p,hp,q,hq,h1⟩:=h
   rw[zBT (r:=a++b++bx0) (fun z hz=>?_) (by grind) (by grind) h1]
   ·simp
   ·rcases zLi.1 hz with hz|hz
    ·rcases zLi.1 hz with hz|hz
     ·exact(Y8 ha).2 z hz
     ·exact(Y8 hb).2 z hz
    ·exact rK z hz
  grind
 grind
theorem WY{a b c d e f:Int}(h1:(-100<=a/\a<=100) /\ -100<=b/\b<=100)(h2:(-100<=c/\c<=100) /\ -100<=d/\d<=100)(h3:(-100<=e/\e<=100) /\ -100<=f/\f<=100):chk (box a b c d e f)=0:=by
 rw[E7];refine⟨by grind [box],?_⟩
 have hv:∀x:Int, -100<=x/\x<=100->okv 2097152 x=true:=fun x hx=>by grind [okv]
 have ax:∀v∈([(1,0,0,()),(-1,0,0,()),(0,1,0,()),(0, -1,0,()),(0,0,1,()),(0,0, -1,())]:List V3),okN v=true/\uV v=1:=by decide +kernel
 rw[zME];intro p hp;have hp1:p.1∈([(1,0,0,()),(-1,0,0,()),(0,1,0,()),(0, -1,0,()),(0,0,1,()),(0,0, -1,())]:List V3)/\okv 2097152 p.2.1=true:=by
  unfold box at hp;simp only[zLd,List.not_mem_nil,or_false]at hp;grind
 grind [okP]
theorem WX{a b c d e f:Int}(h1:(-20<=a/\a<d)/\d<=20)(h2:(-20<=b/\b<e)/\e<=20)(h3:(-20<=c/\c<f)/\f<=20):ful (box a b c d e f)=true:=by
 unfold ful;rw[WY (by omega) (by omega) (by omega),zMC rfl,Bool.true_and]
 have hw:∀n:Int, -1000<=n/\n<=1000->W n=n:=fun n hn=>EF (by omega)
 have k0:(a,b,c,1,())∈crn (box a b c d e f++bx0):=by
  rw[tB];refine⟨?_,(((-1,0,0,()),-a,()),((0,-1,0,()),-b,()),((0,0,-1,()),-c,())),by simp[box,tri,prs],?_⟩
  ·simp only[ins,box,bx0,List.cons_append,List.nil_append,List.all_cons,List.all_nil,Bool.and_true,zLZ,zLr]
   simp only[rm,dt];grind
  ·have e1:det ((-1,0,0,()),-a,()) ((0,-1,0,()),-b,()) ((0,0,-1,()),-c,()) = -1:=by simp[det,cr,dt]
   have e2:num ((-1,0,0,()),-a,()) ((0,-1,0,()),-b,()) ((0,0,-1,()),-c,())=(-a, -b, -c,()):=by simp[num,cr,sc,ad]
   simp_all [mt,mkP,YB]
 have k1:(d,e,f,1,())∈crn (box a b c d e f++bx0):=by
  rw[tB];refine⟨?_,(((1,0,0,()),d,()),((0,1,0,()),e,()),((0,0,1,()),f,())),by simp[box,tri,prs],?_⟩
  ·simp only[ins,box,bx0,List.cons_append,List.nil_append,List.all_cons,List.all_nil,Bool.and_true,zLZ,zLr]
   simp only[rm,dt];grind
  ·have e1:det ((1,0,0,()),d,()) ((0,1,0,()),e,()) ((0,0,1,()),f,())=1:=by simp[det,cr,dt]
   have e2:num ((1,0,0,()),d,()) ((0,1,0,()),e,()) ((0,0,1,()),f,())=(d,e,f,()):=by simp[num,cr,sc,ad]
   simp_all [mt,mkP,YB]
 unfold full;rw[zME];intro p hp;rw[List.any_eq_true];unfold box bx0 at hp;simp only[List.cons_append,List.nil_append,zLd,List.not_mem_nil,or_false]at hp;rcases hp with rfl|rfl|rfl|rfl|rfl|rfl|rfl|rfl|rfl|rfl|rfl|rfl
 case inl|inr.inr.inl|inr.inr.inr.inr.inl=>exact⟨_,k0,by rw[zLr];grind [rm,dt]⟩
 case inr.inl|inr.inr.inr.inl|inr.inr.inr.inr.inr.inl=>exact⟨_,k1,by rw[zLr];grind [rm,dt]⟩
 all_goals exact⟨_,k0,by rw[zLr];grind [rm,dt]⟩
structure Pws(C:List Cell):Prop where
 f:∀c∈C,ful c=true
 s:∀(i k:Nat) (c d:Cell),i≠k->C[i]?=some c->C[k]?=some d->Sep c d
theorem Pws.nil:Pws []:=⟨fun _ h=>(nomatch h),fun i k c d _ h=>by simp at h⟩
theorem Pws.snoc{C:List Cell}{c:Cell}(h:Pws C)(hc:ful c=true)(hs:∀d∈C,Sep d c):Pws (C++[c]):=by
 refine⟨fun d hd=>?_,fun i k x y eT hx hy=>?_⟩
 ·rcases zLi.1 hd with hd|hd
  ·exact h.f d hd
  grind
 ·rw[List.getElem?_append]at hx hy
  split at hx
  ·split at hy
   ·exact h.s i k x y eT hx hy
   grind
  ·have hk:i=C.length/\x=c:=by
    grind
   obtain⟨hi,rfl⟩:=hk;split at hy
   ·exact(hs y (zLe hy)).symm
   grind
theorem Pws.part{C:List Cell}{k:Nat}{c a b:Cell}(h:Pws C)(hk:C[k]?=some c)(ha:∀p∈c,p∈a)(hb:∀p∈c,p∈b)(fa:ful a=true)(fb:ful b=true)(hs:Sep a b):Pws (C.set k a++[b]):=by
 have xV:Pws (C.set k a):=by
  refine⟨fun d hd=>?_,fun i m x y eV hx hy=>?_⟩
  ·obtain⟨i,hi⟩:=List.mem_iff_getElem?.1 hd
   rw[List.getElem?_set]at hi;split at hi
   ·grind
   ·exact h.f d (zLe hi)
  ·rw[List.getElem?_set]at hx hy
   by_cases h1:k=i
   ·subst h1
    rw[zLz rfl]at hx;rw[zMA eV]at hy;split at hx
    ·cases hx;exact(h.s k m c y eV hk hy).more ha fun _ hp=>hp
    ·cases hx
   ·rw[zMA h1]at hx
    by_cases h2:k=m
    ·subst h2
     rw[zLz rfl]at hy;split at hy
     ·cases hy;exact(h.s i k x c eV hx hk).more (fun _ hp=>hp) ha
     ·cases hy
    ·rw[zMA h2]at hy;exact h.s i m x y eV hx hy
 refine xV.snoc fb fun d hd=>?_
 obtain⟨i,hi⟩:=List.mem_iff_getElem?.1 hd;rw[List.getElem?_set]at hi;split at hi
 ·grind
 ·rename_i fD
  exact(h.s i k d c (fun e=>fD e.symm) hi hk).more (fun _ hp=>hp) hb
theorem Pws.all{C:List Cell}(h:Pws C):KY [] C=true:=by
 have key:∀(l seen:List Cell),seen++l=C->KY seen l=true:=by
  intro l
  induction l with
  |nil=>intro seen _;rfl
  |cons c l ih =>
   intro seen hC;have hc:C[seen.length]?=some c:=by grind
   unfold KY;rw[h.f c (zLe hc),ih (seen++[c]) (by grind)]
   have:sap c seen=true:=by
    unfold sap;rw[zME];intro d hd;obtain⟨i,hi⟩:=List.mem_iff_getElem?.1 hd;have gF:=zN hi
    exact Wg (h.s seen.length i c d (by omega) hc (by grind))
   grind
 grind
theorem DOk.up{k n:Int}{d:Drw}(h:DOk k d)(hk:k<=n):DOk n d:=⟨h.1,by have:=h.2;omega⟩
theorem kN.set{b n:Nat}{C:List Cell}{c:Cell}(h:kN b n C)(hc:c≠[]/\c.length<=b)(i:Int):kN b n (jy C i c):=by
 unfold jy;refine⟨by rw[List.length_set];exact h.1,fun d hd=>?_⟩
 rcases List.mem_or_eq_of_mem_set hd with hd|hd
 ·exact h.2 d hd
 grind
theorem QG{b:Int}(h : -1000<=b/\b<=1000):(vK ((0,1,1,()),b,())).val=some (((0, -1, -1,()), -b,()),()):=by
 unfold vK;have hs:(YF (0,0,0,()) (0,1,1,())).val=some ((0, -1, -1,()),()):=YR (n:=5) (by kernel_rfl)
 grind [zA,Comp.zB,Ji]
def Lft(X:Int)(C:List Cell):Prop:=∀c∈C,∃B,((1,0,0,()),B,())∈c/\B<=X
theorem Nl(x0:List (List Int)):Ok (j9 x0) fun r=>ZW r.1/\ckP r.1=0:=by
 unfold j9;rw[Ok.bind];refine(Ok.loop (fun s:Int×List (List Int)=>0<=s.1/\s.1<=2/\s.2.length=2) (fun s=>(2-s.1).toNat) (P:=fun r=>r.length=2) ?_ ?_).mono fun L hL=>?_
 ·grind
 ·rintro⟨i,L⟩ ⟨h1,h2,h3⟩
  dsimp only at h1 h2 h3 |-;split
  ·rename_i hc
   obtain⟨c1,c2⟩:=nV hc;rw[zY]at c1 c2;rw[zQ]at c1;grind [YP,Ok.zI,ga,Ok.pure,jy]
  grind [Ok.pure]
 refine YP (by decide) (by omega) fun l0 _=>?_
 refine yi (d0 l0) (by decide) (by decide) fun d1 v1 e1 g1 g1'=>?_
 refine vV (fun x=>DOk 2 x.2) (fun j hj=>?_) fun x hx=>?_
 ·grind [yi]
 dsimp only;refine yi hx (by decide) (by decide) fun d2 v2 e2 g2 g2'=>?_
 refine yi e2 (by decide) (by decide) fun d3 v3 e3 g3 g3'=>?_
 dsimp only at e3 |-;have hg1:v1<3:=g1'
 have hg2:v2<3:=g2';have hg3:v3<3:=g3'
 rw[Ok.bind];refine(Ok.loop (fun s:Int×Int×Part×Drw=>(Pws s.2.2.1.2.1/\Lft s.1 s.2.2.1.2.1 /\ -6<=s.1/\s.1 <= -4+4 * s.2.1)/\0<=s.2.1/\s.2.1<=2+v1/\kN 6 (2 * s.2.1).toNat s.2.2.1.2.1/\s.2.1<=s.2.2.1.2.1.length/\s.2.2.1.2.2.1=[]/\DOk (4+s.2.1) s.2.2.2) (fun s=>(2+v1-s.2.1).toNat)
  (P:=fun r=>Pws r.1.2.1/\kN 6 8 r.1.2.1/\2<=r.1.2.1.length/\r.1.2.2.1=[]/\DOk 8 r.2) ?_ ?_).mono fun R hR=>?_
 ·refine⟨⟨Pws.nil,fun _ h=>(nomatch h),by grind,by grind⟩,by grind,by grind,⟨Nat.zero_le _,fun _ h=>by cases h⟩,by grind,rfl,e3.up (by grind)⟩
 ·rintro⟨X,i,⟨nm,C,w,u⟩,d⟩ ⟨⟨w1,w2,w3,w4⟩,h1,h2,h3,h4,h5,h6⟩
  dsimp only at w1 w2 w3 w4 h1 h2 h3 h4 h5 h6 |-;rw[jS (m:=2) (n:=v1) (by omega)]
  split
  ·rename_i hc
   rw[zY]at hc;refine yi h6 (by decide) (by omega) fun d4 v4 e4 g4 g4'=>?_
   dsimp only;have hg4:v4<4:=g4'
   rw[jS (m:=1) (n:=v4) (by omega),jS (m:=X) (by omega),jS (m:=2) (n:=v3) (by omega),Ok.zI (HW (by omega))]
   have hl:=h3.1;have fb:∀y y',(-20<=y/\y<y')/\y'<=20->ful (box X y 0 (X+(1+v4)) y' (2+v3))=true:=fun y y' h=>WX (by omega) h (by omega)
   have sb:∀y y',∀d∈C,Sep d (box X y 0 (X+(1+v4)) y' (2+v3)):=fun y y' d hd=>by
    obtain⟨B,b1,b2⟩:=w2 d hd;exact⟨_,b1,((-1,0,0,()), -X,()),by simp[box],by simp,by grind⟩
   have lb:∀ {D:List Cell} y y',Lft (X+(1+v4)) D->Lft (X+(1+v4)) (D++[box X y 0 (X+(1+v4)) y' (2+v3)]):=fun y y' hD d hd=>by
    rcases zLi.1 hd with hd|hd
    ·exact hD d hd
    simp_all [box]
   have l0:Lft (X+(1+v4)) C:=fun d hd=>by
    obtain⟨B,b1,b2⟩:=w2 d hd;grind
   have w5:=w1.snoc (fb 0 3 (by omega)) (sb 0 3)
   refine zp (by grind) ?_
   refine vV (fun y=>(Pws y.2.1/\Lft (X+(1+v4)) y.2.1)/\kN 6 (2 * (i+1)).toNat y.2.1/\i+1<=y.2.1.length/\y.2.2.1=[]) (fun j hj=>?_) fun y hy=>?_
   ·dsimp only
    have s1:kN 6 ((2 * i).toNat+1) (C++[box X 0 0 (X+(1+v4)) 3 (2+v3)]):=h3.snoc (Qw rfl);split
    ·rw[Ok.zI (HW (by omega))]
     refine zp (by simp;omega) ?_
     refine hj _ ⟨⟨w5.snoc (fb 3 6 (by omega)) fun d hd=>?_,lb 3 6 (lb 0 3 l0)⟩,(s1.snoc (Qw rfl)).mono (by omega),?_,h5⟩
     ·rcases zLi.1 hd with hd|hd
      ·grind
      ·rw[List.mem_singleton.1 hd]
       exact⟨((0,1,0,()),3,()),by simp[box],((0, -1,0,()), -3,()),by simp[box],by simp,by decide⟩
     grind
    ·refine hj _ ⟨⟨w5,lb 0 3 l0⟩,s1.mono (by omega),?_,h5⟩
     grind
   ·rw[Ok.pure]
    dsimp only;rw[jS (m:=i) (n:=1) (by omega)]
    obtain⟨⟨y1,y2⟩,y3⟩:=hy;exact⟨⟨⟨y1,y2,by omega,by omega⟩,by omega,by omega,y3.1,y3.2.1,y3.2.2,e4.up (by omega)⟩,by omega⟩
  ·rename_i hc
   rw[zY]at hc;rw[Ok.pure];exact⟨w1,h3.mono (by omega),by grind,h5,h6.up (by omega)⟩
 obtain⟨q0,q1,q2,q3,q4⟩:=hR;obtain⟨⟨nm,C,w,u⟩,d⟩:=R;dsimp only at q0 q1 q2 q3 q4 |-;refine vV (fun x=>DOk 9 x.2) (fun j hj=>?_) fun x hx=>?_
 ·grind [yi]
 skip
 refine vV (fun y=>Pws y.2.1/\tG 9 y.2.1/\2<=y.2.1.length/\y.2.2.1=[]) (fun j hj=>?_) fun y hy=>?_
 ·skip
  have k0:∀nm u,(fun y:Part=>Pws y.2.1/\tG 9 y.2.1/\2<=y.2.1.length/\y.2.2.1=[]) (nm,C,w,u):=fun _ _=>⟨q0,(q1.wide (by decide)).mono (by omega),q2,q3⟩
  split
  ·have hl:=q1.1
   refine yi hx (by grind) (by decide) fun d4 v4 e4 g4 g4'=>?_
   refine yi e4 (by decide) (by decide) fun d5 v5 e5 g5 g5'=>?_
   rw[zQ]at g4';dsimp only;obtain⟨c,eO⟩:=zK (xs:=C) (k:=v4.toNat) (by omega)
   obtain⟨m1,m2⟩:=q1.2 c (zLe eO);rw[Ok.bind,Ok.idx g4 eO];refine zp (by grind) ?_
   refine zp (by grind) ?_
   rw[Ok.bind,Ok.idx g4 eO];refine zp (by grind) ?_
   have hg5:v5<4:=g5';rw[jS (by omega),Ok.zI (QG (by omega))]
   refine zp (by grind) ?_
   rw[Ok.zI (YZ _),Ok.bind];dsimp only;have hg:Ok (Comp.gd (ful (([]++c)++[((0,1,1,()),2+v5,())])) (z6 (([]++c)++[((0, -1, -1,()), -(2+v5),())])) (false,())) fun b=>sel (ful (([]++c)++[((0,1,1,()),2+v5,())])) b.1 false=true->ful (c++[((0,1,1,()),2+v5,())])=true/\ful (c++[((0, -1, -1,()), -(2+v5),())])=true:=by
    grind [Ok.jg,Ok.zr,YZ]
   refine hg.mono fun b hb=>?_
   refine vV (fun y=>Pws y.2.1/\tG 9 y.2.1/\2<=y.2.1.length/\y.2.2.1=[]) (fun j' hj'=>?_) fun y hy=>hj _ hy
   split
   ·rename_i hs
    obtain⟨f1,f2⟩:=hb hs;rw[Ok.zI (ga ⟨g4,g4'⟩)];have t3:∀z:Cell,(jy C v4 z).length=C.length:=fun z=>by unfold jy;grind
    refine zp (by grind) ?_
    refine hj' _ ⟨?_,((q1.wide (by decide)).set (by grind) v4).snoc (by grind),?_,q3⟩
    ·dsimp only
     rw[List.nil_append];exact q0.part eO (fun p hp=>by grind) (fun p hp=>by grind) f1 f2 ⟨((0,1,1,()),2+v5,()),by simp,((0, -1, -1,()), -(2+v5),()),by simp,by simp,by grind⟩
    grind
   ·exact hj' _ ⟨q0,(q1.wide (by decide)).mono (by omega),q2,q3⟩
  simp_all
 skip
 refine YP (by decide) (by omega) fun l1 _=>?_
 obtain⟨nm2,C2,w2,u2⟩:=y;obtain⟨y0,y1,y2,y3⟩:=hy;dsimp only at y0 y1 y2 y3 |-;subst y3;rw[Ok.bind];refine(Ok.loop (fun s:Int×Part×Drw=>0<=s.1/\s.1<=C2.length/\s.2.1.2.1=C2/\(s.2.1.2.2.1.length:Int)=s.1/\s.2.1.2.2.1.any kx=false/\DOk s.1 s.2.2) (fun s=>(C2.length-s.1).toNat)
  (P:=fun r=>ZW r/\ckP r=0) ?_ ?_).mono fun R hR=>?_
 ·exact⟨by omega,by omega,rfl,rfl,rfl,d0 l1⟩
 ·rintro⟨i,⟨nm3,C3,w3,u3⟩,d⟩ ⟨h1,h2,h3,h4,h0,h5⟩
  dsimp only at h1 h2 h3 h4 h0 h5 |-;subst h3;have hl:=y1.1
  split
  ·rename_i hc
   rw[zY,zQ]at hc;refine yi h5 (by decide) (by omega) fun d4 v4 e4 g4 g4'=>?_
   dsimp only;refine YP g4 g4' fun z hz=>?_
   refine zp (by grind) ?_
   rw[Ok.pure];dsimp only;rw[jS (m:=i) (n:=1) (by omega)]
   refine⟨⟨by omega,by omega,rfl,by grind,?_,e4⟩,by omega⟩
   rw[List.any_append,h0];simp only[zLd,List.not_mem_nil,or_false]at hz;rcases hz with rfl|rfl|rfl|rfl<;>decide
  ·rename_i hc
   rw[zY,zQ]at hc;rw[Ok.pure];refine⟨⟨y1.mono (by omega),fun e=>?_,by grind⟩,?_⟩
   ·grind
   ·unfold ckP
    dsimp only;rw[zMA (by omega),zMA (by grind),y0.all];rfl
 grind [Ok.pure]
theorem Vs{p:Part}(hp:ZW p):Ok (jL p) fun r=>r.1=(List.replicate p.2.1.length false,List.replicate p.2.1.length false,[],()):=by
 unfold jL;have h1:=hp.1.1
 grind [GD,Ok.bind,Ok.mk,Ok.pure]
theorem Ca:∀ {l seen:List Cell},KY seen l=true->∀c∈l,ful c=true
 | [],_,_,c,hc=>by cases hc
 |d::l,seen,h,c,hc=>by
  unfold KY at h;simp only[zLZ]at h;rcases zLd.1 hc with e|e
  ·grind
  ·exact Ca h.2.2 c e
theorem WT{p:Part}(h:ckP p=0):(1<=p.2.1.length/\p.2.1.length<=16)/\(p.2.2.1.length=p.2.1.length/\p.2.2.1.any kx=false)/\KY [] p.2.1=true:=by
 unfold ckP at h;grind
structure PcV(p:Part)(x:vU):Prop where
 c:ckP p=0
 f:Y7 p x=true
 s:∀i,i<p.2.1.length->x.1.getD i false=false->(cov (nr x.2.2.1 (cl p i)) (cl p i)).1=false
theorem R6{p:Part}{i:Nat}(h:i<p.2.1.length):cl p i∈p.2.1:=by
 grind [cl]
theorem PcV.new{p:Part}(h:ckP p=0):PcV p (List.replicate p.2.1.length false,List.replicate p.2.1.length false,[],()):=by
 refine⟨h,by simp[Y7,jd],fun i hi _=>?_⟩
 have hf:=Ca (WT h).2.2 _ (R6 hi);have hf2:=hf
 unfold ful at hf2;simp only[zLZ,zLr]at hf2;show (cov [] (cl p i)).1=false
 unfold cov mns;rw[zLz hf2.1,zLz (by decide),zLz hf];rfl
theorem zEU{p:Part}{x:vU}{C T:List Cell}(h:(apl p x C T).2=0):PcV p (apl p x C T).1/\(fit p x=0/\jd (C++T)=0)/\(apl p x C T).1=(apS (x.2.2.1++C) p.2.1 x.1,apT C T p.2.1 x.2.1,x.2.2.1++C,()):=by
 unfold apl at h |-;split at h
 ·rename_i hf
  obtain⟨k1,k2,f1,f2,f3,f4,f5,f6⟩:=KM hf;split at h
  ·rename_i hfs
   split at h
   ·cases h
   ·rename_i hm
    split at h
    ·rename_i he
     rw[zLz hf,zLz hfs,zMA hm,zLz he];refine⟨⟨k1,?_,fun i hi hs=>?_⟩,⟨hf,hfs⟩,rfl⟩
     ·have e1:(apS (x.2.2.1++C) p.2.1 x.1).length=p.2.1.length:=by grind [apS]
      have e2:(apT C T p.2.1 x.2.1).length=p.2.1.length:=by grind [apT]
      have e3:jd (x.2.2.1++C)=0:=by
       rw[Kk,zLz f4];grind [Kk]
      simp_all [Y7]
     grind [apS,sur,cl]
    omega
  omega
 omega
def nu(x:Eff):Prop:=x.1.length<=50/\x.2.1.length<=50/\x.2.2.2.1.length<=50
theorem KO{xs:List β}{l h:Int}{f:List β->Comp α}{P:α->Prop}(hr:0<=l/\l<=h/\h<=xs.length)(k:∀ys,ys.length=(h-l).toNat->Ok (f ys) P):Ok ((sub xs l h).bind f) P:=by
 grind [Ok.bind,Ok.sub]
theorem lX{x0:List (List Int)}{p:Part}{f:List Cell×Unit->Comp α}{P:α->Prop}(hp:ZW p)(k:∀C:List Cell,C.length<=4->Ok (f (C,())) P):Ok ((vH x0 p).bind f) P:=by
 rw[Ok.bind];exact(WD hp).mono fun r hr=>k r.1 hr
theorem ZR(m n:Int):D5 m n=min m n:=rfl
theorem ML{p:Part}{x1:List Int}{x2:Int}(hp:ZW p):Ok (vF p x1 x2) fun r=>nu r.1:=by
 unfold vF;have hl:=hp.1.1
 refine yi (d0 x1) (by decide) (by decide) fun d1 v1 e1 g1 g1'=>?_
 refine vV (fun x=>DOk 2 x.2) (fun j hj=>?_) fun x hx=>?_
 ·dsimp only
  split
  ·grind [yi]
  ·exact hj _ (e1.up (by decide))
 refine vV (fun x:Eff=>x.1=[]/\x.2.1=[]/\x.2.2.2.1.length<=50) (fun j hj=>?_) fun y hy=>?_
 ·grind
 refine yi hx (by decide) (by decide) fun d2 v2 e2 g2 g2'=>?_
 rw[Ok.bind];refine(Ok.loop (fun s:Int×Eff×Drw=>0<=s.1/\s.1<=p.2.1.length/\(s.2.1.1.length<=s.1/\s.2.1.2.1=[]/\s.2.1.2.2.2.1.length<=50)/\DOk (4+2 * s.1) s.2.2) (fun s=>(p.2.1.length-s.1).toNat)
  (P:=fun r:Eff=>r.1.length<=12/\r.2.1=[]/\r.2.2.2.1.length<=50) ?_ ?_).mono fun R hR=>?_
 ·exact⟨by omega,by omega,⟨by grind,hy.2.1,hy.2.2⟩,e2.up (by omega)⟩
 ·rintro⟨i,⟨cu,to,co,ne,u⟩,d⟩ ⟨h1,h2,⟨h3,h4,h5⟩,h6⟩
  dsimp only at h1 h2 h3 h4 h5 h6 |-;split
  ·rename_i hc
   rw[zY,zQ]at hc;refine yi h6 (by decide) (by omega) fun d4 v4 e4 g4 g4'=>?_
   dsimp only;refine YP h1 (by rw[hp.2.2];exact hc) fun z _=>?_
   refine vV (fun x=>DOk (4+2 * (i+1)) x.2) (fun j hj=>?_) fun x hx=>?_
   ·skip
    split
    ·refine vV (fun x=>DOk (4+2 * (i+1)) x.2) (fun j' hj'=>?_) fun x hx=>hj _ hx
     skip
     split
     ·grind [yi]
     ·exact hj' _ (e4.up (by omega))
    ·exact hj _ (e4.up (by omega))
   ·refine vV (fun x:Eff=>x.1.length<=i+1/\x.2.1=[]/\x.2.2.2.1.length<=50) (fun j hj=>?_) fun y hy=>?_
    ·skip
     split
     ·refine YP h1 hc fun c hcc=>?_
      obtain⟨m1,m2⟩:=hp.1.2 c hcc;grind [zp]
     grind
    grind [Ok.pure]
  grind [Ok.pure]
 refine vV (fun x:Eff=>x.1.length<=50/\x.2.1.length<=50/\x.2.2.2.1.length<=50) (fun j hj=>?_) fun y hy=>?_
 ·dsimp only
  split
  ·refine KO ⟨by grind [ZR],by grind [ZR],by grind⟩ fun ys sQ=>?_
   refine lX hp fun C hC=>?_
   have n8:=hR.1;refine zp (by grind) ?_
   grind
  grind
 refine vV (fun x:Eff=>x.1.length<=50/\x.2.1.length<=50/\x.2.2.2.1.length<=50) (fun j hj=>?_) fun y hy=>?_
 ·grind [KO,ZR,lX]
 rw[Ok.pure];exact hy
theorem ph{p:Part}{x1:List Int}{x2:Int}{f:Eff×Unit->Comp α}{P:α->Prop}(hp:ZW p)(k:∀e:Eff,nu e->Ok (f (e,())) P):Ok ((vF p x1 x2).bind f) P:=by
 rw[Ok.bind];exact(ML hp).mono fun r hr=>k r.1 hr
structure JobOk(j:Job):Prop where
 p:ZW j.1
 e:∀x∈j.2.2.1,nu x
 n:j.2.2.1.length<=8
 v:PcV j.1 j.2.1
theorem nu.sm{x:Eff}(h:nu x):SmE x:=⟨zLg h.1 (by decide),zLg h.2.1 (by decide),zLg h.2.2 (by decide)⟩
theorem ZW.w{p:Part}(h:ZW p):p.2.2.1.length<9223372036854775807:=by rw[h.2.2];have:=h.1.1;omega
theorem MZ{j:Job}{P:Int×Unit->Prop}(hj:JobOk j)(k:P (ckJ j,())):Ok (yx j) P:=(Ok.zr (YD hj.p.w fun x hx=>(hj.e x hx).sm)).2 k
theorem V0(x0:List (List Int)):Ok (j8 x0) fun r=>JobOk r.1/\1<=r.1.2.2.1.length:=by
 unfold j8;refine KO ⟨by decide,by grind [ZR],by grind [ZR]⟩ fun x hx=>?_
 rw[Ok.bind];refine(Nl x).mono ?_;rintro⟨p,u⟩ ⟨hp,iZ⟩;rw[Ok.bind];refine(Vs hp).mono ?_;rintro⟨pc,u'⟩ hpc;dsimp only at hp iZ hpc |-;subst hpc;have hp0:=And.intro hp (PcV.new iZ)
 refine vV (fun y:Job=>(ZW y.1/\PcV y.1 y.2.1)/\y.2.2.1=[]) (fun j hj=>?_) fun y hy=>?_
 ·skip
  split
  ·rename_i hc
   rw[Jv,zQ]at hc;refine YP (by decide) (by omega) fun d hd=>?_
   refine yi (d0 d) (by decide) (by decide) fun d1 v1 e1 g1 g1'=>?_
   refine vV (fun y:Job=>(ZW y.1/\PcV y.1 y.2.1)/\y.2.2.1=[]) (fun j' hj'=>?_) fun y hy=>hj _ hy
   dsimp only;split
   ·obtain⟨d2,hd2⟩:=zK (xs:=x0) (k:=2) (by omega)
    rw[Ok.bind,Ok.idx (by decide) hd2,Ok.bind,Ok.idx (by decide) hd2]
    refine KO ⟨by grind [ZR],by grind [ZR],by grind⟩ fun ys sQ=>?_
    refine lX hp fun C hC=>?_
    rw[Ok.zI (Db hp.w (by grind) (by decide))]
    refine vV (fun y:Job=>(ZW y.1/\PcV y.1 y.2.1)/\y.2.2.1=[]) (fun j'' hj''=>?_) fun y hy=>hj' _ hy
    split
    ·rename_i he
     exact hj'' _ ⟨⟨hp,(zEU (by grind)).1⟩,rfl⟩
    grind
   grind
  grind
 rw[Ok.bind];refine(Ok.loop (fun s:Int×Job=>3<=s.1/\s.1<=7/\(ZW s.2.1/\PcV s.2.1 s.2.2.1)/\(∀x∈s.2.2.2.1,nu x)/\(s.2.2.2.1.length:Int)=s.1-3) (fun s=>(7-s.1).toNat)
  (P:=fun r:Job=>JobOk r/\r.2.2.1.length<=4) ?_ ?_).mono fun R hR=>?_
 ·grind
 ·rintro⟨i,p',pc',es,u''⟩ ⟨h1,h2,h3,h4,h5⟩
  dsimp only at h1 h2 h3 h4 h5 |-;split
  ·rename_i hc
   obtain⟨c1,c2⟩:=nV hc;rw[zY]at c1 c2;rw[zQ]at c1;refine YP (by omega) c1 fun d hd=>?_
   refine ph hp fun e he=>?_
   grind [zp,Ok.pure]
  ·rw[Ok.pure]
   exact⟨⟨h3.1,h4,by grind,h3.2⟩,by grind⟩
 refine vV (fun y:Job=>JobOk y/\1<=y.2.2.1.length) (fun j hj=>?_) fun y hy=>?_
 ·skip
  split
  ·refine ph hp fun e he=>?_
   have:=hR.2;refine zp (by grind) ?_
   refine hj _ ⟨⟨hR.1.p,fun x hx=>?_,?_,hR.1.v⟩,?_⟩
   ·grind
   ·grind
   grind
  grind
 rw[Ok.bind];refine(Ok.loop (fun s:Job=>JobOk s/\1<=s.2.2.1.length) (fun s=>s.2.2.1.length)
  (P:=fun r:Job=>JobOk r/\1<=r.2.2.1.length) hy ?_).mono fun R hR=>?_
 ·rintro⟨p',pc',es,u''⟩ ⟨hs,aW⟩
  have hn:=hs.n;dsimp only at hs aW hn |-;rw[Ok.bind];have fin:∀x7:Int×Unit,Ok (if sel (gtI (zD es) 1) (eqI x7.1 2) false=true then jn (fun x:Job=>Comp.pure (Comp.Step.next (x.1,x.2.1,x.2.2.1,()))) fun j=>(sub es 0 (vu .i64 (zD es) 1)).bind fun ys=>j (p',pc',ys,()) else Comp.pure (Comp.Step.done (p',pc',es,())))
    (fun t:Comp.Step Job Job=>match t with|.next s'=>(JobOk s'/\1<=s'.2.2.1.length)/\s'.2.2.1.length<es.length|.done r=>JobOk r/\1<=r.2.2.1.length):=by
   intro x7;split
   ·rename_i hc
    obtain⟨c1,c2⟩:=nV hc;rw[Jv,zQ]at c1;rw[zQ,Jg (by omega)]
    refine vV (fun y:Job=>(JobOk y/\1<=y.2.2.1.length)/\y.2.2.1.length<es.length) (fun j hj=>?_) fun y hy=>?_
    ·show Ok ((sub es 0 ((es.length:Int)-1)).bind fun ys=>j (p',pc',ys,())) _
     rw[Ok.bind,Ok.sub (by omega)]
     refine hj _ ⟨⟨⟨hs.p,fun x hx=>hs.e x (List.mem_of_mem_take (List.mem_of_mem_drop hx)),?_,hs.v⟩,?_⟩,?_⟩
     ·grind
     ·grind
     grind
    grind [Ok.pure]
   grind [Ok.pure]
  refine Ok.jg (fun _=>MZ ⟨hs.p,hs.e,hs.n,hs.v⟩ ?_) (fun _=>?_)
  ·refine(fin _).mono fun t ht=>?_
   grind
  ·refine(fin _).mono fun t ht=>?_
   grind
 grind [Ok.pure]
theorem JobOk.sm{j:Job}(h:JobOk j):SmJ j:=⟨h.p.w,fun x hx=>(h.e x hx).sm,zLg h.n (by decide)⟩
theorem R2{n:Nat}:∀ {L:List Eff} {k:Nat},efs n L k=0->∀x∈L,1<=x.2.2.1/\x.2.2.1<=1048576
 | [],_,_,x,hx=>by cases hx
 |y::L,k,h,x,hx=>by
  unfold efs at h;split at h
  ·rename_i h1
   rcases zLd.1 hx with e|e
   ·grind [eE]
   ·exact R2 h x e
  omega
theorem QY{j:Job}(h:ckJ j=0):∀x∈j.2.2.1,1<=x.2.2.1/\x.2.2.1<=1048576:=by
 unfold ckJ at h;split at h
 ·split at h
  ·cases h
  ·split at h
   ·rename_i h1;exact R2 h1
   omega
 omega
def z8:List Bool:=[false,false,false,false,false,false,false,false]
def B8(s:List Bool)(k:Nat):Bool:=s.getD k false
def m8(g:Nat->Bool):List Bool:=(List.range 8).map g
theorem gI(g:Nat->Bool):(m8 g).length=8:=by simp[m8]
theorem zDm{g:Nat->Bool}{k:Nat}(h:k<8):(m8 g)[k]?=some (g k):=by simp[m8,h]
theorem X7{g:Nat->Bool}{k:Nat}(h:k<8):B8 (m8 g) k=g k:=by grind [B8,zDm]
theorem XN{s:List Bool}(hs:s.length=8){k:Nat}(h:k<8):s[k]?=some (B8 s k):=by
 grind [B8]
theorem XR{s:List Bool}(hs:s.length=8){k:Nat}(h:8<=k):B8 s k=false:=by
 grind [B8]
theorem UW{s t:List Bool}(hs:s.length=8)(ht:t.length=8)(h:∀k,k<8->B8 s k=B8 t k):s=t:=by
 refine List.ext_getElem? fun k=>?_
 grind [XN]
theorem jT{s:List Bool}(hs:s.length=8){i:Nat}(hi:i<8)(v:Bool)(k:Nat):B8 (s.set i v) k=if k=i then v else B8 s k:=by
 unfold B8;grind
theorem Ey{g:Nat->Bool}{i:Nat}(hi:i<8):(m8 fun k=>decide (k<i) && g k).set i (g i)=m8 fun k=>decide (k<i+1) && g k:=by
 refine UW (by simp[gI]) (gI _) fun k hk=>?_
 rw[jT (gI _) hi,X7 hk,X7 hk];grind
theorem SH{g:Nat->Bool}:z8=m8 fun k=>decide (k<0) && g k:=rfl
theorem ZP(xs:List α)(k:Nat)(v:α):jy xs (k:Int) v=xs.set k v:=rfl
theorem lE{xs ys:List Bool}:(eqA (fun a b=>eqB a b) xs ys=true)↔xs=ys:=by
 induction xs generalizing ys with
 |nil=>grind [eqA]
 |cons x xs ih =>
  cases ys with
  |nil=>simp[eqA]
  |cons y ys =>
   grind [eqA,eqB]
def sl(s:List Bool):List Nat:=(List.range 8).filter (B8 s)
def slI(s:List Bool):List Int:=(sl s).map fun k:Nat=>(k:Int)
theorem jk{s:List Bool}{k:Nat}:k∈sl s↔k<8/\B8 s k=true:=by simp[sl]
theorem Eb(s:List Bool):(sl s).length<=8:=by
 grind [sl]
theorem YT(s:List Bool):(slI s).length<=8:=by grind [slI,Eb]
theorem JK{s:List Bool}(hs:s.length=8):(vv s).val=some (slI s,()):=by
 unfold vv;refine Ok.val ?_;rw[Ok.bind];refine(Ok.count 8 (fun i (x:List Int×Int)=>x.2=(i:Int)/\x.1=((List.range i).filter (B8 s)).map fun k:Nat=>(k:Int)) (P:=fun r=>r=slI s) ⟨rfl,rfl⟩ ?_ ?_).mono fun r hr=>by rw[Ok.pure,hr]
 ·rintro i ⟨l,n⟩ hi ⟨h1,h2⟩
  dsimp only at h1 h2;subst h1 h2;have fG:=List.length_filter_le (B8 s) (List.range i)
  rw[List.length_range]at fG;rw[zLz (by grind),Ok.bind,Ok.gz (XN hs hi)]
  refine vV (fun y=>y=((List.range (i+1)).filter (B8 s)).map fun k:Nat=>(k:Int)) (fun j hj=>?_) fun y hy=>?_
  ·grind [zp,List.range_succ]
  grind [Ok.pure]
 ·rintro⟨l,n⟩ ⟨h1,h2⟩
  dsimp only at h1 h2;subst h1 h2;rw[zMA (by grind),Ok.pure]
  rfl
def cst(L:List Eff)(l:List Nat):Int:=(l.map fun k:Nat=>(opn L (k:Int)).2.2.1).sum
theorem WJ(L:List Eff)(l m:List Nat):cst L (l++m)=cst L l+cst L m:=by simp[cst]
theorem E6{L:List Eff}{m:Int}:∀ {l:List Nat},(∀k∈l,1<=(opn L (k:Int)).2.2.1/\(opn L (k:Int)).2.2.1<=m)->0<=cst L l/\cst L l<=l.length * m
 | [],_=>by simp[cst]
 |k::l,h=>by
  have h1:=E6 (l:=l) fun j hj=>h j (by grind)
  have h2:=h k (by simp)
  have:cst L (k::l)=(opn L (k:Int)).2.2.1+cst L l:=by simp[cst]
  rw[this,zLh];grind
def zIG(L:List Eff):Prop:=∀k:Nat,k<L.length->1<=(opn L (k:Int)).2.2.1/\(opn L (k:Int)).2.2.1<=1048576
theorem qd{j:Job}{sp s:List Bool}(hs:s.length=8)(fE:∀k,B8 s k=true->k<j.2.2.1.length)(hc:zIG j.2.2.1):(vW (j,sp,()) s).val=some (cst j.2.2.1 (sl s),()):=by
 unfold vW;refine Ok.val ?_;rw[Ok.zI (JK hs)];dsimp only;rw[Ok.bind];have n7:=YT s
 refine(Ok.count (slI s).length (fun i (x:Int×Int)=>x.2=(i:Int)/\x.1=cst j.2.2.1 ((sl s).take i)) (P:=fun r=>r=cst j.2.2.1 (sl s)) ⟨rfl,by simp[cst]⟩ ?_ ?_).mono fun r hr=>by rw[Ok.pure,hr]
 ·rintro i ⟨c,n⟩ hi ⟨h1,h2⟩
  dsimp only at h1 h2;subst h1 h2;obtain⟨k,hk⟩:=zK (xs:=sl s) (k:=i) (by grind [slI])
  have xB:(slI s)[i]?=some (k:Int):=by grind [slI]
  have dJ:=jk.1 (zLe hk);have aL:=fE k dJ.2
  rw[zLz (by grind),Ok.bind,Ok.gz xB,Ok.bind,Ok.zr (Jp ⟨by omega,by omega⟩),Ok.pure]
  refine⟨zJ (by omega),?_⟩
  have ht:(sl s).take (i+1)=(sl s).take i++[k]:=by grind [List.take_add_one]
  have hb:=E6 (L:=j.2.2.1) (m:=1048576) (l:=(sl s).take i) fun q hq=>hc q (fE q (jk.1 (List.mem_of_mem_take hq)).2)
  have gF:((sl s).take i).length<=8:=by grind
  have hck:=hc k aL;rw[ht,WJ];grind [cst]
 simp[zY,zQ,Ok.pure,slI]
def rs(n:Nat)(sp out:List Bool):List Bool:=m8 fun k=>decide (k<n) && (!B8 out k && !B8 sp k)
def zAQ(L:List Eff):Prop:=∀k:Nat,∀q∈(opn L (k:Int)).2.2.2.1,0<=q/\q<L.length
def YQ(L:List Eff)(s:List Bool):Prop:=∀k:Nat,B8 s k=true->∀q∈(opn L (k:Int)).2.2.2.1,B8 s q.toNat=true
def jK(s t:List Bool):Prop:=∀k,B8 s k=true->B8 t k=true
theorem jK.refl(s:List Bool):jK s s:=fun _ h=>h
theorem jK.trans{s t u:List Bool}(h:jK s t)(k:jK t u):jK s u:=fun i hi=>k i (h i hi)
theorem jK.eq{s t:List Bool}(hs:s.length=8)(ht:t.length=8)(h:jK s t)(k:jK t s):s=t:=UW hs ht fun i _=>by rw[Bool.eq_iff_iff];exact⟨h i,k i⟩
theorem zBR{s t:List Bool}(h:jK s t):sl s=(sl t).filter (B8 s):=by
 unfold sl;rw[List.filter_filter];refine List.filter_congr fun i _=>?_
 cases hs:B8 s i with
 |true=>rw[h i hs];rfl
 |false=>rfl
theorem GW{s t:List Bool}(hs:s.length=8)(ht:t.length=8)(h:jK s t)(fD:s≠t):(sl s).length<(sl t).length:=by
 rw[zBR h,List.length_filter_lt_length_iff_exists];by_cases he:∃x∈sl t,¬B8 s x=true
 ·exact he
 ·refine zLp (jK.eq hs ht h fun k hk=>?_) fD
  grind [jk,XR]
theorem Ck{n:Nat}{sp out:List Bool}{k:Nat}(h:B8 (rs n sp out) k=true):k<n/\B8 out k=false/\B8 sp k=false:=by
 grind [rs,X7,XR,gI]
theorem zFW{n:Nat}{sp out:List Bool}{k:Nat}(hn:n<=8)(h:k<n/\B8 out k=false/\B8 sp k=false):B8 (rs n sp out) k=true:=by
 grind [rs,X7]
structure RestOk(L:List Eff)(sp out s:List Bool):Prop where
 len:s.length=8
 sub:jK s (rs L.length sp out)
 cl:YQ L s
 most:∀t,jK t (rs L.length sp out)->YQ L t->jK t s
theorem Gf{j:Job}{sp out:List Bool}(bI:sp.length=8)(ho:out.length=8)(hn:j.2.2.1.length<=8)(sA:zAQ j.2.2.1)(dE:∀k:Nat,(opn j.2.2.1 (k:Int)).2.2.2.1.length<9223372036854775807):Ok (jr (j,sp,()) out) fun r=>RestOk j.2.2.1 sp out r.1:=by
 unfold jr;dsimp only;rw[Ok.bind];refine(Ok.count j.2.2.1.length (fun i (x:Int×List Bool)=>x.1=(i:Int)/\x.2=m8 fun k=>decide (k<i) && (!B8 out k && !B8 sp k)) (P:=fun r=>r=rs j.2.2.1.length sp out) ⟨rfl,rfl⟩ ?_ ?_).mono fun r hr=>?_
 ·rintro i ⟨n,s⟩ hi ⟨h1,h2⟩
  dsimp only at h1 h2;subst h1 h2;rw[zLz (by grind),Ok.bind,Ok.gz (XN ho (by omega)),Ok.bind]
  have hg:Ok (Comp.gd (ntB (B8 out i)) (idx sp (i:Int)) false) fun b=>sel (ntB (B8 out i)) (ntB b) false=(!B8 out i && !B8 sp i):=by
   cases hb:B8 out i with
   |true=>exact Ok.jg (fun h=>nomatch h) fun _=>rfl
   |false=>exact Ok.jg (fun _=>(Ok.gz (XN bI (by omega))).2 (by cases B8 sp i<;>rfl)) fun h=>nomatch h
  refine hg.mono fun b hb=>?_
  rw[Ok.zI (ga ⟨by omega,by omega⟩),Ok.pure]
  refine⟨zJ (by omega),?_⟩
  dsimp only;rw[hb,ZP];exact Ey (g:=fun k=>!B8 out k && !B8 sp k) (by omega)
 ·rintro⟨n,s⟩ ⟨h1,h2⟩
  dsimp only at h1 h2;subst h1 h2;rw[zMA (by grind),Ok.pure];rfl
 ·subst hr
  rw[Ok.bind];have hl:(rs j.2.2.1.length sp out).length=8:=gI _
  have fE:∀k,B8 (rs j.2.2.1.length sp out) k=true->k<j.2.2.1.length:=fun k hk=>(Ck hk).1
  generalize hrs:rs j.2.2.1.length sp out=s0 at hl fE;refine(Ok.loop (fun x:List Bool×List Bool=>x.2.length=8/\jK x.2 s0/\(∀t,jK t s0->YQ j.2.2.1 t->jK t x.2)/\(x.1=x.2->YQ j.2.2.1 x.2)) (fun x=>2 * (sl x.2).length+if x.1=x.2 then 0 else 1) (P:=fun r=>RestOk j.2.2.1 sp out r) ⟨hl,jK.refl _,fun t h _=>h,fun h=>?_⟩ ?_).mono fun r hr=>by grind [Ok.pure]
  ·intro k hk
   have hz:B8 z8 k=true:=by grind [z8]
   exfalso;by_cases h8:k<8
   ·rw[SH (g:=fun _=>true),X7 h8]at hz;grind
   grind
  rintro⟨l,s⟩ ⟨h1,h2,h3,h4⟩;dsimp only at h1 h2 h3 h4;by_cases he:l=s
  ·subst he
   rw[zMA (by rw[yS,lE.2 rfl];simp),Ok.pure]
   exact⟨h1,by grind,h4 rfl,fun t ht hc=>h3 t (by grind) hc⟩
  ·rw[zLz (by grind [lE]),Ok.zI (JK h1)]
   dsimp only;rw[Ok.bind]
   have hA8:Ok (Comp.loop (fun (x_2:Int×List Bool)=>if ltI x_2.1 (zD (slI s))=true then (idx (slI s) x_2.1).bind fun x=>(idx j.2.2.1 x).bind fun x_3=>(zh x_3.2.2.2.1 fun (z:Int×Unit)=>yw z.1 x_2.2).bind fun x_4=>(inb 8 x).bind fun x_5=>.pure (.next (zG .i64 x_2.1 1,jy x_2.2 x (ntB x_4.1))) else .pure (.done x_2.2)) (0,s)) fun r=>r.length=8/\jK r s/\(∀t,jK t s->YQ j.2.2.1 t->jK t r)/\∀k,B8 s k=true->B8 r k=true->∀q∈(opn j.2.2.1 (k:Int)).2.2.2.1,B8 s q.toNat=true:=by
    have n7:=YT s;refine Ok.count (slI s).length (fun i (x:Int×List Bool)=>x.1=(i:Int)/\x.2.length=8/\jK x.2 s/\(∀t,jK t s->YQ j.2.2.1 t->jK t x.2)/\∀k,k∈(sl s).take i->B8 x.2 k=true->∀q∈(opn j.2.2.1 (k:Int)).2.2.2.1,B8 s q.toNat=true) ⟨rfl,h1,jK.refl _,fun t h _=>h,fun k hk=>by grind⟩ ?_ ?_
    ·rintro i ⟨n,t⟩ hi ⟨q1,q2,q3,q4,q5⟩
     dsimp only at q1 q2 q3 q4 q5;subst q1;obtain⟨k,hk⟩:=zK (xs:=sl s) (k:=i) (by grind [slI])
     have xB:(slI s)[i]?=some (k:Int):=by grind [slI]
     have dJ:=jk.1 (zLe hk);have aL:=fE k (h2 k dJ.2)
     rw[zLz (by grind),Ok.bind,Ok.gz xB,Ok.bind,Ok.zr (Jp ⟨by omega,by omega⟩)]
     have hc:(zh (opn j.2.2.1 (k:Int)).2.2.2.1 fun (z:Int×Unit)=>yw z.1 t).val=some ((opn j.2.2.1 (k:Int)).2.2.2.1.any fun q=>!B8 t q.toNat,()):=by
      refine Z0 (xs:=(opn j.2.2.1 (k:Int)).2.2.2.1) (f:=fun z=>yw z.1 t) (p:=fun q=>!B8 t q.toNat) (dE k) fun q hq=>?_
      have:=sA k q hq;show (yw q t).val=_
      unfold yw;rw[zA,Yq this.1 (XN q2 (by omega)),zLX,Comp.zB,yS]
     rw[Ok.zI hc,Ok.zI (ga ⟨by omega,by omega⟩),Ok.pure]
     have hany:∀ {v:Bool},(!((opn j.2.2.1 (k:Int)).2.2.2.1.any fun q=>!B8 t q.toNat))=true↔∀q∈(opn j.2.2.1 (k:Int)).2.2.2.1,B8 t q.toNat=true:=by
      simp
     refine⟨zJ (by omega),by grind [ZP],?_,?_,?_⟩
     ·intro p hp
      dsimp only at hp;rw[ZP,jT q2 dJ.1]at hp;split at hp
      ·grind
      ·exact q3 p hp
     ·intro u hu xO p hp
      dsimp only;rw[ZP,jT q2 dJ.1];split
      ·rename_i e
       subst e;rw[yS];exact(hany (v:=true)).2 fun q hq=>q4 u hu xO _ (xO p hp q hq)
      ·exact q4 u hu xO p hp
     ·intro p hp hb q hq
      dsimp only at hb;rw[ZP,jT q2 dJ.1]at hb;split at hb
      ·rename_i e
       subst e;rw[yS]at hb;exact q3 _ ((hany (v:=true)).1 hb q hq)
      ·rename_i e
       rw[List.take_add_one,hk]at hp;grind
    ·rintro⟨n,t⟩ ⟨q1,q2,q3,q4,q5⟩
     dsimp only at q1 q2 q3 q4 q5;subst q1;rw[zMA (by grind),Ok.pure]
     refine⟨q2,q3,q4,fun k hk hb=>q5 k ?_ hb⟩
     grind [slI,jk,XR]
   refine hA8.mono ?_;rintro r ⟨r1,r2,r3,r4⟩;rw[Ok.pure];refine⟨⟨r1,r2.trans h2,fun t ht hc=>r3 t (h3 t ht hc) hc,fun e k hk=>?_⟩,?_⟩
   ·grind
   ·dsimp only
    rw[zMA he];by_cases e:s=r
    ·grind
    ·rw[zMA e]
     have:=GW r1 h1 r2 (fun h=>e h.symm)
     omega
def alw(L:List Eff)(sp s:List Bool):Bool:=(List.range 8).all fun k=>!B8 s k || ((decide (k<L.length) && !B8 sp k) && (opn L (k:Int)).2.2.2.1.all fun q=>B8 s q.toNat)
theorem Wj{L:List Eff}{sp s:List Bool}(hs:s.length=8):alw L sp s=true↔(∀k,B8 s k=true->k<L.length/\B8 sp k=false)/\YQ L s:=by
 unfold alw;rw[zME];refine⟨fun h=>?_,fun h k _=>?_⟩
 ·have key:∀k,B8 s k=true->(k<L.length/\B8 sp k=false)/\∀q∈(opn L (k:Int)).2.2.2.1,B8 s q.toNat=true:=fun k hk=>by
   grind [XR]
  exact⟨fun k hk=>(key k hk).1,fun k hk=>(key k hk).2⟩
 ·cases hb:B8 s k with
  |false=>rfl
  |true =>
   obtain⟨h1,h2⟩:=h.1 k hb;have h3:=h.2 k hb
   grind
theorem uA{j:Job}{sp s:List Bool}(bI:sp.length=8)(hs:s.length=8)(hn:j.2.2.1.length<=8)(sA:zAQ j.2.2.1)(dE:∀k:Nat,(opn j.2.2.1 (k:Int)).2.2.2.1.length<9223372036854775807):(vX (j,sp,()) s).val=some (alw j.2.2.1 sp s,()):=by
 unfold vX;dsimp only;refine Ok.val ?_;rw[Ok.bind];refine(Ok.count j.2.2.1.length (fun i (x:Int×List Bool)=>x.1=(i:Int)/\x.2=m8 fun k=>decide (k<i) && !B8 s k) (P:=fun r=>r=m8 fun k=>decide (k<j.2.2.1.length) && !B8 s k) ⟨rfl,rfl⟩ ?_ ?_).mono fun r hr=>?_
 ·rintro i ⟨n,t⟩ hi ⟨h1,h2⟩
  dsimp only at h1 h2;subst h1 h2;rw[zLz (by grind),Ok.bind,Ok.gz (XN hs (by omega)),Ok.zI (ga ⟨by omega,by omega⟩),Ok.pure]
  refine⟨zJ (by omega),?_⟩
  dsimp only;rw[ZP];exact Ey (g:=fun k=>!B8 s k) (by omega)
 ·simp[zY,zQ,Ok.pure]
 ·subst hr
  rw[Ok.bind];refine(Gf bI (gI _) hn sA dE).mono ?_;rintro⟨r,u⟩ hr;rw[Ok.pure];refine Prod.ext ?_ rfl;dsimp only at hr |-;have fE:∀k,B8 (rs j.2.2.1.length sp (m8 fun k=>decide (k<j.2.2.1.length) && !B8 s k)) k=true↔k<j.2.2.1.length/\B8 s k=true/\B8 sp k=false:=fun k=>by
   constructor
   ·intro h
    obtain⟨g1,g2,g3⟩:=Ck h;grind [X7]
   grind [zFW,X7]
  rw[Bool.eq_iff_iff,lE,Wj hs];constructor
  ·intro h
   subst h;exact⟨fun k hk=>by obtain⟨g1,_,g3⟩:=(fE k).1 (hr.sub k hk);grind,hr.cl⟩
  ·rintro⟨h1,h2⟩
   refine jK.eq hr.len hs (fun k hk=>((fE k).1 (hr.sub k hk)).2.1) (hr.most s (fun k hk=>(fE k).2 ⟨(h1 k hk).1,hk,(h1 k hk).2⟩) h2)
def enR(p:Part)(x:vU)(cuts:List Cell):Nat->Nat->Bool×Int
 |_,0=>(true,0)
 |i,m+1=>if wt p i≠2\/x.1.getD i false=true then enR p x cuts (i+1) m else if (cov (nr cuts (cl p i)) (cl p i)).1=true then enR p x cuts (i+1) m else (false,(cov (nr cuts (cl p i)) (cl p i)).2)
def ctS(j:Job)(s:List Bool):List Cell:=j.2.1.2.2.1++(sl s).flatMap fun k:Nat=>(opn j.2.2.1 (k:Int)).1
def enq(j:Job)(s:List Bool):Bool×Int:=enR j.1 j.2.1 (ctS j s) 0 j.1.2.1.length
def enO:Bool×Int->Unit⊕Bool×Int
 |(true,_)=>.inl ()
 |(false,e)=>.inr (false,e)
theorem AG{p:Part}{x:vU}{cuts:List Cell}:∀ {m i:Nat},(enR p x cuts i m).1=true->(enR p x cuts i m).2=0
 |0,_,_=>rfl
 |m+1,i,h=>by
  unfold enR at h |-;split
  ·rename_i h1;rw[zLz h1]at h;exact AG h
  ·rename_i h1
   rw[zMA h1]at h;split
   ·rename_i h2;rw[zLz h2]at h;exact AG h
   grind
def scan(g:Nat->Option ε)(d:ε):Nat->Nat->ε
 |_,0=>d
 |a,m+1=>match g a with
  |some e=>e
  |none=>scan g d (a+1) m
def scS(o:Option ε)(i:Nat):Comp.Step Int ε:=match o with
 |some e=>.done e
 |none=>.next ((i+1:Nat):Int)
theorem BI{body:Int->Comp (Comp.Step Int ε)}(g:Nat->Option ε){d:ε}:∀(m a:Nat),(∀(i:Nat),a<=i->i<a+m->(body (i:Int)).val=some (scS (g i) i))->(body ((a+m:Nat):Int)).val=some (.done d)->(Comp.loop body (a:Int)).val=some (scan g d a m)
 |0,a,hb,he=>by rw[zM];rw[Nat.add_zero]at he;rw[he];rfl
 |m+1,a,hb,he=>by
  have ih:=BI g m (a+1) (fun i h1 h2=>hb i (by omega) (by omega)) (by rw[show a+1+m=a+(m+1) by omega];exact he)
  rw[zM,hb a (zLb _) (by omega)]
  unfold scan
  cases hg:g a with
  |some e=>rfl
  |none=>exact ih
def enG(p:Part)(x:vU)(cuts:List Cell)(i:Nat):Option (Unit⊕Bool×Int):=if wt p i≠2\/x.1.getD i false=true then none else if (cov (nr cuts (cl p i)) (cl p i)).1=true then none else some (.inr (false,(cov (nr cuts (cl p i)) (cl p i)).2))
theorem qa{p:Part}{x:vU}{cuts:List Cell}:∀ {m i:Nat},enO (enR p x cuts i m)=scan (enG p x cuts) (.inl ()) i m
 |0,_=>rfl
 |m+1,i=>by
  have ih:=qa (p:=p) (x:=x) (cuts:=cuts) (m:=m) (i:=i+1);unfold scan enR enG;split
  ·exact ih
  ·split
   ·exact ih
   ·rfl
theorem Dw{j:Job}{sp s:List Bool}(hs:s.length=8)(fE:∀k,B8 s k=true->k<j.2.2.1.length)(hw:j.1.2.2.1.length=j.1.2.1.length)(hx:j.2.1.1.length=j.1.2.1.length)(hpc:j.2.1.2.2.1.length<=1000)(dE:∀x∈j.2.2.1,x.1.length<=100000)(xO:j.1.2.1.length<=1000) :
  (vG (j,sp,()) s).val=some ((enq j s).1,(enq j s).2,()):=by
 unfold vG;dsimp only;refine Ok.val ?_;have hLIM:=GD
 have hcl0:∀ {c:List Cell},c.length<=1000000->(zf c).val=some (c,()):=fun {c} h=>HS (zLg h hLIM)
 rw[Ok.zI (hcl0 (by omega)),Ok.zI (JK hs)]
 dsimp only;rw[Ok.bind];have n7:=YT s
 have hol:∀k:Nat,((opn j.2.2.1 (k:Int)).1).length<=100000:=fun k=>by
  grind [opn]
 have bO:∀l:List Nat,(l.flatMap fun k:Nat=>(opn j.2.2.1 (k:Int)).1).length<=l.length * 100000:=by
  intro l
  induction l with
  |nil=>simp
  |cons k l ih=>grind
 refine(Ok.count (slI s).length (fun i (x:List Cell×Int)=>x.2=(i:Int)/\x.1=j.2.1.2.2.1++((sl s).take i).flatMap fun k:Nat=>(opn j.2.2.1 (k:Int)).1) (P:=fun r=>r=ctS j s) ⟨rfl,by simp⟩ ?_ ?_).mono fun r hr=>?_
 ·rintro i ⟨c,n⟩ hi ⟨h1,h2⟩
  dsimp only at h1 h2;subst h1 h2;obtain⟨k,hk⟩:=zK (xs:=sl s) (k:=i) (by grind [slI])
  have xB:(slI s)[i]?=some (k:Int):=by grind [slI]
  have dJ:=jk.1 (zLe hk);have aL:=fE k dJ.2
  rw[zLz (by grind),Ok.bind,Ok.gz xB,Ok.bind,Ok.zr (Jp ⟨by omega,by omega⟩)]
  have hb:=bO ((sl s).take i);have gF:((sl s).take i).length<=8:=by grind
  have ho:=hol k;refine zp (by grind) ?_
  rw[Ok.pure];refine⟨zJ (by omega),?_⟩
  simp_all [List.take_add_one]
 ·rintro⟨c,n⟩ ⟨h1,h2⟩
  dsimp only at h1 h2;subst h1 h2;rw[zMA (by grind),Ok.pure]
  have:(sl s).take (slI s).length=sl s:=List.take_of_length_le (by simp[slI])
  rw[this];rfl
 ·subst hr
  have xG:(ctS j s).length<=900000:=by
   grind [Eb,ctS]
  generalize hC:ctS j s=C at xG;rw[Ok.bind]
  have h2:∀i:Nat,i<j.1.2.1.length->(if ltI (i:Int) (zD j.1.2.1)=true then jn (fun (x:Unit)=>Comp.pure (Comp.Step.next (zG .i64 (i:Int) 1))) fun (j':Unit->Comp (Comp.Step Int (Unit⊕Bool×Int)))=>(idx j.1.2.1 (i:Int)).bind fun x_2=>(idx j.1.2.2.1 (i:Int)).bind fun x_3=>(Comp.gd (ntB (neI x_3 2)) (idx j.2.1.1 (i:Int)) false).bind fun x_4=>if sel (neI x_3 2) true x_4=true then j' () else (zf C).bind fun y=>(zl y.1 fun (z:Cell×Unit)=>y6 z.1 x_2).bind fun ys=>(ZH ys x_2).bind fun x=>if ntB x.1=true then Comp.pure (Comp.Step.done (Sum.inr (false,x.2.1))) else j' () else Comp.pure (Comp.Step.done (Sum.inl ()))).val=some (scS (enG j.1 j.2.1 C i) i):=by
   intro i hi;obtain⟨c,hc⟩:=zK (xs:=j.1.2.1) (k:=i) (by omega)
   obtain⟨wv,dK⟩:=zK (xs:=j.1.2.2.1) (k:=i) (by omega)
   obtain⟨sv,hsv⟩:=zK (xs:=j.2.1.1) (k:=i) (by omega)
   have ew:wt j.1 i=wv:=by grind [wt,ji]
   have ec:cl j.1 i=c:=by grind [cl,ji]
   have es:j.2.1.1.getD i false=sv:=ji hsv;have hnx:zG .i64 (i:Int) 1=((i+1:Nat):Int):=zJ (by omega)
   rw[zLz (by grind),vo,zA,zO hc,zLX,zA,zO dK,zLX,zA,hnx]
   unfold enG;rw[ew,ec,es];by_cases oD:wv=2
   ·have e1:neI wv 2=false:=by grind
    rw[e1];show Option.bind (idx j.2.1.1 (i:Int)).val _=_
    rw[zO hsv,zLX]
    cases sv with
    |true=>rw[zLz (by rfl),Comp.zB,zLz (.inr rfl)];rfl
    |false =>
     rw[zMA (by grind),zMA (by grind),zA,hcl0 (by omega),zLX,zA]
     have hd:(zl C fun (z:Cell×Unit)=>y6 z.1 c).val=some (nr C c) :=
      HQ (z:=([]:Cell)) (f:=fun z=>y6 z.1 c) (p:=fun q=>apa q c) (by omega) fun q _=>by
       simp[y6,zA,jx]
     rw[hd,zLX,zA,Dz,zLX];dsimp only
     cases lB:(cov (nr C c) c).1 with
     |true=>rw[zMA (by grind),Comp.zB,zLz rfl];rfl
     |false=>rw[zLz (by rfl),Comp.zB,zMA (by simp)];rfl
   ·have e1:neI wv 2=true:=by grind
    rw[e1];show Option.bind (Comp.pure false).val _=_
    rw[Comp.zB,zLX,zLz (by rfl),Comp.zB,zLz (.inl oD)];rfl
  refine⟨enO (enq j s),?_,?_⟩
  ·have e:enO (enq j s)=scan (enG j.1 j.2.1 C) (.inl ()) 0 j.1.2.1.length:=by unfold enq;grind [qa]
   rw[e];show (Comp.loop _ ((0:Nat):Int)).val=_
   refine BI _ _ _ (fun i _ hi=>h2 i (by omega)) ?_
   simp[zY,zQ]
  ·cases hq:enq j s with
   |mk b e =>
    have:=@AG j.1 j.2.1 (ctS j s) j.1.2.1.length 0
    change (enq j s).1=true->(enq j s).2=0 at this
    rw[hq]at this
    cases b with
    |true=>have he:e=0:=this rfl;subst he;exact(Ok.pure (P:=fun x=>x=(true,(0:Int),()))).2 rfl
    |false=>exact(Ok.pure (P:=fun x=>x=(false,e,()))).2 rfl
def kp(p:Part):List Cell:=((List.range p.2.1.length).filter fun i=>decide (wt p i=1)).map (cl p)
def spk(K:List Cell)(e:Eff):Bool:=(e.1.any fun c=>!sap c K) || e.2.1.any fun c=>!sap c K
def bgn(j:Job):List Bool:=m8 fun k=>decide (k<j.2.2.1.length) && spk (kp j.1) (opn j.2.2.1 (k:Int))
theorem wX{j:Job}(hw:j.1.2.2.1.length=j.1.2.1.length)(xO:j.1.2.1.length<=1000)(hn:j.2.2.1.length<=8)(dE:∀x∈j.2.2.1,x.1.length<=100000/\x.2.1.length<=100000):(kj j).val=some ((j,bgn j,()),()):=by
 unfold kj;refine Ok.val ?_;rw[Ok.bind];refine(Ok.count j.1.2.1.length (fun i (x:Int×List Cell)=>x.1=(i:Int)/\x.2=((List.range i).filter fun i=>decide (wt j.1 i=1)).map (cl j.1)) (P:=fun r=>r=kp j.1) ⟨rfl,rfl⟩ ?_ ?_).mono fun K hK=>?_
 ·rintro i ⟨n,s⟩ hi ⟨h1,h2⟩
  dsimp only at h1 h2;subst h1 h2;obtain⟨c,hc⟩:=zK (xs:=j.1.2.1) (k:=i) hi;obtain⟨wv,dK⟩:=zK (xs:=j.1.2.2.1) (k:=i) (by omega)
  have ew:wt j.1 i=wv:=by grind [wt]
  have ec:cl j.1 i=c:=by grind [cl]
  have fG:=List.length_filter_le (fun i=>decide (wt j.1 i=1)) (List.range i)
  rw[List.length_range]at fG;have hr:((List.range (i+1)).filter fun i=>decide (wt j.1 i=1)).map (cl j.1)=((List.range i).filter fun i=>decide (wt j.1 i=1)).map (cl j.1)++if wv=1 then [c] else []:=by
   grind [List.range_succ]
  rw[zLz (by grind),Ok.bind,Ok.gz hc,Ok.bind,Ok.gz dK]
  refine vV (fun y=>y=((List.range (i+1)).filter fun i=>decide (wt j.1 i=1)).map (cl j.1)) (fun j' hj=>?_) fun y hy=>?_
  ·split
   ·rename_i hb
    rw[Z6]at hb;refine zp (by grind) (hj _ ?_)
    grind
   grind
  grind [Ok.pure]
 ·rintro⟨n,s⟩ ⟨h1,h2⟩
  dsimp only at h1 h2;subst h1 h2;rw[zMA (by grind),Ok.pure];rfl
 ·subst hK
  have aL:(kp j.1).length<=1000:=by
   grind [kp]
  have hm:∀c:Cell,(vw c (kp j.1)).val=some (!sap c (kp j.1),()):=fun c=>by
   grind [vw,zA,Xn,Comp.zB]
  have hcf:∀l:List Cell,l.length<=100000->(zH l fun (z:Cell×Unit)=>vw z.1 (kp j.1)).val=some (l.any fun c=>!sap c (kp j.1),()):=fun l hl=>Z0 (xs:=l) (f:=fun z=>vw z.1 (kp j.1)) (p:=fun c=>!sap c (kp j.1)) (by omega) fun c _=>hm c
  rw[Ok.bind];refine(Ok.count j.2.2.1.length (fun i (x:Int×Job×List Bool×Unit)=>x=((i:Int),j,(m8 fun k=>decide (k<i) && spk (kp j.1) (opn j.2.2.1 (k:Int))),())) (P:=fun r=>r=(j,bgn j,())) rfl ?_ ?_).mono fun r hr=>by rw[Ok.pure,hr]
  ·rintro i x hi rfl
   dsimp only;obtain⟨e,he⟩:=zK (xs:=j.2.2.1) (k:=i) hi;have heo:opn j.2.2.1 (i:Int)=e:=by unfold opn;exact ji he
   obtain⟨s1,s2⟩:=dE e (zLe he);rw[zLz (by grind),Ok.bind,Ok.gz he,Ok.zI (hcf e.1 s1),Ok.bind]
   dsimp only;have hg:Ok (Comp.gd (ntB (e.1.any fun c=>!sap c (kp j.1))) (zH e.2.1 fun (z:Cell×Unit)=>vw z.1 (kp j.1)) (false,())) fun b=>sel (e.1.any fun c=>!sap c (kp j.1)) true b.1=spk (kp j.1) e:=by
    unfold spk
    cases hb:(e.1.any fun c=>!sap c (kp j.1)) with
    |true=>exact Ok.jg (fun h=>nomatch h) fun _=>rfl
    |false=>exact Ok.jg (fun _=>(Ok.zr (hcf e.2.1 s2)).2 rfl) fun h=>nomatch h
   refine hg.mono fun b hb=>?_
   rw[Ok.zI (ga ⟨by omega,by omega⟩),Ok.pure]
   show _=_
   rw[hb,ZP,<-heo,Ey (g:=fun k=>spk (kp j.1) (opn j.2.2.1 (k:Int))) (by omega),zJ (by omega)]
  ·rintro x rfl
   dsimp only;rw[zMA (by grind),Ok.pure];rfl
structure PlOk(j:Job):Prop where
 w:j.1.2.2.1.length=j.1.2.1.length
 x:j.2.1.1.length=j.1.2.1.length
 pc:j.2.1.2.2.1.length<=1000
 sm:∀x∈j.2.2.1,x.1.length<=100000/\x.2.1.length<=100000
 cl:j.1.2.1.length<=1000
 n:j.2.2.1.length<=8
 nd:zAQ j.2.2.1
 ns:∀k:Nat,(opn j.2.2.1 (k:Int)).2.2.2.1.length<9223372036854775807
 cs:zIG j.2.2.1
def Bel(s:List Bool)(k:Nat):Prop:=s.length=8/\∀i,B8 s i=true->i<k
theorem Bel.set{s:List Bool}{k:Nat}(h:Bel s k)(hk:k<8):Bel (s.set k true) (k+1):=⟨by simp[h.1],fun i hi=>by
 rw[jT h.1 hk]at hi;split at hi
 ·omega
 ·have:=h.2 i hi;omega⟩
theorem Bel.le{s:List Bool}{k m:Nat}(h:Bel s k)(hm:k<=m):Bel s m:=⟨h.1,fun i hi=>zLm (h.2 i hi) hm⟩
theorem RestOk.bel{L:List Eff}{sp out s:List Bool}(h:RestOk L sp out s):Bel s L.length:=⟨h.len,fun i hi=>(Ck (h.sub i hi)).1⟩
def tz:Nat->Nat
 |0=>1
 |d+1=>2 * tz d+1
theorem EU:∀d,1<=tz d
 |0=>zLb _
 |d+1=>by grind [tz]
theorem Jf:Bel z8 0:=⟨rfl,fun i hi=>by
 by_cases h8:i<8
 ·rw[SH (g:=fun _=>true),X7 h8]at hi;grind
 ·rw[XR rfl (by omega)]at hi;cases hi⟩
section
variable {j:Job} (hj:PlOk j)
include hj
theorem PlOk.E4{sp s:List Bool}(hs:Bel s j.2.2.1.length):(vG (j,sp,()) s).val=some ((enq j s).1,(enq j s).2,()) :=
 Dw hs.1 hs.2 hj.w hj.x hj.pc (fun x hx=>(hj.sm x hx).1) hj.cl
end
theorem AO{k:α->Comp β}{b:(α->Comp β)->Comp β}{P:β->Prop}(h:Ok (b k) P):Ok (jn k b) P:=h
def Fnd(j:Job)(sp:List Bool)(b:Int)(f:List Bool):Prop:=b = -1\/(Bel f j.2.2.1.length/\alw j.2.2.1 sp f=true/\(enq j f).1=true/\b=cst j.2.2.1 (sl f))
def Bst(j:Job)(sp:List Bool)(b:Int)(T:List Bool->Prop):Prop:=∀t,Bel t j.2.2.1.length->alw j.2.2.1 sp t=true->T t->(enq j t).2=0/\((enq j t).1=true->0<=b/\b<=cst j.2.2.1 (sl t))
def UF(j:Job)(sp:List Bool)(e:Int):Prop:=e≠0/\∃t,Bel t j.2.2.1.length/\alw j.2.2.1 sp t=true/\e=(enq j t).2
def Agr(s t:List Bool)(k:Nat):Prop:=∀i,i<k->B8 t i=B8 s i
structure Vst(j:Job)(sp:List Bool)(b:Int)(T:List Bool->Prop)(b':Int)(f':List Bool):Prop where
 fnd:Fnd j sp b' f'
 dn:0<=b->0<=b'/\b'<=b
 bst:Bst j sp b' T
section
variable {j:Job} (hj:PlOk j)
include hj
theorem PlOk.zLL{s:List Bool}(hs:Bel s j.2.2.1.length):0<=cst j.2.2.1 (sl s):=(E6 (m:=1048576) fun k hk=>hj.cs k (hs.2 k (jk.1 hk).2)).1
theorem PlOk.visit{sp:List Bool}(bI:sp.length=8):∀(m k:Nat) (s:List Bool) (b:Int) (f:List Bool),j.2.2.1.length-k<m->k<=j.2.2.1.length->Bel s k->Fnd j sp b f->Ok (YM m (k:Int) s (j,sp,()) b f) fun r=>match r with|.inl e=>UF j sp e|.inr y=>Vst j sp b (fun t=>Agr s t k) y.1 y.2.1:=by
 intro m
 induction m with
 |zero=>omega
 |succ m ih =>
  intro k s b f hm hk hs hf;show Ok (Yc (YM m) (k:Int) s (j,sp,()) b f) _
  have hn:=hj.n;have dX:=hs.le hk
  unfold Yc;rw[Ok.zI (uA bI hs.1 hj.n hj.nd hj.ns)];dsimp only;refine vV (fun x:Int×List Bool=>Vst j sp b (fun t=>t=s) x.1 x.2) (fun j' hj'=>?_) ?_
  ·by_cases ha:alw j.2.2.1 sp s=true
   ·rw[zLz ha,Ok.zI (hj.E4 dX)]
    dsimp only;by_cases he:(enq j s).2=0
    ·rw[zMA (by grind),Ok.zI (qd hs.1 (fun i h=>dX.2 i h) hj.cs)]
     dsimp only;have h0:=hj.zLL dX
     refine vV (fun x:Int×List Bool=>Vst j sp b (fun t=>t=s) x.1 x.2) (fun j2 aG=>?_) fun x hx=>hj' _ hx
     cases hq:(enq j s).1 with
     |false =>
      rw[zMA (by grind)]
      exact aG _ ⟨hf,fun h=>⟨h,Int.le_refl _⟩,fun t _ _ ht=>by grind⟩
     |true =>
      by_cases gF:b<0\/cst j.2.2.1 (sl s)<b
      ·rw[zLz (by
        grind)]
       exact aG _ ⟨.inr ⟨dX,ha,hq,rfl⟩,fun h=>⟨h0,by omega⟩,fun t _ _ ht=>by grind⟩
      ·rw[zMA (by
        grind)]
       exact aG _ ⟨hf,fun h=>⟨h,Int.le_refl _⟩,fun t _ _ ht=>by grind⟩
    ·rw[zLz (by grind),Ok.pure];exact⟨he,s,dX,ha,rfl⟩
   ·rw[zMA ha]
    exact hj' _ ⟨hf,fun h=>⟨h,Int.le_refl _⟩,fun t _ h2 ht=>by grind⟩
  ·rintro⟨b1,f1⟩ h1
   dsimp only at h1;rw[Ok.bind];refine(Ok.count (j.2.2.1.length-k) (fun i (x:Int×Int×List Bool)=>x.1=((k+i:Nat):Int)/\Vst j sp b (fun t=>t=s\/Agr s t k/\∃q,k<=q/\q<k+i/\B8 t q=true) x.2.1 x.2.2) (P:=fun r:Int×List Bool⊕Int=>match r with|.inl y=>Vst j sp b (fun t=>Agr s t k) y.1 y.2|.inr e=>UF j sp e) ?_ ?_ ?_).mono ?_
   ·grind
   ·rintro i ⟨n,b2,f2⟩ hi ⟨e1,h2⟩
    dsimp only at e1 h2;subst e1;rw[zLz (by grind),Ok.zI (ga ⟨by omega,by omega⟩),zJ (by omega),ZP,Ok.bind]
    refine(ih (k+i+1) (s.set (k+i) true) b2 f2 (by omega) (by omega) ((hs.le (by omega)).set (by omega)) h2.fnd).mono ?_
    rintro(e|⟨b3,f3,u⟩) hr
    ·grind [Ok.pure]
    ·dsimp only at hr |-
     rw[Ok.pure];have hd:∀c:Int,0<=b2/\b2<=c->0<=b3/\b3<=c:=fun c h=>by have:=hr.dn h.1;omega
     refine⟨by omega,hr.fnd,fun h=>hd _ (h2.dn h),fun t g1 g2 g3=>?_⟩
     by_cases lC:t=s\/Agr s t k/\∃q,k<=q/\q<k+i/\B8 t q=true
     ·obtain⟨c1,c2⟩:=h2.bst t g1 g2 lC
      grind
     ·refine hr.bst t g1 g2 ?_
      rcases g3 with g|⟨g,q,q1,q2,q3⟩
      ·grind
      ·have hq:q=k+i:=by
        grind
       subst hq;intro p hp;rw[jT hs.1 (by omega)]
       split
       ·grind
       ·by_cases iJ:p<k
        ·exact g p iJ
        ·have c1:B8 s p=false:=by
          cases h:B8 s p with
          |false=>rfl
          |true=>have:=hs.2 p h;omega
         grind
   ·rintro⟨n,b2,f2⟩ ⟨e1,h2⟩
    dsimp only at e1 h2;subst e1;rw[zMA (by grind),Ok.pure]
    refine⟨h2.fnd,h2.dn,fun t g1 g2 g3=>h2.bst t g1 g2 ?_⟩
    by_cases h:∃q,k<=q/\B8 t q=true
    ·obtain⟨q,q1,q2⟩:=h
     have:=g1.2 q q2;grind
    ·refine .inl (UW g1.1 hs.1 fun p hp=>?_)
     by_cases iJ:p<k
     ·exact g3 p iJ
     ·have c1:B8 s p=false:=by
       cases h:B8 s p with
       |false=>rfl
       |true=>have:=hs.2 p h;omega
      grind
   grind [Ok.pure]
end
structure SmB(j:Job):Prop where
 s:SmJ j
 c:j.1.2.1.length<=1000
theorem R3{n:Nat}:∀ {L:List Eff} {k:Nat},efs n L k=0->∀x∈L,∀q∈x.2.2.2.1,0<=q/\q<n
 | [],_,_,x,hx=>by cases hx
 |y::L,k,h,x,hx=>by
  unfold efs at h;split at h
  ·rename_i h1
   rcases zLd.1 hx with e|e
   ·grind [eE,rX]
   ·exact R3 h x e
  omega
theorem mY{L:List Eff}{k:Nat}:opn L (k:Int)∈L\/opn L (k:Int)=([],[],0,[],()):=by
 unfold opn;grind
theorem QX{j:Job}(h:ckJ j=0):fit j.1 j.2.1=0/\j.2.2.1.length<=8/\zAQ j.2.2.1:=by
 unfold ckJ at h;split at h
 ·rename_i hf
  split at h
  ·cases h
  ·rename_i h8
   split at h
   ·rename_i h1
    refine⟨hf,by omega,fun k q hq=>?_⟩
    rcases mY (L:=j.2.2.1) (k:=k) with h2|h2
    ·exact R3 h1 _ h2 q hq
    grind
   omega
 omega
theorem SmB.pl{j:Job}(h:SmB j)(hc:ckJ j=0):PlOk j:=by
 have t8:=QY hc;obtain⟨hf,h8,sA⟩:=QX hc;obtain⟨_,_,f1,f2,f3,f4,f5,f6⟩:=KM hf;refine⟨f6,f1,by omega,fun x hx=>⟨(h.s.e x hx).1,(h.s.e x hx).2.1⟩,h.c,h8,sA,fun k=>?_,fun k hk=>?_⟩
 ·rcases mY (L:=j.2.2.1) (k:=k) with h2|h2
  ·have:=(h.s.e _ h2).2.2;omega
  grind
 grind [opn]
def zBH(j:Job)(l:List Int)(c:Int):Prop:=∃t,l=slI t/\c=cst j.2.2.1 (sl t)/\Bel t j.2.2.1.length/\alw j.2.2.1 (bgn j) t=true/\(enq j t).1=true/\∀u,Bel u j.2.2.1.length->alw j.2.2.1 (bgn j) u=true->(enq j u).2=0/\((enq j u).1=true->cst j.2.2.1 (sl t)<=cst j.2.2.1 (sl u))
def zIF(j:Job):Prop:=∀u,Bel u j.2.2.1.length->alw j.2.2.1 (bgn j) u=true->(enq j u).2=0/\(enq j u).1=false
inductive BestR(j:Job):List Int->Int->Int->Prop
 |bad:ckJ j≠0->BestR j [] 0 (ckJ j)
 |err {e}:ckJ j=0->UF j (bgn j) e->BestR j [] 0 e
 |non:ckJ j=0->zIF j->BestR j [] 0 60
 |ok {l c}:ckJ j=0->zBH j l c->BestR j l c 0
theorem zBS{L:List Eff}{s:List Bool}(hc:∀k∈sl s,1<=(opn L (k:Int)).2.2.1)(h:cst L (sl s)=0):sl s=[]:=by
 cases he:sl s with
 |nil=>rfl
 |cons k l =>
  exfalso;rw[he]at h hc;have h1:∀m:List Nat,(∀i∈m,1<=(opn L (i:Int)).2.2.1)->0<=cst L m:=fun m=>by
   induction m with
   |nil=>intro _;exact Int.le_refl _
   |cons a m ih =>
    intro hm;have:=ih fun i hi=>hm i (zLj _ hi)
    grind [cst]
  have h2:=h1 l fun i hi=>hc i (zLj _ hi)
  grind [cst]
def Mp(e:Int):Prop:=e=0\/e=9\/e=2
theorem zFN{pcs:List Cell}{q:Cell}:(wth pcs q).2=0\/(wth pcs q).2=9:=by
 unfold wth;grind
theorem G2:∀ {s pcs:List Cell},(Xr pcs s).2=0\/(Xr pcs s).2=9
 | [],_=>.inl rfl
 |q::s,pcs=>by
  unfold Xr;split
  ·exact G2
  ·exact zFN
theorem zGu{s:List Cell}{c:Cell}(hc:chk c=0)(hs:∀q∈s,chk q=0):Mp (cov s c).2:=by
 show Mp (mns c s).2
 unfold mns;rw[zLz hc];split
 ·split
  ·rcases G2 (s:=s) (pcs:=[ln c]) with h|h
   ·exact .inl h
   ·exact .inr (.inl h)
  ·exact .inl rfl
 ·unfold sck
  split
  ·exact .inr (.inr rfl)
  ·exact .inl (Yr.2 hs)
theorem Cb:∀ {l seen:List Cell},KY seen l=true->∀c∈l,chk c=0
 | [],_,_,c,hc=>by cases hc
 |d::l,seen,h,c,hc=>by
  unfold KY at h;simp only[zLZ]at h;rcases zLd.1 hc with e|e
  ·simp_all [ful]
  ·exact Cb h.2.2 c e
theorem WU{p:Part}(h:ckP p=0):∀c∈p.2.1,chk c=0:=by
 grind [ckP,Cb]
theorem pT{n:Nat}:∀ {L:List Eff} {k:Nat},efs n L k=0->∀x∈L,∀c∈x.1++x.2.1,chk c=0
 | [],_,_,x,hx=>by cases hx
 |y::L,k,h,x,hx=>by
  unfold efs at h;split at h
  ·rename_i h1
   rcases zLd.1 hx with e|e
   ·grind [eE,Yr]
   ·exact pT h x e
  omega
theorem HT{j:Job}(h:ckJ j=0):fit j.1 j.2.1=0/\∀x∈j.2.2.1,∀c∈x.1++x.2.1,chk c=0:=by
 grind [ckJ,pT]
def EOk(e:Int):Prop:=e≠35/\e≠30/\e≠60
theorem EOk.of{e:Int}(h:e=0\/e=1\/e=2\/e=3\/e=4\/e=7\/e=9\/e=12\/e=13):EOk e:=by unfold EOk;omega
theorem zGw{c:Cell}:EOk (chk c):=by
 unfold chk;split
 ·exact .of (by omega)
 ·cases c.all okP<;>exact .of (by simp)
theorem Rl:∀ {s:List Cell},EOk (jd s)
 | []=>.of (.inl rfl)
 |c::s=>by
  rw[Jb];split
  ·exact Rl
  ·exact zGw
theorem zGv{p:Part}:EOk (ckP p):=by
 unfold ckP;split
 ·exact .of (by omega)
 ·split
  ·exact .of (by omega)
  ·cases KY [] p.2.1<;>exact .of (by simp)
theorem zGk{p:Part}{x:vU}:EOk (fit p x):=by
 unfold fit;split
 ·cases Y7 p x<;>exact .of (by simp)
 ·exact zGv
theorem zLJ{n k:Nat}{x:Eff}:EOk (eE n k x):=by
 unfold eE;split
 ·split
  ·exact .of (by omega)
  ·cases x.2.2.2.1.any (rX n k)<;>cases lg x.2.2.2.1<;>exact .of (by simp)
 ·exact Rl
theorem zBD{n:Nat}:∀ {L:List Eff} {k:Nat},EOk (efs n L k)
 | [],_=>by unfold efs;exact .of (by omega)
 |x::L,k=>by
  unfold efs;split
  ·exact zBD
  ·exact zLJ
theorem S9{j:Job}:EOk (ckJ j):=by
 unfold ckJ;split
 ·split
  ·exact .of (by omega)
  ·split
   ·split<;>exact .of (by omega)
   ·exact zBD
 ·exact zGk
theorem Mp.e{e:Int}(h:Mp e):EOk e:=by
 rcases h with h|h|h<;>exact .of (by omega)
theorem zBC{p:Part}{x:vU}{cuts:List Cell}(hp:∀c∈p.2.1,chk c=0)(hc:∀c∈cuts,chk c=0):∀ {m i:Nat},i+m<=p.2.1.length->Mp (enR p x cuts i m).2
 |0,_,_=>.inl rfl
 |m+1,i,h=>by
  have ih:=zBC (x:=x) hp hc (m:=m) (i:=i+1) (by omega)
  unfold enR;split
  ·exact ih
  ·split
   ·exact ih
   ·exact zGu (hp _ (R6 (by omega))) fun q hq=>hc q (List.mem_filter.1 hq).1
theorem WG{j:Job}{s:List Bool}(hc:ckJ j=0):∀c∈ctS j s,chk c=0:=by
 obtain⟨hf,hce⟩:=HT hc;obtain⟨_,_,_,_,_,f4,_,_⟩:=KM hf;grind [ctS,Yr,mY]
theorem S5{j:Job}{s:List Bool}(hc:ckJ j=0):Mp (enq j s).2:=by
 obtain⟨hf,hce⟩:=HT hc;exact zBC (WU (KM hf).1) (WG hc) (by omega)
theorem BestR.e{j:Job}{l:List Int}{c e:Int}(h:BestR j l c e):e≠35/\e≠30:=by
 cases h with
 |bad h=>exact⟨S9.1,S9.2.1⟩
 |err h h' =>
  obtain⟨_,t,_,_,rfl⟩:=h';exact⟨(S5 h).e.1,(S5 h).e.2.1⟩
 |non h h'=>decide
 |ok h h'=>decide
theorem PcV.fit{p:Part}{x:vU}(h:PcV p x):fit p x=0:=by
 unfold Go.Geo.fit;rw[zLz h.c,h.f];rfl
def upB(n:Nat):Int->List Int->Bool
 |_,[]=>true
 |b,k::l=>(decide (b<k) && decide (k<n)) && upB n k l
theorem XD{n:Nat}:∀ {l:List Int} {b:Int},upB n b l=true->∀k∈l,b<k/\k<n
 | [],_,_,_,h=>by cases h
 |q::l,b,hu,k,h=>by
  unfold upB at hu;simp only[zLZ,zLr]at hu;rcases zLd.1 h with e|e
  ·omega
  ·have:=XD hu.2 k e
   omega
theorem Qt:∀ {a b:List Nat},a.Pairwise (· < ·)->b.Pairwise (· < ·)->(∀x,x∈a↔x∈b)->a=b
 | [],[],_,_,_=>rfl
 | [],y::b,_,_,h=>zLp ((h y).2 (by simp)) (by simp)
 |x::a,[],_,_,h=>zLp ((h x).1 (by simp)) (by simp)
 |x::a,y::b,ha,hb,h=>by
  rw[List.pairwise_cons]at ha hb;have e:x=y:=by
   have h1:=(h x).1 (by simp)
   have h2:=(h y).2 (by simp)
   grind
  subst e;rw[Qt ha.2 hb.2 fun z=>?_]
  grind
def stO(l:List Int):List Bool:=m8 fun k=>decide ((k:Int)∈l)
theorem mE{l:List Int}:(stO l).length=8:=gI _
theorem n5{n:Nat}:∀ {l:List Int} {b:Int}, -1<=b->upB n b l=true->(l.map Int.toNat).Pairwise (· < ·)
 | [],_,_,_=>List.Pairwise.nil
 |k::l,b,hb,h=>by
  have h0:=XD h;unfold upB at h;simp only[zLZ,zLr]at h;rw[List.map_cons,List.pairwise_cons];refine⟨fun q hq=>?_,n5 (by omega) h.2⟩
  obtain⟨r,hr,rfl⟩:=List.mem_map.1 hq;have:=XD h.2 r hr
  omega
theorem zAV{n:Nat}(hn:n<=8){l:List Int}(h:upB n (-1) l=true){k:Nat}:B8 (stO l) k=true↔(k:Int)∈l:=by
 by_cases h8:k<8
 ·unfold stO;rw[X7 h8,decide_eq_true_iff]
 ·rw[XR mE (by omega)]
  refine⟨fun h=>(nomatch h),fun hm=>?_⟩
  have:=XD h _ hm;omega
theorem mF{n:Nat}(hn:n<=8){l:List Int}(h:upB n (-1) l=true):Bel (stO l) n:=⟨mE,fun i hi=>by
 have:=XD h _ ((zAV hn h).1 hi);omega⟩
theorem GX{n:Nat}(hn:n<=8){l:List Int}(h:upB n (-1) l=true):slI (stO l)=l:=by
 have h1:sl (stO l)=l.map Int.toNat:=by
  refine Qt ?_ (n5 (by omega) h) fun x=>?_
  ·unfold sl;exact List.Pairwise.filter _ List.pairwise_lt_range
  ·rw[jk,zAV hn h,List.mem_map]
   constructor
   ·grind
   ·rintro⟨y,hy,rfl⟩
    have:=XD h y hy;grind
 unfold slI;rw[h1,List.map_map];refine(List.map_congr_left fun y hy=>?_).trans (List.map_id l)
 have:=XD h y hy;grind
theorem Mz{n:Nat}{l:List Int}(h:upB n (-1) l=true):lg l=true:=by
 unfold lg;rw[Bool.not_eq_true'];unfold zAL;rw[List.any_eq_false];intro k hk;rw[List.mem_range']at hk;obtain⟨i,hi,rfl⟩:=hk;have hp:=n5 (by omega) h
 rw[List.pairwise_iff_getElem]at hp;grind
theorem n9{n:Nat}{l:List Int}(h:upB n (-1) l=true)(hn:n<=8):l.length<=8:=by
 rw[<-GX hn h];exact YT _
theorem Bj{j:Job}(hn:j.2.2.1.length<=8){l:List Int}(hl:upB j.2.2.1.length (-1) l=true):(YV j l).val=some (stO l,true,()):=by
 refine Ok.val ?_;have cV:=n9 hl hn
 unfold YV;rw[Ok.bind];refine(Ok.count l.length (fun i (s:Int×List Bool)=>s.1=(i:Int)/\s.2=m8 fun k=>decide ((k:Int)∈l.take i)) (P:=fun r=>r=.inl (stO l)) ⟨rfl,?_⟩ ?_ ?_).mono fun r hr=>?_
 ·show z8=_
  refine UW rfl (gI _) fun k hk=>?_
  rw[X7 hk,SH (g:=fun _=>true),X7 hk];simp
 ·rintro i ⟨n,s⟩ hi ⟨h1,h2⟩
  dsimp only at h1 h2;subst h1 h2;obtain⟨k,hk⟩:=zK hi;have dJ:=XD hl k (zLe hk)
  dsimp only;have e1:¬sel (ltI k 0) true (geI k (zD j.2.2.1))=true:=by grind
  rw[zLz (by grind),Ok.bind,Ok.gz hk,zMA e1,Ok.zI (ga ⟨by omega,by omega⟩),Ok.pure]
  refine⟨zJ (by omega),?_⟩
  dsimp only;have ek:k=((k.toNat:Nat):Int):=by omega
  have ht:l.take (i+1)=l.take i++[k]:=by grind [List.take_add_one]
  rw[ek,ZP];refine UW (by simp[gI]) (gI _) fun q hq=>?_
  rw[jT (gI _) (by omega),X7 hq,X7 hq,ht,Bool.eq_iff_iff]
  grind
 ·rintro⟨n,s⟩ ⟨h1,h2⟩
  dsimp only at h1 h2;subst h1 h2;dsimp only;rw[zMA (by grind),Ok.pure,List.take_length];rfl
 grind [Ok.zI,ZG,Mz,Ok.pure]
theorem QK{j:Job}(h:SmB j)(hc:ckJ j=0){l:List Int}(hl:upB j.2.2.1.length (-1) l=true):(jH j l).val=some ((enq j (stO l)).1,(enq j (stO l)).2,()):=by
 have hj:=h.pl hc;refine Ok.val ?_;unfold jH;rw[Ok.zI (gx h.s.w h.s.e)];dsimp only;rw[zMA (by grind),Ok.zI (Bj hj.n hl)]
 dsimp only;rw[zMA (by decide)]
 have he:=hj.E4 (sp:=z8) (mF hj.n hl);rw[Ok.bind,show ([false,false,false,false,false,false,false,false]:List Bool)=z8 from rfl,Ok.zr he,Ok.pure]
theorem MU{j:Job}(h:SmB j)(hc:ckJ j=0){l:List Int}(hl:upB j.2.2.1.length (-1) l=true):(zu j l).val=some (alw j.2.2.1 (bgn j) (stO l),()):=by
 have hj:=h.pl hc;refine Ok.val ?_;unfold zu;rw[Ok.zI (gx h.s.w h.s.e)];dsimp only;rw[zMA (by grind),Ok.zI (Bj hj.n hl),Ok.bind]
 show Ok (kj j) _
 rw[Ok.zr (wX hj.w hj.cl hj.n hj.sm),Ok.bind];show Ok (vX (j,bgn j,()) (stO l)) _
 rw[Ok.zr (uA (show (bgn j).length=8 from gI _) mE hj.n hj.nd hj.ns),Ok.pure];rfl
def pw:Nat->Nat
 |0=>1
 |n+1=>2 * pw n
theorem Sn:∀ {a b:Nat},a<=b->pw a<=pw b
 |a,0,h=>by grind
 |a,b+1,h=>by
  by_cases e:a=b+1
  ·grind
  ·have:=Sn (a:=a) (b:=b) (by omega)
   grind [pw]
theorem Ay{n:Nat}:∀ {l:List Int} {b:Int},upB n b l=true->(l.length:Int)<=max 0 ((n:Int)-b-1)
 | [],_,_=>by grind
 |k::l,b,h=>by
  unfold upB at h;simp only[zLZ,zLr]at h;have:=Ay h.2
  grind
theorem zBK{n:Nat}{b b':Int}(h:b'<=b):∀ {l:List Int},upB n b l=true->upB n b' l=true
 | [],_=>rfl
 |k::l,hu=>by
  unfold upB at hu |-;grind
def clS(L:List Eff)(s:List Bool):List Bool:=m8 fun k=>B8 s k && (opn L (k:Int)).2.2.2.1.all fun q=>B8 s q.toNat
def itS(L:List Eff):Nat->List Bool->List Bool
 |0,s=>s
 |m+1,s=>itS L m (clS L s)
def KA(L:List Eff)(sp out:List Bool):List Bool:=itS L 8 (rs L.length sp out)
theorem lH{L:List Eff}{s:List Bool}(hs:s.length=8):jK (clS L s) s:=fun k hk=>by
 by_cases h8:k<8
 ·simp_all [clS,X7]
 grind [XR,clS,gI]
theorem QW{L:List Eff}{s t:List Bool}(ht:t.length=8)(h:jK t s)(hc:YQ L t):jK t (clS L s):=fun k hk=>by
 by_cases h8:k<8
 ·unfold clS
  rw[X7 h8,h k hk,Bool.true_and,zME];exact fun q hq=>h _ (hc k hk q hq)
 grind [XR]
theorem WR{L:List Eff}{s:List Bool}(h:clS L s=s):YQ L s:=fun k hk q hq=>by
 by_cases h8:k<8
 ·have h1:=hk
  rw[<-h]at h1;unfold clS at h1;simp_all [X7]
 ·have hl:s.length=8:=by rw[<-h];exact gI _
  grind [XR]
theorem Bq{L:List Eff}{s:List Bool}(h:clS L s=s):∀m,itS L m s=s
 |0=>rfl
 |m+1=>by show itS L m (clS L s)=s;rw[h];exact Bq h m
theorem Rj{L:List Eff}:∀(m:Nat) (s:List Bool),s.length=8->(sl s).length<=m->((itS L m s).length=8/\jK (itS L m s) s)/\clS L (itS L m s)=itS L m s/\∀t,t.length=8->jK t s->YQ L t->jK t (itS L m s)
 |0,s,hs,h=>by
  refine⟨⟨hs,jK.refl _⟩,jK.eq (gI _) hs (lH hs) fun k hk=>?_,fun t _ h _=>h⟩
  exfalso;have hk:B8 s k=true:=hk
  have h8:k<8:=by
   grind [XR]
  simp_all [sl]
 |m+1,s,hs,h=>by
  by_cases he:clS L s=s
  ·grind [Bq,jK.refl]
  ·have hl:(clS L s).length=8:=gI _
   have gF:=GW hl hs (lH hs) he;obtain⟨⟨a1,a2⟩,a3,a4⟩:=Rj m (clS L s) hl (by omega)
   exact⟨⟨a1,a2.trans (lH hs)⟩,a3,fun t ht h hc=>a4 t ht (QW ht h hc) hc⟩
theorem mT{L:List Eff}{sp out:List Bool}:(KA L sp out).length=8/\RestOk L sp out (KA L sp out):=by
 have hl:(rs L.length sp out).length=8:=gI _;obtain⟨⟨a1,a2⟩,a3,a4⟩:=Rj (L:=L) 8 (rs L.length sp out) hl (Eb _);refine⟨a1,a1,a2,WR a3,fun t h hc k hk=>?_⟩
 have bJ:jK (m8 (B8 t)) t/\jK t (m8 (B8 t)):=by
  refine⟨fun i hi=>?_,fun i hi=>?_⟩
  ·grind [X7,XR,gI]
  ·have h8:i<8:=by
    by_cases h8:i<8
    ·exact h8
    ·have:=h i hi
     grind [XR]
   grind [X7]
 exact a4 (m8 (B8 t)) (gI _) (bJ.1.trans h) (fun i hi q hq=>bJ.2 _ (hc i (bJ.1 i hi) q hq)) k (bJ.2 k hk)
theorem RestOk.is{L:List Eff}{sp out s:List Bool}(h:RestOk L sp out s):s=KA L sp out:=by
 obtain⟨h1,h2⟩:=mT (L:=L) (sp:=sp) (out:=out);exact jK.eq h.len h1 (h2.most s h.sub h.cl) (h.most _ h2.sub h2.cl)
def shQ(q:List Bool->Bool×Int)(L:List Eff)(sp inn out:List Bool):Bool:=((sl inn).any fun k=>!B8 (KA L sp out) k) || (decide ((q (KA L sp out)).2=0) && !(q (KA L sp out)).1)
theorem Qu{s:List Bool}{i:Nat}{y:Int}(h:(slI s)[i]?=some y):∃k:Nat,(sl s)[i]?=some k/\y=(k:Int):=by
 unfold slI at h;grind
section
variable {j:Job} (hj:PlOk j)
include hj
theorem PlOk.rj{sp inn out:List Bool}(bI:sp.length=8)(hi:inn.length=8)(ho:out.length=8):(gL (j,sp,()) inn out).val=some (shQ (enq j) j.2.2.1 sp inn out,()):=by
 refine Ok.val ?_;unfold gL;rw[Ok.bind];refine(Gf bI ho hj.n hj.nd hj.ns).mono ?_;rintro⟨r,u⟩ hr;dsimp only at hr;have bJ:=hr.bel
 have fA:=hr.len;have er:=hr.is
 rw[Ok.zI (JK hi)];dsimp only;rw[Ok.bind];unfold shQ;rw[<-er];have n7:=YT inn
 have e0:(slI inn).length=(sl inn).length:=by unfold slI;grind
 refine(Ok.count (slI inn).length (fun i (x:Int)=>x=(i:Int)/\((sl inn).take i).any (fun k=>!B8 r k)=false) (P:=fun t:Unit⊕Bool=>match t with|.inl _=>(sl inn).any (fun k=>!B8 r k)=false|.inr b=>b=true/\(sl inn).any (fun k=>!B8 r k)=true) ⟨rfl,rfl⟩ ?_ ?_).mono ?_
 ·rintro i x hi' ⟨rfl,h2⟩
  obtain⟨y,hy⟩:=zK hi';obtain⟨k,hk,rfl⟩:=Qu hy;have hk8:=(jk.1 (zLe hk)).1
  rw[zLz (by grind),Ok.bind,Ok.gz hy,Ok.bind,Ok.gz (XN fA hk8),yS]
  have ht:(sl inn).take (i+1)=(sl inn).take i++[k]:=by grind [List.take_add_one]
  cases hb:B8 r k with
  |true =>
   rw[zMA (by simp),Ok.pure]
   grind
  |false =>
   rw[zLz (by rfl),Ok.pure]
   grind
 ·rintro x ⟨rfl,h2⟩
  simp_all [zY,zQ,Ok.pure]
 ·rintro(u'|b) hb
  ·dsimp only at hb |-
   rw[Ok.zI (hj.E4 bJ),Ok.pure,hb];grind
  ·obtain⟨rfl,hb⟩:=hb
   grind [Ok.pure]
end
abbrev Nd:=Int×Int×Unit
def trL(q:List Bool->Bool×Int)(L:List Eff)(sp:List Bool)(lim:Int):Nat->Nat->List Bool->List Bool->List Nd
 |0,_,inn,_=>if 0<lim/\lim<=cst L (sl inn) then [(2,0,())] else [(3,0,())]
 |d+1,k,inn,out=>if 0<lim/\lim<=cst L (sl inn) then [(2,0,())] else if shQ q L sp inn out=true then [(3,0,())] else (1,(k:Int),())::(trL q L sp lim d (k+1) (inn.set k true) out++trL q L sp lim d (k+1) inn (out.set k true))
theorem ub{q:List Bool->Bool×Int}{L:List Eff}{sp:List Bool}{lim:Int}:∀(d k:Nat) (inn out:List Bool),(trL q L sp lim d k inn out).length<=tz d
 |0,_,_,_=>by unfold trL;split<;>exact zLb _
 |d+1,k,inn,out=>by
  have h1:=ub (q:=q) (L:=L) (sp:=sp) (lim:=lim) d (k+1) (inn.set k true) out;have h2:=ub (q:=q) (L:=L) (sp:=sp) (lim:=lim) d (k+1) inn (out.set k true)
  have h3:=EU d;have e:tz (d+1)=2 * tz d+1:=rfl
  grind [trL]
theorem tz8:∀d,d<=8->tz d<=511:=fun d hd=>by
 match d,hd with
 |0,_|1,_|2,_|3,_|4,_|5,_|6,_|7,_|8,_=>decide
section
variable {j:Job} (hj:PlOk j)
include hj
theorem PlOk.M3{sp:List Bool}(bI:sp.length=8){lim:Int}:∀(m k:Nat) (inn out:List Bool) (y:List Nd),j.2.2.1.length-k<m->k<=j.2.2.1.length->Bel inn k->Bel out k->y.length+tz (j.2.2.1.length-k)<=1000 ->
  Ok (jX m (k:Int) inn out lim (j,sp,()) y) fun r=>r=.inr (y++trL (enq j) j.2.2.1 sp lim (j.2.2.1.length-k) k inn out,()):=by
 intro m
 induction m with
 |zero=>omega
 |succ m ih =>
  intro k inn out y hm hk hi ho hy;show Ok (kJ (jX m) (k:Int) inn out lim (j,sp,()) y) _
  have hn:=hj.n;have htp:=EU (j.2.2.1.length-k)
  unfold kJ;rw[Ok.bind];have a8:=qd (sp:=sp) hi.1 (fun i h=>zLm (hi.2 i h) hk) hj.cs
  have t8:Ok (Comp.gd (gtI lim 0) (vW (j,sp,()) inn) (0,())) fun c=>sel (gtI lim 0) (geI c.1 lim) false=decide (0<lim/\lim<=cst j.2.2.1 (sl inn)):=by
   by_cases h:0<lim
   ·have e1:gtI lim 0=true:=by grind
    rw[e1];refine Ok.jg (fun _=>(Ok.zr a8).2 ?_) fun h=>nomatch h
    grind
   ·have e1:gtI lim 0=false:=by grind
    grind [Ok.jg]
  refine t8.mono fun c hc=>?_
  rw[hc];generalize hT:trL (enq j) j.2.2.1 sp lim (j.2.2.1.length-k) k inn out=T;refine vV (fun y'=>y'=y++T) (fun j' hj'=>?_) fun y' hy'=>by rw[Ok.pure,hy']
  by_cases hl:0<lim/\lim<=cst j.2.2.1 (sl inn)
  ·rw[zLz (by grind)]
   refine zp (by grind) (hj' _ ?_)
   rw[<-hT];cases j.2.2.1.length-k<;>(unfold trL;grind)
  ·rw[zMA (by grind),Ok.bind]
   have fA:zD (j,sp,()).1.2.2.1=(j.2.2.1.length:Int):=rfl;by_cases hkn:k<j.2.2.1.length
   ·have hd:j.2.2.1.length-k=(j.2.2.1.length-(k+1))+1:=by omega
    have e1:geI (k:Int) (zD (j,sp,()).1.2.2.1)=false:=by grind
    rw[e1];refine Ok.jg (fun _=>(Ok.zr (hj.rj bI hi.1 ho.1)).2 ?_) fun h=>nomatch h
    rw[hd]at hT;unfold trL at hT;rw[zMA hl]at hT;refine vV (fun y'=>y'=y++T) (fun j2 aG=>?_) fun y' hy'=>hj' _ hy'
    by_cases hs:shQ (enq j) j.2.2.1 sp inn out=true
    ·rw[zLz hs]at hT
     rw[zLz (by grind)]
     grind [zp]
    ·rw[zMA hs]at hT
     rw[zMA (show ¬sel false true (shQ (enq j) j.2.2.1 sp inn out)=true from hs)]
     have htz:tz (j.2.2.1.length-k)=2 * tz (j.2.2.1.length-(k+1))+1:=by rw[hd];rfl
     refine zp (by grind) ?_
     rw[Ok.zI (ga ⟨by omega,by omega⟩),Ok.zI (ga ⟨by omega,by omega⟩),zJ (by omega),ZP,ZP,Ok.bind]
     have e2:(y++[(1,(k:Int),())]).length=y.length+1:=by simp
     refine(ih (k+1) (inn.set k true) out _ (by omega) (by omega) (hi.set (by omega)) (ho.le (by omega)) (by omega)).mono ?_
     rintro r rfl;dsimp only;rw[Ok.bind];have h3:=ub (q:=enq j) (L:=j.2.2.1) (sp:=sp) (lim:=lim) (j.2.2.1.length-(k+1)) (k+1) (inn.set k true) out
     refine(ih (k+1) inn (out.set k true) _ (by omega) (by omega) (hi.le (by omega)) (ho.set (by omega)) (by grind)).mono ?_
     grind
   ·have hd:j.2.2.1.length-k=0:=by omega
    have e1:geI (k:Int) (zD (j,sp,()).1.2.2.1)=true:=by grind
    rw[e1];refine Ok.jg (fun h=>nomatch h) fun _=>?_
    rw[hd]at hT;unfold trL at hT;rw[zMA hl]at hT;refine vV (fun y'=>y'=y++T) (fun j2 aG=>?_) fun y' hy'=>hj' _ hy'
    rw[zLz (by rfl)]
    grind [zp]
theorem PlOk.zAT{sp:List Bool}(bI:sp.length=8)(lim:Int):Ok (jq (j,sp,()) lim) fun r=>r.1=trL (enq j) j.2.2.1 sp lim j.2.2.1.length 0 z8 z8:=by
 unfold jq;rw[Ok.bind];have hn:=hj.n
 refine(hj.M3 bI 40 0 z8 z8 [] (by omega) (by omega) Jf Jf (by grind [tz8])).mono ?_
 rintro r rfl;grind [Ok.pure]
end
end Go.Geo
end
section
namespace Go.Cvx
abbrev Q3:=Rat×Rat×Rat
abbrev Hs:=Q3×Rat
def dot(a b:Q3):Rat:=a.1 * b.1+a.2.1 * b.2.1+a.2.2 * b.2.2
def sl(h:Hs)(x:Q3):Rat:=h.2-dot h.1 x
def mv(x d:Q3)(t:Rat):Q3:=(x.1+t * d.1,x.2.1+t * d.2.1,x.2.2+t * d.2.2)
abbrev Z3:Q3:=(0,0,0)
theorem zEH(g x d:Q3)(t:Rat):dot g (mv x d t)=dot g x+t * dot g d:=by unfold dot mv;grind
theorem Hu(h:Hs)(x d:Q3)(t:Rat):sl h (mv x d t)=sl h x-t * dot h.1 d:=by grind [sl,zEH]
theorem R4{a b:Rat}(ha:0<=a)(hb:0<b):0<=a / b:=by
 by_cases h:0<=a / b
 ·exact h
 ·have h1:=Rat.mul_pos (a := -(a / b)) (b:=b) (by grind) hb
  have h2:a / b * b=a:=by grind
  grind
theorem ray{y d:Q3}:∀(r:List Hs),(∀h∈r,0<=sl h y)->(∀h∈r,dot h.1 d<=0)\/∃t,0<=t/\(∃q∈r,0<dot q.1 d/\sl q (mv y d t)=0)/\∀h∈r,0<=sl h (mv y d t)
 | [],_=>.inl fun _ h=>nomatch h
 |h::r,hy=>by
  have hs:=hy h (by simp)
  have key:∀ {t:Rat} {q:Hs},0<=t->0<=sl q y->dot q.1 d<=0->0<=sl q (mv y d t):=fun {t q} h1 h2 h3=>by
   rw[Hu];have:=Rat.mul_nonneg h1 (b := -dot q.1 d) (by grind)
   grind
  have key2:∀ {t u:Rat} {q:Hs},t<=u->0<=sl q (mv y d u)->0<=t->0<=sl q y->0<=sl q (mv y d t):=fun {t u q} h1 h2 h0 h3=>by
   by_cases h4:dot q.1 d<=0
   ·grind
   ·rw[Hu]at h2 |-
    have:=Rat.mul_nonneg (a:=u-t) (b:=dot q.1 d) (by grind) (by grind)
    grind
  rcases ray (y:=y) (d:=d) r fun q hq=>hy q (zLj _ hq) with ih|⟨t,h0,⟨q,hq,hq1,hq2⟩,ih⟩
  ·by_cases hd:dot h.1 d<=0
   ·grind
   ·have nC:0<dot h.1 d:=by grind
    have ht:0<=sl h y / dot h.1 d:=R4 hs (by grind)
    have he:sl h (mv y d (sl h y / dot h.1 d))=0:=by rw[Hu];grind
    refine .inr ⟨sl h y / dot h.1 d,ht,⟨h,by simp,nC,he⟩,fun q hq=>?_⟩
    grind
  ·by_cases hc:0<=sl h (mv y d t)
   ·refine .inr ⟨t,h0,⟨q,by grind,hq1,hq2⟩,fun p hp=>?_⟩
    grind
   ·have nC:0<dot h.1 d:=by
     grind
    have ht:0<=sl h y / dot h.1 d:=R4 hs (by grind)
    have he:sl h (mv y d (sl h y / dot h.1 d))=0:=by rw[Hu];grind
    have fG:sl h y / dot h.1 d<=t:=by
     grind
    refine .inr ⟨sl h y / dot h.1 d,ht,⟨h,by simp,nC,he⟩,fun p hp=>?_⟩
    grind
def Fe(r:List Hs)(y:Q3):Prop:=∀h∈r,0<=sl h y
def Bdd(r:List Hs):Prop:=∀d,d≠Z3->∃h∈r,0<dot h.1 d
theorem step{r:List Hs}(hb:Bdd r){y d:Q3}(hy:Fe r y)(hd:d≠Z3):∃t,0<=t/\(∃q∈r,0<dot q.1 d/\sl q (mv y d t)=0)/\Fe r (mv y d t):=by
 rcases ray (d:=d) r hy with h|h
 ·obtain⟨q,hq,h1⟩:=hb d hd
  grind
 ·exact h
end Go.Cvx
end
section
namespace Go.Geo
open Go Go.Eng Go.Lift Go.Den Go.F
variable {α β γ δ ε σ τ:Type}
theorem lnm{l:List Pln}{x:Pln}:x∈cpc (Jw l)↔x∈l:=((CL mP).2 x).trans Kc
open Cvx
def hs(p:Pln):Hs:=(((p.1.1:Int),(p.1.2.1:Int),(p.1.2.2.1:Int)),(p.2.1:Int))
def St(c:List Pln)(x:Q3):Prop:=∀p∈c,0<Cvx.sl (hs p) x
theorem St.app{a b:List Pln}{x:Q3}:St (a++b) x↔St a x/\St b x:=⟨fun h=>⟨fun p hp=>h p (by grind),fun p hp=>h p (by grind)⟩,fun h p hp=>(zLi.1 hp).elim (h.1 p) (h.2 p)⟩
theorem St.sub{a b:List Pln}{x:Q3}(h:St a x)(hs:∀p∈b,p∈a):St b x:=fun p hp=>h p (hs p hp)
theorem St.map{a:List Pln}{x:Q3}(h:St a x):∀p∈a.map hs,0<Cvx.sl p x:=fun p hp=>by obtain⟨q,hq,rfl⟩:=List.mem_map.1 hp;exact h q hq
theorem zDo{c:Cell}(hf:ful c=true){p:Pln}:p∈ln c↔p∈c/\3<=onn p (crn (c++bx0)):=by
 unfold ln;rw[hf];show p∈cpc (Jw (fac c))↔_
 simp[lnm,fac]
theorem zDn{c:Cell}(hf:ful c=false):ln c=[]:=by grind [ln]
def Vd(c:List Pln):Prop:=∀p∈c,okP p=true
theorem Vd.chk{c:List Pln}(h:Vd c)(hl:c.length<=48):chk c=0:=E7.2 ⟨hl,zME.2 h⟩
theorem Vd.ln{c:List Pln}(h:Vd c):Vd (ln c):=fun p hp=>by
 cases hf:ful c with
 |true=>exact h p ((zDo hf).1 hp).1
 |false=>grind [zDn]
def Gn(c:List Pln)(x:Q3):Prop:=∀p∈c,Cvx.sl (hs p) x≠0
theorem Gn.sub{a b:List Pln}{x:Q3}(h:Gn a x)(hs:∀p∈b,p∈a):Gn b x:=fun p hp=>h p (hs p hp)
section
variable {q:Cell} (hq:chk q=0) (hf:ful q=true) {U:List Pln} (hU:∀p∈q,p∈U)
include hq hf hU
end
section
variable {U:List Pln}
end
def spN(n:Nat)(inn out:List Bool)(x:Nd):Bool:=decide (x.1=1) && (decide (0<=x.2.1) && (decide (x.2.1<n) && (!B8 inn x.2.1.toNat && !B8 out x.2.1.toNat)))
def pvF(q:List Bool->Bool×Int)(L:List Eff)(sp:List Bool)(lim:Int):Nat->List Bool->List Bool->List Nd->Option (List Nd)
 |0,_,_,_=>none
 |_+1,_,_,[]=>none
 |m+1,inn,out,x::r=>if spN L.length inn out x=true then match pvF q L sp lim m (inn.set x.2.1.toNat true) out r with
   |none=>none
   |some r'=>pvF q L sp lim m inn (out.set x.2.1.toNat true) r'
  else if (x.1=2/\x.2.1=0)/\0<lim/\lim<=cst L (sl inn) then some r
  else if (x.1=3/\x.2.1=0)/\shQ q L sp inn out=true then some r else none
def pvB(j:Job)(lim:Int)(l:List Nd):Bool:=(decide (ckJ j=0) && decide (0<=lim)) && match pvF (enq j) j.2.2.1 (bgn j) lim 40 z8 z8 l with
 |some []=>true
 |_=>false
def und(inn out:List Bool):Nat:=((List.range 8).filter fun k=>!B8 inn k && !B8 out k).length
theorem uZ{inn out inn' out':List Bool}{i:Nat}(hi:i<8)(h1:B8 inn i=false/\B8 out i=false)(h2:∀k,k<8->(!B8 inn' k && !B8 out' k)=((!B8 inn k && !B8 out k) && decide (k≠i))):und inn' out'<und inn out:=by
 unfold und;have e:(List.range 8).filter (fun k=>!B8 inn' k && !B8 out' k)=((List.range 8).filter fun k=>!B8 inn k && !B8 out k).filter fun k=>decide (k≠i):=by
  simp_all [List.filter_congr,Bool.and_comm]
 rw[e,List.length_filter_lt_length_iff_exists];grind
theorem HO{l r:List α}{at_:Nat}{x:α}(h:l.drop at_=x::r):l[at_]?=some x/\r=l.drop (at_+1)/\at_<l.length:=by
 have gF:at_<l.length:=by
  grind [List.drop_eq_nil_of_le]
 obtain⟨v,hv⟩:=zK gF;rw[drop_cons hv]at h;grind
def pvO(len:Nat):Option (List Nd)->Unit⊕Int×Unit
 |none=>.inl ()
 |some r=>.inr (((len-r.length:Nat):Int),())
section
variable {j:Job} (hj:PlOk j)
include hj
theorem PlOk.walk{sp:List Bool}(bI:sp.length=8){lim:Int}{l:List Nd}(hl:l.length<=1000000):∀(m:Nat) (inn out:List Bool) (at_:Nat),und inn out<m->Bel inn j.2.2.1.length->Bel out j.2.2.1.length->at_<=l.length ->
  Ok (kU m inn out l (j,sp,()) lim (at_:Int)) fun r=>r=pvO l.length (pvF (enq j) j.2.2.1 sp lim m inn out (l.drop at_))/\∀r',pvF (enq j) j.2.2.1 sp lim m inn out (l.drop at_)=some r'->r'=l.drop (l.length-r'.length)/\r'.length<=l.length:=by
 intro m
 induction m with
 |zero=>omega
 |succ m ih =>
  intro inn out at_ hm hi ho b7;show Ok (YE (kU m) inn out l (j,sp,()) lim (at_:Int)) _
  have hn:=hj.n;unfold YE
  cases hd:l.drop at_ with
  |nil =>
   have tW:l.length<=at_:=List.drop_eq_nil_iff.1 hd;rw[zLz (by grind),Ok.pure]
   exact⟨rfl,fun r' h=>by cases h⟩
  |cons x r =>
   obtain⟨hx,hr,gF⟩:=HO hd;rw[zMA (by grind),Ok.bind,Ok.gz hx,Ok.bind]
   have fA:zD (j,sp,()).1.2.2.1=(j.2.2.1.length:Int):=rfl;have e1:sel (sel (eqI x.1 1) (geI x.2.1 0) false) (ltI x.2.1 (zD (j,sp,()).1.2.2.1)) false=(decide (x.1=1) && (decide (0<=x.2.1) && decide (x.2.1<j.2.2.1.length))):=by
    grind
   rw[e1];have hrl:r.length<=l.length:=by grind
   have hra:r=l.drop (l.length-r.length):=by
    grind
   have tailR:∀T:Option (List Nd),T=some r->(Ok (Comp.pure (Sum.inr (((at_+1:Nat):Int),())):Comp (Unit⊕Int×Unit)) fun z=>z=pvO l.length T/\∀r',T=some r'->r'=l.drop (l.length-r'.length)/\r'.length<=l.length):=fun T hT=>by
    rw[Ok.pure,hT];refine⟨?_,fun r' h=>by grind⟩
    have:l.length-r.length=at_+1:=by grind
    show _=Sum.inr (((l.length-r.length:Nat):Int),())
    grind
   by_cases hb:(decide (x.1=1) && (decide (0<=x.2.1) && decide (x.2.1<j.2.2.1.length)))=true
   ·have hb':=hb
    simp only[zLZ,zLr]at hb';obtain⟨b1,b2,b3⟩:=hb';have aI:x.2.1.toNat<8:=by omega
    have g1:=XN hi.1 aI;have g2:=XN ho.1 aI
    rw[hb];refine Ok.jg (fun _=>(Ok.idx b2 g1).2 ?_) fun h=>nomatch h
    rw[Ok.bind];have cI:spN j.2.2.1.length inn out x=(!B8 inn x.2.1.toNat && !B8 out x.2.1.toNat):=by
     grind [spN]
    have hg:Ok (Comp.gd (sel true (ntB (B8 inn x.2.1.toNat)) false) (idx out x.2.1) false) fun b=>sel (sel true (ntB (B8 inn x.2.1.toNat)) false) (ntB b) false=spN j.2.2.1.length inn out x:=by
     rw[cI]
     cases hbi:B8 inn x.2.1.toNat with
     |true=>exact Ok.jg (fun h=>nomatch h) fun _=>rfl
     |false=>grind [Ok.jg,Ok.idx]
    refine hg.mono fun b aF=>?_
    rw[aF,vo];by_cases hs:spN j.2.2.1.length inn out x=true
    ·rw[hs,zLz rfl]
     rw[cI,zLZ,Bool.not_eq_true',Bool.not_eq_true']at hs;have aN:=hs
     have hA9:jy inn x.2.1 true=inn.set x.2.1.toNat true:=rfl;have hB1:jy out x.2.1 true=out.set x.2.1.toNat true:=rfl
     rw[Ok.zI (ga ⟨b2,by omega⟩),Ok.zI (ga ⟨b2,by omega⟩),hA9,hB1,zJ (by omega),Ok.bind]
     have u1:und (inn.set x.2.1.toNat true) out<und inn out:=uZ aI hs fun k hk=>by
      rw[jT hi.1 aI];grind
     have u2:und inn (out.set x.2.1.toNat true)<und inn out:=uZ aI hs fun k hk=>by
      rw[jT ho.1 aI];grind
     have bel1:Bel (inn.set x.2.1.toNat true) j.2.2.1.length:=⟨by simp[hi.1],fun i lR=>by
      rw[jT hi.1 aI]at lR;split at lR
      ·omega
      ·exact hi.2 i lR⟩
     have bel2:Bel (out.set x.2.1.toNat true) j.2.2.1.length:=⟨by simp[ho.1],fun i lR=>by
      rw[jT ho.1 aI]at lR;split at lR
      ·omega
      ·exact ho.2 i lR⟩
     have es:spN j.2.2.1.length inn out x=true:=by grind
     refine(ih (inn.set x.2.1.toNat true) out (at_+1) (by omega) bel1 ho (by omega)).mono ?_
     rintro z ⟨rfl,hz⟩;rw[<-hr]at hz |-
     have eF:∀T,pvF (enq j) j.2.2.1 sp lim m (inn.set x.2.1.toNat true) out r=T->pvF (enq j) j.2.2.1 sp lim (m+1) inn out (x::r)=match T with
       |none=>none
       |some r'=>pvF (enq j) j.2.2.1 sp lim m inn (out.set x.2.1.toNat true) r':=fun T hT=>by
      conv=>lhs;unfold pvF
      grind
     cases hT:pvF (enq j) j.2.2.1 sp lim m (inn.set x.2.1.toNat true) out r with
     |none =>
      rw[eF none hT];show Ok (Comp.pure (Sum.inl ())) _
      rw[Ok.pure];exact⟨rfl,fun r' h=>by cases h⟩
     |some r1 =>
      obtain⟨q1,q2⟩:=hz r1 hT;rw[eF (some r1) hT];show Ok ((kU m inn (out.set x.2.1.toNat true) l (j,sp,()) lim ((l.length-r1.length:Nat):Int)).bind _) _
      rw[Ok.bind];refine(ih inn (out.set x.2.1.toNat true) (l.length-r1.length) (by omega) hi bel2 (by omega)).mono ?_
      rintro z ⟨rfl,iH⟩;rw[<-q1]at iH |-;have eM:(match some r1 with|none=>none|some r'=>pvF (enq j) j.2.2.1 sp lim m inn (out.set x.2.1.toNat true) r')=pvF (enq j) j.2.2.1 sp lim m inn (out.set x.2.1.toNat true) r1:=rfl
      rw[eM]
      cases hT2:pvF (enq j) j.2.2.1 sp lim m inn (out.set x.2.1.toNat true) r1 with
      |none =>
       show Ok (Comp.pure (Sum.inl ())) _
       rw[Ok.pure];exact⟨rfl,fun r' h=>by cases h⟩
      |some r2 =>
       show Ok (Comp.pure (Sum.inr (((l.length-r2.length:Nat):Int),()))) _
       rw[Ok.pure];exact⟨rfl,fun r' h=>by grind⟩
    ·have hs:spN j.2.2.1.length inn out x=false:=by grind
     have eF:pvF (enq j) j.2.2.1 sp lim (m+1) inn out (x::r)=none:=by
      conv=>lhs;unfold pvF
      grind
     rw[hs,zMA (by decide),Ok.bind,eF]
     have n2:eqI x.1 2=false:=by grind
     have n3:eqI x.1 3=false:=by grind
     rw[n2,n3];refine Ok.jg (fun h=>nomatch h) fun _=>?_
     rw[vo,zMA (by grind),Ok.bind]
     refine Ok.jg (fun h=>nomatch h) fun _=>?_
     rw[zMA (by grind),Ok.pure]
     exact⟨rfl,fun r' h=>by cases h⟩
   ·have hb:(decide (x.1=1) && (decide (0<=x.2.1) && decide (x.2.1<j.2.2.1.length)))=false:=by grind
    have hs:spN j.2.2.1.length inn out x=false:=by
     grind [spN]
    rw[hb];refine Ok.jg (fun h=>nomatch h) fun _=>?_
    rw[Ok.bind];refine Ok.jg (fun h=>nomatch h) fun _=>?_
    rw[vo,zMA (by decide),Ok.bind]
    have a8:=qd (sp:=sp) hi.1 hi.2 hj.cs;have eF:pvF (enq j) j.2.2.1 sp lim (m+1) inn out (x::r)=if (x.1=2/\x.2.1=0)/\0<lim/\lim<=cst j.2.2.1 (sl inn) then some r else if (x.1=3/\x.2.1=0)/\shQ (enq j) j.2.2.1 sp inn out=true then some r else none:=by
     conv=>lhs;unfold pvF
     grind
    rw[eF];have eO:Ok (Comp.gd (sel (sel (eqI x.1 2) (eqI x.2.1 0) false) (gtI lim 0) false) (vW (j,sp,()) inn) (0,())) fun c=>sel (sel (sel (eqI x.1 2) (eqI x.2.1 0) false) (gtI lim 0) false) (geI c.1 lim) false=decide ((x.1=2/\x.2.1=0)/\0<lim/\lim<=cst j.2.2.1 (sl inn)):=by
     have e2:sel (sel (eqI x.1 2) (eqI x.2.1 0) false) (gtI lim 0) false=decide ((x.1=2/\x.2.1=0)/\0<lim):=by
      grind
     rw[e2];by_cases h:(x.1=2/\x.2.1=0)/\0<lim
     ·rw[zMC h]
      refine Ok.jg (fun _=>(Ok.zr a8).2 ?_) fun h=>nomatch h
      grind
     grind [Ok.jg]
    refine eO.mono fun c hc=>?_
    rw[hc,vo];by_cases h2:(x.1=2/\x.2.1=0)/\0<lim/\lim<=cst j.2.2.1 (sl inn)
    ·rw[zMC h2,zLz rfl,zLz h2,zJ (by omega)]
     grind
    ·rw[zMB h2,zMA (by decide),zMA h2,Ok.bind]
     have hsg:Ok (Comp.gd (sel (eqI x.1 3) (eqI x.2.1 0) false) (gL (j,sp,()) inn out) (false,())) fun c=>sel (sel (eqI x.1 3) (eqI x.2.1 0) false) c.1 false=decide ((x.1=3/\x.2.1=0)/\shQ (enq j) j.2.2.1 sp inn out=true):=by
      have e2:sel (eqI x.1 3) (eqI x.2.1 0) false=decide (x.1=3/\x.2.1=0):=by
       rw[kB,Bool.eq_iff_iff,zLZ,Z6,Z6,decide_eq_true_iff]
      rw[e2];by_cases h:x.1=3/\x.2.1=0
      ·rw[zMC h]
       refine Ok.jg (fun _=>(Ok.zr (hj.rj bI hi.1 ho.1)).2 ?_) fun h=>nomatch h
       grind
      grind [Ok.jg]
     refine hsg.mono fun c hc=>?_
     rw[hc];by_cases h3:(x.1=3/\x.2.1=0)/\shQ (enq j) j.2.2.1 sp inn out=true
     ·rw[zMC h3,zLz rfl,zLz h3,zJ (by omega)]
      grind
     ·rw[zMB h3,zMA (by decide),zMA h3,Ok.pure]
      exact⟨rfl,fun r' h=>by cases h⟩
end
theorem JW{j:Job}(h:SmB j){lim:Int}{l:List Nd}(hl:l.length<=1000000):(zg j lim l).val=some (pvB j lim l,()):=by
 refine Ok.val ?_;unfold zg pvB;rw[Ok.zI (gx h.s.w h.s.e)];dsimp only;by_cases hc:ckJ j=0
 ·have hj:=h.pl hc
  by_cases h0:0<=lim
  ·rw[zMA (by grind),Ok.zI (wX hj.w hj.cl hj.n hj.sm),zMC hc,zMC h0,Ok.bind]
   dsimp only;have hn:=hj.n
   have hu:und z8 z8<40:=by decide
   refine(hj.walk (sp:=bgn j) (gI _) hl 40 z8 z8 0 hu (Jf.le (Nat.zero_le _)) (Jf.le (Nat.zero_le _)) (Nat.zero_le _)).mono ?_;rintro z ⟨rfl,hz⟩;rw[List.drop_zero]at hz |-
   cases hT:pvF (enq j) j.2.2.1 (bgn j) lim 40 z8 z8 l with
   |none =>
    show Ok (Comp.pure (false,())) _
    rw[Ok.pure];rfl
   |some r =>
    obtain⟨_,q2⟩:=hz r hT;show Ok (Comp.pure (eqI ((l.length-r.length:Nat):Int) (zD l),())) _
    rw[Ok.pure]
    cases r with
    |nil =>
     grind
    |cons x r =>
     grind
  ·rw[zLz (by grind),Ok.pure,zMB h0,Bool.and_false];rfl
 simp_all [XF,je,Ok.pure]
theorem Jq{l:List Int}{n:Int}(hl:l.length<=1000000):(yI l n).val=some (decide (n∈l),()):=by
 refine Ok.val ?_;unfold yI;rw[Ok.bind];refine(Ok.count l.length (fun i (x:Int)=>x=(i:Int)/\n ∉ l.take i) (P:=fun r=>r=if n∈l then .inr true else .inl ()) ⟨rfl,by simp⟩ ?_ ?_).mono ?_
 ·rintro i x hi ⟨rfl,h⟩
  obtain⟨y,hy⟩:=zK hi;rw[zLz (by grind),Ok.bind,Ok.gz hy]
  split
  ·rename_i h1
   rw[Z6]at h1;subst h1;rw[Ok.pure];exact(zLz (zLe hy)).symm
  ·rename_i h1
   rw[Z6]at h1;rw[Ok.pure];refine⟨zJ (by omega),fun h2=>?_⟩
   rw[List.take_add_one,hy]at h2;grind
 ·rintro x ⟨rfl,h⟩
  rw[List.take_length]at h;rw[zMA (by grind),Ok.pure,zMA h]
 ·rintro r rfl
  by_cases h:n∈l
  ·rw[zLz h];dsimp only;rw[Ok.pure];simp[h]
  ·rw[zMA h];dsimp only;rw[Ok.pure];simp[h]
theorem mQ{p:Part}{e:Eff}:spk (kp p) e=true↔∃k,k<p.2.1.length/\wt p k=1/\(sap (cl p k) e.1=false\/sap (cl p k) e.2.1=false):=by
 have h1:∀s:List Cell,(s.any fun c=>!sap c (kp p))=true↔∃k,k<p.2.1.length/\wt p k=1/\sap (cl p k) s=false:=by
  intro s;unfold sap kp;constructor
  ·intro h
   obtain⟨c,hc,h⟩:=List.any_eq_true.1 h;simp only[Bool.not_eq_true',List.all_eq_false]at h;obtain⟨z,hz,h⟩:=h;obtain⟨k,hk,rfl⟩:=List.mem_map.1 hz;obtain⟨x9,xB⟩:=List.mem_filter.1 hk;refine⟨k,List.mem_range.1 x9,by simpa using xB,?_⟩
   rw[List.all_eq_false];exact⟨c,hc,by rw[qg];exact h⟩
  ·rintro⟨k,x9,xB,h⟩
   obtain⟨c,hc,h⟩:=List.all_eq_false.1 h;refine List.any_eq_true.2 ⟨c,hc,?_⟩;simp only[Bool.not_eq_true',List.all_eq_false];exact⟨cl p k,List.mem_map.2 ⟨k,List.mem_filter.2 ⟨List.mem_range.2 x9,by simpa using xB⟩,rfl⟩,by rw[qg];exact h⟩
 unfold spk;rw[zLx,h1,h1];constructor
 ·rintro(⟨k,a,b,c⟩|⟨k,a,b,c⟩)
  ·exact⟨k,a,b,.inl c⟩
  ·exact⟨k,a,b,.inr c⟩
 ·rintro⟨k,a,b,c|c⟩
  ·exact .inl ⟨k,a,b,c⟩
  ·exact .inr ⟨k,a,b,c⟩
theorem zEM{s:List Cell}{c:Cell}(h:(cov s c).1=true):(cov s c).2=0:=by
 unfold cov at h |-;grind
section
variable {j:Job} (hj:PlOk j)
include hj
theorem PlOk.VC{x:Eff}(hx:x.1.length<=100000/\x.2.1.length<=100000):(jB j x).val=some (spk (kp j.1) x,()):=by
 refine Ok.val ?_;unfold jB;rw[Ok.bind];have hw:=hj.w
 have xO:=hj.cl;refine(Ok.count j.1.2.1.length (fun i (n:Int)=>n=(i:Int)/\∀k,k<i->wt j.1 k=1->sap (Geo.cl j.1 k) x.1=true/\sap (Geo.cl j.1 k) x.2.1=true) (P:=fun r=>r=if spk (kp j.1) x=true then .inr true else .inl ()) ⟨rfl,fun k h=>by omega⟩ ?_ ?_).mono ?_
 ·rintro i n hi ⟨rfl,h⟩
  obtain⟨c,hc⟩:=zK (xs:=j.1.2.1) (k:=i) hi;obtain⟨wv,dK⟩:=zK (xs:=j.1.2.2.1) (k:=i) (by omega)
  have ew:wt j.1 i=wv:=by unfold wt;exact ji dK
  have ec:Geo.cl j.1 i=c:=by unfold Geo.cl;exact ji hc
  rw[zLz (by grind),Ok.bind,Ok.gz dK]
  by_cases h1:wv=1
  ·have e1:eqI wv 1=true:=by rw[Z6];exact h1
   rw[e1];rw[Ok.bind,Ok.gd,zLz rfl,Ok.gz hc,Ok.bind,Ok.gd,zLz rfl,Ok.zr (Y2 c (by omega))]
   dsimp only;rw[Ok.bind,Ok.gd];by_cases h2:sap c x.1=true
   ·rw[zLz (by rw[h2];rfl),Ok.gz hc,Ok.bind,Ok.gd,zLz (by rw[h2];rfl),Ok.zr (Y2 c (by omega))]
    dsimp only;by_cases h3:sap c x.2.1=true
    ·rw[zMA (by rw[h2,h3];decide),Ok.pure]
     refine⟨zJ (by omega),fun k hk x9=>?_⟩
     by_cases e:k=i
     ·subst e;rw[ec];exact⟨h2,h3⟩
     ·exact h k (by omega) x9
    ·rw[zLz (by rw[Bool.not_eq_true]at h3;rw[h3];cases sap c x.1<;>rfl),Ok.pure]
     refine(zLz (mQ.2 ⟨i,hi,by rw[ew];exact h1,.inr ?_⟩)).symm
     rw[ec];simpa using h3
   ·rw[Bool.not_eq_true]at h2
    rw[zMA (by rw[h2];decide),Ok.bind,Ok.gd,zMA (by rw[h2];decide)]
    rw[zLz (by rw[h2];rfl),Ok.pure]
    refine(zLz (mQ.2 ⟨i,hi,by rw[ew];exact h1,.inl ?_⟩)).symm
    rw[ec];exact h2
  ·have e1:eqI wv 1=false:=by rw[Bool.eq_false_iff];intro h;rw[Z6]at h;exact h1 h
   rw[e1,Ok.bind,Ok.gd,zMA (by decide),Ok.bind,Ok.gd,zMA (by decide),Ok.bind,Ok.gd,zMA (by decide),Ok.bind,Ok.gd,zMA (by decide),zMA (by decide),Ok.pure]
   refine⟨zJ (by omega),fun k hk x9=>?_⟩
   by_cases e:k=i
   ·subst e;rw[ew]at x9;exact zLp x9 h1
   ·exact h k (by omega) x9
 ·rintro n ⟨rfl,h⟩
  rw[zMA (by grind),Ok.pure]
  refine(zMA fun hs=>?_).symm
  obtain⟨k,h1,h2,h3⟩:=mQ.1 hs;obtain⟨g1,g2⟩:=h k h1 h2;rw[g1,g2]at h3;simp at h3
 ·rintro r rfl
  by_cases h:spk (kp j.1) x=true
  ·rw[zLz h];dsimp only;rw[Ok.pure,h]
  ·rw[zMA h];dsimp only;rw[Ok.pure];rw[Bool.not_eq_true]at h;rw[h]
def spL(j:Job):List Bool:=j.2.2.1.map (spk (kp j.1))
omit hj in
theorem GV{k:Nat}(hn:j.2.2.1.length<=8)(hk:k<j.2.2.1.length):(spL j)[k]?=some (B8 (bgn j) k):=by
 obtain⟨x,hx⟩:=zK hk;unfold spL bgn;rw[List.getElem?_map,hx,X7 (by omega)]
 have:opn j.2.2.1 (k:Int)=x:=by unfold opn;exact ji hx
 rw[this];simp[hk]
theorem PlOk.Gl:(gC j).val=some (spL j,()):=by
 refine Ok.val ?_;unfold gC;rw[Ok.bind];have hn:=hj.n
 refine(Ok.count j.2.2.1.length (fun i (s:List Bool×Int)=>s=((spL j).take i,(i:Int))) (P:=fun r=>r=spL j) rfl ?_ ?_).mono fun r hr=>by rw[Ok.pure,hr]
 ·rintro i s hi rfl
  obtain⟨x,hx⟩:=zK hi;have hs:(spL j)[i]?=some (spk (kp j.1) x):=by unfold spL;rw[List.getElem?_map,hx];rfl
  dsimp only;rw[zLz (by grind),Ok.bind,Ok.gz hx,Ok.zI (hj.VC (hj.sm x (zLe hx)))]
  refine zp (by simp;omega) ?_
  rw[Ok.pure];rw[zJ (by omega),List.take_add_one,hs];rfl
 ·rintro s rfl
  dsimp only;rw[zMA (by grind),Ok.pure]
  exact List.take_of_length_le (by simp[spL])
def ctL(j:Job)(l:List Int):List Cell:=j.2.1.2.2.1++l.flatMap fun k=>(opn j.2.2.1 k).1
omit hj in
theorem zEL{s:List Bool}:ctL j (slI s)=ctS j s:=by
 unfold ctL ctS slI;rw[List.flatMap_map]
theorem PlOk.Gj{l:List Int}(hl:l.length<=8)(fE:∀k∈l,0<=k/\k<j.2.2.1.length):(vz j l).val=some ((enR j.1 j.2.1 (ctL j l) 0 j.1.2.1.length).1,(enR j.1 j.2.1 (ctL j l) 0 j.1.2.1.length).2,()):=by
 refine Ok.val ?_;unfold vz;have hpc:=hj.pc
 have xO:=hj.cl;have hw:=hj.w
 have hx:=hj.x;have oE:∀i,i<=l.length->((l.take i).flatMap fun k=>(opn j.2.2.1 k).1).length<=i * 100000:=by
  intro i
  induction i with
  |zero=>intro _;simp
  |succ i ih =>
   intro hi;obtain⟨k,hk⟩:=zK (xs:=l) (k:=i) (by omega)
   have hkr:=fE k (zLe hk);obtain⟨x,hx⟩:=zK (xs:=j.2.2.1) (k:=k.toNat) (by omega)
   have e:opn j.2.2.1 k=x:=by unfold opn;exact ji hx
   have:=(hj.sm x (zLe hx)).1;have:=ih (by omega)
   rw[List.take_add_one,hk,List.flatMap_append,zLa];simp only[Option.toList_some,List.flatMap_cons,List.flatMap_nil,zMF,e];omega
 refine zp (by simp;omega) ?_
 rw[Ok.bind,List.nil_append];refine(Ok.count l.length (fun i (s:List Cell×Int)=>s=(j.2.1.2.2.1++(l.take i).flatMap fun k=>(opn j.2.2.1 k).1,(i:Int))) (P:=fun r=>r=ctL j l) (by simp) ?_ ?_).mono ?_
 ·rintro i s hi rfl
  obtain⟨k,hk⟩:=zK hi;have hkr:=fE k (zLe hk)
  obtain⟨x,hx⟩:=zK (xs:=j.2.2.1) (k:=k.toNat) (by omega)
  have e:opn j.2.2.1 k=x:=by unfold opn;exact ji hx
  have h1:=oE i (by omega)
  have h2:=(hj.sm x (zLe hx)).1;dsimp only;rw[zLz (by grind),Ok.bind,Ok.gz hk,Ok.bind,Ok.idx hkr.1 hx]
  refine zp (by rw[zLa];omega) ?_
  rw[Ok.pure];rw[zJ (by omega),List.take_add_one,hk,List.flatMap_append]
  simp[e]
 ·rintro s rfl
  dsimp only;rw[zMA (by grind),Ok.pure,List.take_length];rfl
 rintro cuts rfl;have hB3:(ctL j l).length<=900000:=by
  have:=oE l.length (zLb _);rw[List.take_length]at this;unfold ctL;rw[zLa];omega
 generalize ctL j l=cuts at hB3 |-;rw[Ok.bind];refine(Ok.count j.1.2.1.length (fun i (n:Int)=>n=(i:Int)/\scan (enG j.1 j.2.1 cuts) (.inl ()) 0 j.1.2.1.length=scan (enG j.1 j.2.1 cuts) (.inl ()) i (j.1.2.1.length-i)) (P:=fun r=>r=scan (enG j.1 j.2.1 cuts) (.inl ()) 0 j.1.2.1.length) ⟨rfl,rfl⟩ ?_ ?_).mono ?_
 ·rintro i n hi ⟨rfl,h⟩
  obtain⟨c,hc⟩:=zK (xs:=j.1.2.1) (k:=i) hi;obtain⟨wv,dK⟩:=zK (xs:=j.1.2.2.1) (k:=i) (by omega)
  obtain⟨sv,hsv⟩:=zK (xs:=j.2.1.1) (k:=i) (by omega)
  have ew:wt j.1 i=wv:=by unfold wt;exact ji dK
  have ec:Geo.cl j.1 i=c:=by unfold Geo.cl;exact ji hc
  have es:j.2.1.1.getD i false=sv:=ji hsv
  have hs:scan (enG j.1 j.2.1 cuts) (.inl ()) i (j.1.2.1.length-i)=match enG j.1 j.2.1 cuts i with
   |some e=>e
   |none=>scan (enG j.1 j.2.1 cuts) (.inl ()) (i+1) (j.1.2.1.length-(i+1)):=by
   rw[show j.1.2.1.length-i=(j.1.2.1.length-(i+1))+1 by omega];cases h:enG j.1 j.2.1 cuts i<;>simp[scan,h]
  rw[hs]at h;rw[zLz (by grind)]
  refine vV (fun _=>enG j.1 j.2.1 cuts i=none) (fun j' hj'=>?_) fun u hu=>?_
  rotate_left
  ·rw[Ok.pure]
   rw[hu]at h;exact⟨zJ (by omega),h⟩
  rw[Ok.bind,Ok.gz dK];by_cases oD:wv=2
  ·have e1:neI wv 2=false:=by rw[oD];rfl
   rw[e1,Ok.bind,Ok.gd,zLz (by rfl),Ok.gz hsv]
   cases sv with
   |true=>rw[zLz (by rfl)];exact hj' () (by unfold enG;rw[es];simp)
   |false =>
    rw[zMA (by decide),Ok.bind]
    refine(Ok.count cuts.length (fun k (s:List Cell×Int)=>s=(nr (cuts.take k) c,(k:Int))) (P:=fun r=>r=nr cuts c) rfl ?_ ?_).mono ?_
    ·rintro k s hk rfl
     obtain⟨z,hz⟩:=zK hk;have fG:(nr (cuts.take k) c).length<=k:=zLg (List.length_filter_le _ _) (List.length_take_le _ _)
     have ht:nr (cuts.take (k+1)) c=nr (cuts.take k) c++if apa z c=true then [] else [z]:=by
      unfold nr;rw[List.take_add_one,hz,List.filter_append];by_cases h:apa z c=true<;>simp[h]
     dsimp only;rw[zLz (by grind),Ok.bind,Ok.gz hz,Ok.bind,Ok.gz hc,Ok.zI (ki z c)]
     dsimp only;refine vV (fun y=>y=nr (cuts.take (k+1)) c) (fun j2 aG=>?_) fun y hy=>by rw[Ok.pure,hy,zJ (by omega)]
     by_cases h:apa z c=true
     ·rw[zMA (by rw[h];decide)]
      exact aG _ (by rw[ht,zLz h,zMF])
     ·rw[zLz (by rw[Bool.not_eq_true]at h;rw[h];rfl),Ok.bind,Ok.gz hz]
      refine zp (by rw[zLc];omega) (aG _ ?_)
      rw[ht,zMA h]
    ·rintro s rfl
     dsimp only;rw[zMA (by grind),Ok.pure,List.take_length]
    ·rintro nrs rfl
     rw[Ok.bind,Ok.gz hc,Ok.zI (wj _ _)];dsimp only;by_cases lB:(cov (nr cuts c) c).1=true
     ·rw[zEM lB,lB,zMA (by decide)]
      exact hj' () (by unfold enG;rw[ec,lB];simp)
     ·rw[zLz (by rw[Bool.not_eq_true]at lB;rw[lB];cases neI (cov (nr cuts c) c).2 0<;>rfl),Ok.pure]
      have:enG j.1 j.2.1 cuts i=some (.inr (false,(cov (nr cuts c) c).2)):=by
       unfold enG;rw[ew,es,ec,zMA (by simp[oD]),zMA lB]
      rw[this]at h;exact h.symm
  ·have e1:neI wv 2=true:=by rw[je];exact oD
   rw[e1,Ok.bind,Ok.gd,zMA (by decide),zLz (by rfl)]
   exact hj' () (by unfold enG;rw[ew,zLz (.inl oD)])
 ·rintro n ⟨rfl,h⟩
  rw[zMA (by grind),Ok.pure]
  rw[Nat.sub_self]at h;exact h.symm
 ·rintro r rfl
  rw[<-qa]
  cases hq:enR j.1 j.2.1 cuts 0 j.1.2.1.length with
  |mk b e =>
   have:=@AG j.1 j.2.1 cuts j.1.2.1.length 0;rw[hq]at this
   cases b with
   |true=>have he:e=0:=this rfl;subst he;exact(Ok.pure (P:=fun x=>x=(true,(0:Int),()))).2 rfl
   |false=>exact(Ok.pure (P:=fun x=>x=(false,e,()))).2 rfl
end
theorem zFR{t:List Bool}(ht:t.length=8){k:Nat}(hk:k<8):sl (t.set k false)=(sl t).filter fun i=>decide (i≠k):=by
 unfold sl;rw[List.filter_filter];refine List.filter_congr fun i hi=>?_
 rw[jT ht hk];by_cases h:i=k
 ·simp[h]
 ·simp[h]
def Rp(l:List Int)(s:List Bool):Prop:=l.Perm (slI s)
theorem uf{s:List Bool}{x:Int}:x∈slI s↔∃k:Nat,x=(k:Int)/\k<8/\B8 s k=true:=by
 unfold slI;rw[List.mem_map];constructor
 ·rintro⟨k,hk,rfl⟩;exact⟨k,rfl,jk.1 hk⟩
 ·rintro⟨k,rfl,hk⟩;exact⟨k,jk.2 hk,rfl⟩
theorem NO(s:List Bool):(sl s).Nodup:=List.Nodup.sublist List.filter_sublist List.nodup_range
theorem wI(s:List Bool):(slI s).Nodup:=by
 unfold slI;rw[List.nodup_iff_pairwise_ne,List.pairwise_map];exact(List.nodup_iff_pairwise_ne.1 (NO s)).imp fun h e=>h (by omega)
theorem Rp.mem{l:List Int}{s:List Bool}(h:Rp l s){x:Int}:x∈l↔∃k:Nat,x=(k:Int)/\k<8/\B8 s k=true:=by rw[h.mem_iff,uf]
theorem Rp.len{l:List Int}{s:List Bool}(h:Rp l s):l.length<=8:=by rw[h.length_eq];exact YT s
theorem Rp.nil:Rp [] z8:=by unfold Rp;decide
theorem Rp.has{l:List Int}{s:List Bool}(h:Rp l s){k:Nat}(hk:k<8):decide ((k:Int)∈l)=B8 s k:=by
 rw[Bool.eq_iff_iff,zLr,h.mem];constructor
 ·rintro⟨i,h1,_,h2⟩;rw[show k=i by omega];exact h2
 ·exact fun h=>⟨k,rfl,hk,h⟩
theorem Rp.snoc{l:List Int}{s:List Bool}(h:Rp l s)(hs:s.length=8){i:Nat}(hi:i<8)(hb:B8 s i=false):Rp (l++[(i:Int)]) (s.set i true):=by
 have hn:(l++[(i:Int)]).Nodup:=by
  rw[List.nodup_append];refine⟨h.symm.nodup (wI s),by simp,fun a ha b hb'=>?_⟩
  rw[List.mem_singleton]at hb';subst hb';rintro rfl;obtain⟨k,h1,_,h2⟩:=h.mem.1 ha;rw[show k=i by omega,hb]at h2
  cases h2
 refine(List.perm_ext_iff_of_nodup hn (wI _)).2 fun x=>?_
 rw[zLi,h.mem,List.mem_singleton,uf];constructor
 ·rintro(⟨k,rfl,h1,h2⟩|rfl)
  ·exact⟨k,rfl,h1,by rw[jT hs hi];split<;>simp_all⟩
  ·exact⟨i,rfl,hi,by rw[jT hs hi,zLz rfl]⟩
 ·rintro⟨k,rfl,h1,h2⟩
  rw[jT hs hi]at h2;split at h2
  ·rename_i e;subst e;exact .inr rfl
  ·exact .inl ⟨k,rfl,h1,h2⟩
theorem erase_filter{l:List Int}:∀ {i:Nat} {x:Int},l.Nodup->l[i]?=some x->l.take i++l.drop (i+1)=l.filter fun y=>decide (y≠x):=by
 induction l with
 |nil=>intro i x _ h;simp at h
 |cons a l ih =>
  intro i x hn h;rw[List.nodup_cons]at hn
  cases i with
  |zero =>
   simp only[List.getElem?_cons_zero,zLw]at h;subst h;simp only[List.take_zero,List.nil_append,Nat.zero_add,List.drop_succ_cons,List.drop_zero];rw[List.filter_cons_of_neg (by simp)]
   exact(List.filter_eq_self.2 fun y hy=>by simpa using fun e:y=a=>hn.1 (e ▸ hy)).symm
  |succ i =>
   simp only[List.getElem?_cons_succ]at h;have fD:a≠x:=fun e=>hn.1 (e ▸ zLe h)
   rw[List.take_succ_cons,List.drop_succ_cons,List.cons_append,ih hn.2 h,List.filter_cons_of_pos (by simpa using fD)]
theorem Ii{s:List Bool}(hs:s.length=8){i k:Nat}(h:(sl s)[i]?=some k):(slI s).take i++(slI s).drop (i+1)=slI (s.set k false):=by
 have hk:=(jk.1 (zLe h)).1;rw[erase_filter (x:=(k:Int)) (wI s) (by unfold slI;rw[List.getElem?_map,h];rfl)]
 unfold slI;rw[zFR hs hk,List.filter_map]
 congr 1
 refine List.filter_congr fun y _=>?_
 simp;omega
theorem MM{L:List Eff}{l:List Int}{s:List Bool}(h:Rp l s):(l.map fun k=>(opn L k).2.2.1).sum=cst L (sl s):=by
 have:∀ {a b:List Int},a.Perm b->a.sum=b.sum:=by
  intro a b h
  induction h with
  |nil=>rfl
  |cons x _ ih=>simp[ih]
  |swap x y l=>simp;omega
  |trans _ _ h1 h2=>exact h1.trans h2
 rw[this (h.map _)];unfold cst slI;rw[List.map_map];rfl
theorem zFV{n:Nat}{sp out:List Bool}(hn:n<=8):sl (rs n sp out)=(List.range n).filter fun k=>!B8 out k && !B8 sp k:=by
 unfold sl;have e:List.range 8=List.range n++(List.range (8-n)).map (n + ·):=by rw[<-List.range_add,Nat.add_sub_cancel' hn]
 rw[e,List.filter_append];have h2:((List.range (8-n)).map (n + ·)).filter (B8 (rs n sp out))=[]:=by
  refine List.filter_eq_nil_iff.2 fun a ha=>?_
  obtain⟨i,hi,rfl⟩:=List.mem_map.1 ha;intro h;have:=(Ck h).1
  omega
 rw[h2,zMF];refine List.filter_congr fun k hk=>?_
 have hk:=List.mem_range.1 hk;unfold rs;rw[X7 (by omega)]
 simp[hk]
section
variable {j:Job} (hj:PlOk j)
include hj
theorem PlOk.Sk{l:List Int}{s:List Bool}(h:Rp l s)(hb:Bel s j.2.2.1.length):(yV j l).val=some (cst j.2.2.1 (sl s),()):=by
 refine Ok.val ?_;unfold yV;rw[Ok.bind];have hl:=h.len
 have hr:∀x∈l,∃k:Nat,x=(k:Int)/\k<j.2.2.1.length:=fun x hx=>by
  obtain⟨k,h1,_,h2⟩:=h.mem.1 hx;exact⟨k,h1,hb.2 k h2⟩
 have bO:∀i,i<=l.length->0<=((l.take i).map fun k=>(opn j.2.2.1 k).2.2.1).sum/\((l.take i).map fun k=>(opn j.2.2.1 k).2.2.1).sum<=i * 1048576:=by
  intro i
  induction i with
  |zero=>intro _;simp
  |succ i ih =>
   intro hi;obtain⟨x,hx⟩:=zK (xs:=l) (k:=i) (by omega)
   obtain⟨k,rfl,hk⟩:=hr x (zLe hx);have h1:=hj.cs k hk
   have h2:=ih (by omega)
   rw[List.take_add_one,hx,List.map_append,List.sum_append];simp only[Option.toList_some,List.map_cons,List.map_nil,List.sum_cons,List.sum_nil];omega
 refine(Ok.count l.length (fun i (x:Int×Int)=>x=(((l.take i).map fun k=>(opn j.2.2.1 k).2.2.1).sum,(i:Int))) (P:=fun r=>r=cst j.2.2.1 (sl s)) rfl ?_ ?_).mono fun r hr=>by rw[Ok.pure,hr]
 ·rintro i x hi rfl
  obtain⟨y,hy⟩:=zK hi;obtain⟨k,rfl,hk⟩:=hr y (zLe hy);have h1:=hj.cs k hk
  have h2:=bO i (by omega)
  dsimp only;rw[zLz (by grind),Ok.bind,Ok.gz hy,Ok.bind,Ok.zr (Jp ⟨by omega,by omega⟩),Ok.pure]
  rw[zJ (by omega),jS (by omega),List.take_add_one,hy,List.map_append,List.sum_append]
  simp
 ·rintro x rfl
  dsimp only;rw[zMA (by grind),Ok.pure,List.take_length]
  exact MM h
theorem PlOk.Qz{s:List Bool}{k:Nat}(hk:k<j.2.2.1.length){q:Int}(hq:q∈(opn j.2.2.1 (k:Int)).2.2.2.1):decide (q∈slI s)=B8 s q.toNat:=by
 have:=hj.nd k q hq;have hn:=hj.n
 rw[show q=((q.toNat:Nat):Int) by omega]
 exact Rp.has (List.Perm.refl _) (by omega)
end
section
variable {j:Job} (hj:PlOk j)
include hj
theorem PlOk.zFX{s:List Bool}(hs:Bel s j.2.2.1.length):Ok (Comp.loop (fun (x_2:Int×Int)=>if sel (ltI x_2.2 (zD (slI s))) (ltI x_2.1 0) false=true then (idx (slI s) x_2.2).bind fun x=>(idx j.2.2.1 x).bind fun x=>(Comp.loop (fun (x_3:Int×Int)=>if ltI x_3.2 (zD x.2.2.2.1)=true then (idx x.2.2.2.1 x_3.2).bind fun x=>(yI (slI s) x).bind fun x=>jn (fun (x:Int)=>Comp.pure (.next (x,zG .i64 x_3.2 1))) fun (j:Int->Comp (Comp.Step (Int×Int) Int))=>if ntB x.1=true then j x_2.2 else j x_3.1 else Comp.pure (.done x_3.1)) (x_2.1,0)).bind fun x=>Comp.pure (.next (x,zG .i64 x_2.2 1)) else Comp.pure (.done x_2.1)) (-1,0))
  fun r=>(r<0/\∀k∈sl s,∀q∈(opn j.2.2.1 (k:Int)).2.2.2.1,q∈slI s)\/∃i k:Nat,r=(i:Int)/\(sl s)[i]?=some k/\∃q∈(opn j.2.2.1 (k:Int)).2.2.2.1,q ∉ slI s:=by
 have hl:=YT s;have cV:(slI s).length=(sl s).length:=by simp[slI]
 refine Ok.count (slI s).length (fun i (x:Int×Int)=>x.2=(i:Int)/\((x.1<0/\∀m,m<i->∀k,(sl s)[m]?=some k->∀q∈(opn j.2.2.1 (k:Int)).2.2.2.1,q∈slI s)\/∃i k:Nat,x.1=(i:Int)/\(sl s)[i]?=some k/\∃q∈(opn j.2.2.1 (k:Int)).2.2.2.1,q ∉ slI s)) ⟨rfl,.inl ⟨by show (-1:Int)<0;decide,fun m h=>by omega⟩⟩ ?_ ?_
 ·rintro i ⟨lost,n⟩ hi ⟨h1,h2⟩
  dsimp only at h1 h2;subst h1;obtain⟨y,hy⟩:=zK hi;obtain⟨k,hk,rfl⟩:=Qu hy;have oF:=jk.1 (zLe hk)
  have aL:=hs.2 k oF.2;rcases h2 with ⟨h2,h3⟩|h2
  ·dsimp only
   rw[zLz (by rw[kB,zLZ,zY,zY,zQ];omega),Ok.bind,Ok.gz hy,Ok.bind,Ok.zr (Jp ⟨by omega,by omega⟩),Ok.bind]
   have mJ:=hj.ns k;refine(Ok.count (opn j.2.2.1 (k:Int)).2.2.2.1.length (fun m (x:Int×Int)=>x.2=(m:Int)/\((x.1=lost/\∀q∈(opn j.2.2.1 (k:Int)).2.2.2.1.take m,q∈slI s)\/(x.1=(i:Int)/\∃q∈(opn j.2.2.1 (k:Int)).2.2.2.1,q ∉ slI s))) (P:=fun r=>(r=lost/\∀q∈(opn j.2.2.1 (k:Int)).2.2.2.1,q∈slI s)\/(r=(i:Int)/\∃q∈(opn j.2.2.1 (k:Int)).2.2.2.1,q ∉ slI s)) ⟨rfl,.inl ⟨rfl,by simp⟩⟩ ?_ ?_).mono ?_
   ·rintro m ⟨r,n⟩ hm ⟨h4,h5⟩
    dsimp only at h4 h5;subst h4;obtain⟨q,hq⟩:=zK hm;dsimp only;rw[zLz (by grind),Ok.bind,Ok.gz hq,Ok.zI (Jq (by omega))]
    refine vV (fun y=>(y=lost/\∀q∈(opn j.2.2.1 (k:Int)).2.2.2.1.take (m+1),q∈slI s)\/(y=(i:Int)/\∃q∈(opn j.2.2.1 (k:Int)).2.2.2.1,q ∉ slI s)) (fun j' hj'=>?_) fun y hy=>by rw[Ok.pure];exact⟨zJ (by omega),hy⟩
    by_cases fE:q∈slI s
    ·rw[zMA (by simp[fE,ntB])]
     refine hj' _ ?_;rcases h5 with ⟨h5,h6⟩|h5
     ·refine .inl ⟨h5,fun q' hq'=>?_⟩
      rw[List.take_add_one,hq]at hq';rcases zLi.1 hq' with h7|h7
      ·exact h6 q' h7
      ·rw[show q'=q by simpa using h7];exact fE
     ·exact .inr h5
    ·rw[zLz (by simp[fE,ntB])]
     exact hj' _ (.inr ⟨rfl,q,zLe hq,fE⟩)
   ·rintro⟨r,n⟩ ⟨h4,h5⟩
    dsimp only at h4 h5;subst h4;rw[List.take_length]at h5;dsimp only;rw[zMA (by grind),Ok.pure];exact h5
   ·rintro r hr
    rw[Ok.pure];refine⟨zJ (by omega),?_⟩
    rcases hr with ⟨rfl,hr⟩|⟨rfl,hr⟩
    ·refine .inl ⟨h2,fun m hm k' hk'=>?_⟩
     by_cases e:m=i
     ·subst e;rw[hk]at hk';cases hk';exact hr
     ·exact h3 m (by omega) k' hk'
    ·exact .inr ⟨i,k,rfl,hk,hr⟩
  ·dsimp only
   rw[zMA (by obtain⟨i,k,h3,_⟩:=h2;rw[kB,zLZ,zY,zY];omega),Ok.pure]
   exact .inr h2
 ·rintro⟨lost,n⟩ ⟨h1,h2⟩
  dsimp only at h1 h2;subst h1;dsimp only;rw[zMA (by rw[kB,zLZ,zY,zY,zQ];omega),Ok.pure]
  rcases h2 with ⟨h2,h3⟩|h2
  ·refine .inl ⟨h2,fun k hk=>?_⟩
   obtain⟨m,hm⟩:=List.mem_iff_getElem?.1 hk;exact h3 m (by have:=(zLf.1 hm).1;omega) k hm
  ·exact .inr h2
theorem PlOk.zFZ{out:List Int}{os:List Bool}(ho:Rp out os)(xC:Bel os j.2.2.1.length):(j7 j (spL j) out).val=some (slI (KA j.2.2.1 (bgn j) os),()):=by
 refine Ok.val ?_;unfold j7;rw[Ok.bind];have hn:=hj.n
 have hol:=ho.len;refine(Ok.count j.2.2.1.length (fun i (x:List Int×Int)=>x=(((List.range i).filter fun k=>!B8 os k && !B8 (bgn j) k).map fun k:Nat=>(k:Int),(i:Int))) (P:=fun r=>r=slI (rs j.2.2.1.length (bgn j) os)) rfl ?_ ?_).mono ?_
 ·rintro i x hi rfl
  dsimp only;have fG:=List.length_filter_le (fun k=>!B8 os k && !B8 (bgn j) k) (List.range i)
  rw[List.length_range]at fG;have ht:((List.range (i+1)).filter fun k=>!B8 os k && !B8 (bgn j) k).map (fun k:Nat=>(k:Int))=((List.range i).filter fun k=>!B8 os k && !B8 (bgn j) k).map (fun k:Nat=>(k:Int))++if (!B8 os i && !B8 (bgn j) i)=true then [(i:Int)] else []:=by
   rw[List.range_succ,List.filter_append,List.map_append];by_cases h:(!B8 os i && !B8 (bgn j) i)=true
   ·simp[h,List.filter_cons]
   ·simp[h,List.filter_cons]
  rw[zLz (by grind),Ok.zI (Jq (by omega)),ho.has (by omega)]
  dsimp only;rw[Ok.bind];have hg:Ok (Comp.gd (ntB (B8 os i)) (idx (spL j) (i:Int)) false) fun b=>sel (ntB (B8 os i)) (ntB b) false=(!B8 os i && !B8 (bgn j) i):=by
   refine Ok.jg (fun h=>?_) fun h=>?_
   ·rw[Ok.gz (GV hn hi),h]
    rw[yS]at h;rw[h];rfl
   ·rw[h]
    rw[yS]at h;rw[h];rfl
  refine hg.mono fun b hb=>?_
  refine vV (fun y=>y=((List.range (i+1)).filter fun k=>!B8 os k && !B8 (bgn j) k).map (fun k:Nat=>(k:Int))) (fun j' hj'=>?_) fun y hy=>by rw[Ok.pure,hy,zJ (by omega)]
  rw[hb];split
  ·rename_i h
   refine zp (by simp only[List.length_map,zLc];omega) (hj' _ ?_)
   rw[ht,zLz h]
  ·rename_i h
   refine hj' _ ?_;rw[ht,zMA h,zMF]
 ·rintro x rfl
  dsimp only;rw[zMA (by grind),Ok.pure]
  unfold slI;rw[zFV hn]
 rintro l rfl;rw[Ok.bind];have hrb:∀ {s:List Bool},s.length=8->jK s (rs j.2.2.1.length (bgn j) os)->Bel s j.2.2.1.length:=fun h1 h2=>⟨h1,fun i hi=>(Ck (h2 i hi)).1⟩
 refine(Ok.loop (fun l:List Int=>∃s,l=slI s/\s.length=8/\jK s (rs j.2.2.1.length (bgn j) os)/\∀t,jK t (rs j.2.2.1.length (bgn j) os)->YQ j.2.2.1 t->jK t s) (fun l=>l.length) (P:=fun r=>r=slI (KA j.2.2.1 (bgn j) os)) ⟨_,rfl,gI _,jK.refl _,fun t h _=>h⟩ ?_).mono fun r hr=>by rw[Ok.pure,hr]
 rintro l ⟨s,rfl,hs,aM,cJ⟩;have hb:=hrb hs aM
 have hl:=YT s;have cV:(slI s).length=(sl s).length:=by simp[slI]
 rw[Ok.bind];refine(hj.zFX hb).mono ?_;rintro r (⟨hr,hc⟩|⟨i,k,rfl,hk,q,hq,hnq⟩)
 ·rw[zLz (by rw[zY];exact hr),Ok.pure]
  have xO:YQ j.2.2.1 s:=fun k hk q hq=>by
   have aL:=hb.2 k hk;have:=hc k (jk.2 ⟨by omega,hk⟩) q hq
   rw[<-hj.Qz aL hq];simpa using this
  have:RestOk j.2.2.1 (bgn j) os s:=⟨hs,aM,xO,cJ⟩;show slI s=_
  rw[this.is]
 ·have oF:=jk.1 (zLe hk)
  have aL:=hb.2 k oF.2;have hil:=(zLf.1 hk).1
  rw[zMA (by rw[zY];omega),Ok.bind,Ok.sub (by omega),Ok.bind,jS (by omega),zQ,Ok.sub (by omega)]
  refine zp (by simp;omega) (zp (by simp;omega) ?_)
  rw[Ok.pure];have e:[]++List.drop (0:Int).toNat ((slI s).take (i:Int).toNat)++List.drop ((i:Int)+1).toNat ((slI s).take ((slI s).length:Int).toNat)=slI (s.set k false):=by
   rw[<-Ii hs hk,show ((i:Int)+1).toNat=i+1 by omega,show ((slI s).length:Int).toNat=(slI s).length by omega,List.take_length]
   simp
  have xV:∀m,B8 (s.set k false) m=true↔m≠k/\B8 s m=true:=fun m=>by
   rw[jT hs oF.1];split<;>simp_all
  refine⟨⟨s.set k false,e,by simp[hs],fun m hm=>aM m ((xV m).1 hm).2,fun t ht oE m hm=>(xV m).2 ⟨?_,cJ t ht oE m hm⟩⟩,?_⟩
  ·rintro rfl
   have h1:=oE m hm q hq;have h2:=cJ t ht oE _ h1
   rw[<-hj.Qz aL hq]at h2;exact hnq (by simpa using h2)
  ·show ([]++List.drop (0:Int).toNat ((slI s).take (i:Int).toNat)++List.drop ((i:Int)+1).toNat ((slI s).take ((slI s).length:Int).toNat)).length<(slI s).length
   simp only[List.nil_append,zLa,List.length_drop,zLu];omega
theorem PlOk.Qy{inn out:List Int}{ns os:List Bool}(hi:Rp inn ns)(hib:Bel ns j.2.2.1.length)(ho:Rp out os)(xC:Bel os j.2.2.1.length):(vY j (spL j) inn out).val=some (shQ (enq j) j.2.2.1 (bgn j) ns os,()):=by
 refine Ok.val ?_;unfold vY;rw[Ok.zI (hj.zFZ ho xC)];dsimp only;rw[Ok.bind];have hil:=hi.len
 have hn:=hj.n;obtain⟨hr8,xJ⟩:=mT (L:=j.2.2.1) (sp:=bgn j) (out:=os);have hrl:=YT (KA j.2.2.1 (bgn j) os)
 have hhas:∀ {k:Nat},k<8->decide ((k:Int)∈slI (KA j.2.2.1 (bgn j) os))=B8 (KA j.2.2.1 (bgn j) os) k:=fun hk=>Rp.has (List.Perm.refl _) hk
 refine(Ok.count inn.length (fun i (x:Int)=>x=(i:Int)/\∀y∈inn.take i,B8 (KA j.2.2.1 (bgn j) os) y.toNat=true) (P:=fun r=>r=if ((sl ns).any fun k=>!B8 (KA j.2.2.1 (bgn j) os) k)=true then .inr true else .inl ()) ⟨rfl,by simp⟩ ?_ ?_).mono ?_
 ·rintro i x hi' ⟨rfl,h⟩
  obtain⟨y,hy⟩:=zK hi';obtain⟨k,rfl,hk8,oF⟩:=hi.mem.1 (zLe hy);rw[zLz (by grind),Ok.bind,Ok.gz hy,Ok.zI (Jq (by omega)),hhas hk8]
  dsimp only;by_cases h1:B8 (KA j.2.2.1 (bgn j) os) k=true
  ·rw[zMA (by rw[h1];decide),Ok.pure]
   refine⟨zJ (by omega),fun z hz=>?_⟩
   rw[List.take_add_one,hy]at hz;rcases zLi.1 hz with h2|h2
   ·exact h z h2
   ·rw[show z=(k:Int) by simpa using h2];exact h1
  ·rw[Bool.not_eq_true]at h1
   rw[zLz (by rw[h1];rfl),Ok.pure]
   exact(zLz (List.any_eq_true.2 ⟨k,jk.2 ⟨hk8,oF⟩,by rw[h1];rfl⟩)).symm
 ·rintro x ⟨rfl,h⟩
  rw[List.take_length]at h;rw[zMA (by grind),Ok.pure]
  refine(zMA fun ha=>?_).symm
  obtain⟨k,h1,h2⟩:=List.any_eq_true.1 ha;obtain⟨h3,h4⟩:=jk.1 h1;have:=h (k:Int) (hi.mem.2 ⟨k,rfl,h3,h4⟩)
  rw[show ((k:Int)).toNat=k by omega]at this
  rw[this]at h2;cases h2
 ·rintro r rfl
  unfold shQ;by_cases ha:((sl ns).any fun k=>!B8 (KA j.2.2.1 (bgn j) os) k)=true
  ·rw[zLz ha]
   dsimp only;rw[Ok.pure,ha,Bool.true_or]
  ·rw[zMA ha]
   dsimp only;rw[Ok.zI (hj.Gj (by omega) fun k hk=>?_)]
   ·rw[zEL,Ok.pure]
    rw[Bool.not_eq_true]at ha;rw[ha,Bool.false_or];show (sel (eqI (enq j (KA j.2.2.1 (bgn j) os)).2 0) (ntB (enq j (KA j.2.2.1 (bgn j) os)).1) false,())=_
    rw[kB];rfl
   ·obtain⟨m,rfl,_,hm⟩:=uf.1 hk
    have:=xJ.bel.2 m hm;omega
end
def rvO(len:Nat):Option (List Nd)->Int×Unit
 |none=>(-1,())
 |some r=>(((len-r.length:Nat):Int),())
theorem AZ{m:Nat}(hm:0<m){j:Job}{b:List Bool}{lim:Int}{l:List Nd}{x y:List Int}:(yQ m j b lim l (-1) x y).val=some (-1,()):=by
 obtain⟨m,rfl⟩:∃k,m=k+1:=⟨m-1,by omega⟩
 show (vR (yQ m) j b lim l (-1) x y).val=_
 unfold vR;rw[zLz (by rfl),Comp.zB]
theorem Ux{inn out:List Bool}{i:Nat}(hi:i<8)(h8:inn.length=8/\out.length=8)(h:B8 inn i=false/\B8 out i=false):und (inn.set i true) out<und inn out/\und inn (out.set i true)<und inn out :=
 ⟨uZ hi h fun k hk=>by rw[jT h8.1 hi];grind,uZ hi h fun k hk=>by rw[jT h8.2 hi];grind⟩
theorem Bel.add{s:List Bool}{n i:Nat}(h:Bel s n)(hi:i<8)(fE:i<n):Bel (s.set i true) n:=⟨by simp[h.1],fun k hk=>by
 rw[jT h.1 hi]at hk;split at hk
 ·omega
 ·exact h.2 k hk⟩
section
variable {j:Job} (hj:PlOk j)
include hj
theorem PlOk.VD{lim:Int}{l:List Nd}(hl:l.length<=1000000):∀(m:Nat) (inn out:List Int) (ns os:List Bool) (at_:Nat),und ns os<m->Rp inn ns->Rp out os->Bel ns j.2.2.1.length->Bel os j.2.2.1.length->at_<=l.length ->
  (yQ m j (spL j) lim l (at_:Int) inn out).val=some (rvO l.length (pvF (enq j) j.2.2.1 (bgn j) lim m ns os (l.drop at_))):=by
 intro m
 induction m with
 |zero=>omega
 |succ m ih =>
  intro inn out ns os at_ hm fE sG hi ho b7;refine Ok.val ?_;show Ok (vR (yQ m) j (spL j) lim l (at_:Int) inn out) _
  have hn:=hj.n;have hil:=fE.len
  have hol:=sG.len;have xT:∀ {ns os:List Bool} {at_:Nat} {r':List Nd},und ns os<m->Bel ns j.2.2.1.length->Bel os j.2.2.1.length->at_<=l.length->pvF (enq j) j.2.2.1 (bgn j) lim m ns os (l.drop at_)=some r'->r'=l.drop (l.length-r'.length)/\r'.length<=l.length:=fun h1 h2 h3 h4 h5=>by
   obtain⟨_,_,_,h⟩:=hj.walk (sp:=bgn j) (gI _) hl (lim:=lim) m _ _ _ h1 h2 h3 h4;exact h _ h5
  unfold vR
  cases hd:l.drop at_ with
  |nil =>
   have tW:l.length<=at_:=List.drop_eq_nil_iff.1 hd;rw[zLz (by rw[XF,zLx,zY,S3,zQ];omega),Ok.pure]
   rfl
  |cons x r =>
   obtain⟨hx,hr,gF⟩:=HO hd;rw[zMA (by rw[XF,zLx,zY,S3,zQ];omega),Ok.bind,Ok.gz hx,Ok.bind]
   have e1:sel (sel (eqI x.1 1) (geI x.2.1 0) false) (ltI x.2.1 (zD j.2.2.1)) false=(decide (x.1=1) && (decide (0<=x.2.1) && decide (x.2.1<j.2.2.1.length))):=by
    grind
   rw[e1];have hat1:l.length-r.length=at_+1:=by rw[hr,List.length_drop];omega
   by_cases hb:(decide (x.1=1) && (decide (0<=x.2.1) && decide (x.2.1<j.2.2.1.length)))=true
   ·have hb':=hb
    simp only[zLZ,zLr]at hb';obtain⟨b1,b2,b3⟩:=hb';have aI:x.2.1.toNat<8:=by omega
    have ex:((x.2.1.toNat:Nat):Int)=x.2.1:=by omega
    have g1:decide (x.2.1∈inn)=B8 ns x.2.1.toNat:=by rw[<-ex];exact fE.has aI
    have g2:decide (x.2.1∈out)=B8 os x.2.1.toNat:=by rw[<-ex];exact sG.has aI
    rw[hb];refine Ok.jg (fun _=>(Ok.zr (Jq (by omega))).2 ?_) fun h=>nomatch h
    rw[Ok.bind];dsimp only;rw[g1];have cI:spN j.2.2.1.length ns os x=(!B8 ns x.2.1.toNat && !B8 os x.2.1.toNat):=by
     grind [spN]
    have hg:Ok (Comp.gd (sel true (ntB (B8 ns x.2.1.toNat)) false) (yI out x.2.1) (false,())) fun b=>sel (sel true (ntB (B8 ns x.2.1.toNat)) false) (ntB b.1) false=spN j.2.2.1.length ns os x:=by
     rw[cI]
     cases hbi:B8 ns x.2.1.toNat with
     |true=>exact Ok.jg (fun h=>nomatch h) fun _=>rfl
     |false =>
      refine Ok.jg (fun _=>(Ok.zr (Jq (by omega))).2 ?_) fun h=>nomatch h
      dsimp only;rw[g2];rfl
    refine hg.mono fun b aF=>?_
    rw[aF];by_cases hs:spN j.2.2.1.length ns os x=true
    ·have es:=hs
     rw[zLz hs];rw[cI,zLZ,Bool.not_eq_true',Bool.not_eq_true']at hs;obtain⟨u1,u2⟩:=Ux aI ⟨hi.1,ho.1⟩ hs;have bel1:=hi.add aI (by omega)
     have bel2:=ho.add aI (by omega)
     have rp1:=fE.snoc hi.1 aI hs.1;have rp2:=sG.snoc ho.1 aI hs.2
     rw[ex]at rp1 rp2
     have eF:pvF (enq j) j.2.2.1 (bgn j) lim (m+1) ns os (x::r)=match pvF (enq j) j.2.2.1 (bgn j) lim m (ns.set x.2.1.toNat true) os r with
       |none=>none
       |some r'=>pvF (enq j) j.2.2.1 (bgn j) lim m ns (os.set x.2.1.toNat true) r':=by
      conv=>lhs;unfold pvF
      refine(zLz es).trans ?_;generalize pvF (enq j) j.2.2.1 (bgn j) lim m (ns.set x.2.1.toNat true) os r=T;cases T<;>rfl
     have h1:=ih (inn++[x.2.1]) out (ns.set x.2.1.toNat true) os (at_+1) (by omega) rp1 sG bel1 ho (by omega)
     rw[<-hr]at h1;refine zp (by simp;omega) (zp (by simp;omega) ?_)
     rw[List.nil_append,zJ (by omega),Ok.zI h1,eF]
     refine zp (by simp;omega) (zp (by simp;omega) ?_)
     rw[List.nil_append]
     cases hT:pvF (enq j) j.2.2.1 (bgn j) lim m (ns.set x.2.1.toNat true) os r with
     |none =>
      show Ok ((yQ m j (spL j) lim l (-1) inn (out++[x.2.1])).bind _) _
      rw[Ok.zI (AZ (by omega)),Ok.pure];rfl
     |some r1 =>
      obtain⟨q1,q2⟩:=xT (at_:=at_+1) (by omega) bel1 ho (by omega) (by rw[<-hr];exact hT)
      have h2:=ih inn (out++[x.2.1]) ns (os.set x.2.1.toNat true) (l.length-r1.length) (by omega) fE rp2 hi bel2 (by omega)
      rw[<-q1]at h2;show Ok ((yQ m j (spL j) lim l ((l.length-r1.length:Nat):Int) inn (out++[x.2.1])).bind _) _
      rw[Ok.zI h2,Ok.pure]
    ·have hs:spN j.2.2.1.length ns os x=false:=by grind
     have eF:pvF (enq j) j.2.2.1 (bgn j) lim (m+1) ns os (x::r)=none:=by
      conv=>lhs;unfold pvF
      grind
     rw[hs,zMA (by decide),Ok.bind,eF]
     have n2:eqI x.1 2=false:=by grind
     have n3:eqI x.1 3=false:=by grind
     rw[n2,n3];refine Ok.jg (fun h=>nomatch h) fun _=>?_
     rw[Ok.bind];refine Ok.jg (fun h=>nomatch h) fun _=>?_
     rw[zMA (by cases eqI x.2.1 0<;>simp[sel]),Ok.pure]
     rfl
   ·have hb:(decide (x.1=1) && (decide (0<=x.2.1) && decide (x.2.1<j.2.2.1.length)))=false:=by grind
    have hs:spN j.2.2.1.length ns os x=false:=by
     grind [spN]
    rw[hb];refine Ok.jg (fun h=>nomatch h) fun _=>?_
    rw[Ok.bind];refine Ok.jg (fun h=>nomatch h) fun _=>?_
    rw[zMA (by decide),Ok.bind]
    have a8:=hj.Sk fE hi;have eF:pvF (enq j) j.2.2.1 (bgn j) lim (m+1) ns os (x::r)=if (x.1=2/\x.2.1=0)/\0<lim/\lim<=cst j.2.2.1 (sl ns) then some r else if (x.1=3/\x.2.1=0)/\shQ (enq j) j.2.2.1 (bgn j) ns os=true then some r else none:=by
     conv=>lhs;unfold pvF
     grind
    rw[eF];have eO:Ok (Comp.gd (sel (eqI x.1 2) (gtI lim 0) false) (yV j inn) (0,())) fun c=>sel (sel (eqI x.1 2) (gtI lim 0) false) (geI c.1 lim) false=decide (x.1=2/\0<lim/\lim<=cst j.2.2.1 (sl ns)):=by
     have e2:sel (eqI x.1 2) (gtI lim 0) false=decide (x.1=2/\0<lim):=by
      grind
     rw[e2];by_cases h:x.1=2/\0<lim
     ·rw[zMC h]
      refine Ok.jg (fun _=>(Ok.zr a8).2 ?_) fun h=>nomatch h
      grind
     ·rw[zMB h]
      refine Ok.jg (fun h=>nomatch h) fun _=>?_
      grind
    refine eO.mono fun c hc=>?_
    rw[hc,Ok.bind];have hsg:Ok (Comp.gd (adB (eqI x.1 3) (adB (ntB (decide (x.1=2/\0<lim/\lim<=cst j.2.2.1 (sl ns)))) (eqI x.2.1 0))) (vY j (spL j) inn out) (false,())) fun c=>(sel (eqI x.2.1 0) (sel (decide (x.1=2/\0<lim/\lim<=cst j.2.2.1 (sl ns))) true (sel (eqI x.1 3) c.1 false)) false=true↔((x.1=2/\x.2.1=0)/\0<lim/\lim<=cst j.2.2.1 (sl ns))\/((x.1=3/\x.2.1=0)/\shQ (enq j) j.2.2.1 (bgn j) ns os=true)):=by
     refine Ok.jg (fun h=>(Ok.zr (hj.Qy fE hi sG ho)).2 ?_) fun h=>?_
     ·grind
     ·grind
    refine hsg.mono fun c hc=>?_
    by_cases h2:(x.1=2/\x.2.1=0)/\0<lim/\lim<=cst j.2.2.1 (sl ns)
    ·rw[zLz (hc.2 (.inl h2)),zLz h2,zJ (by omega),Ok.pure]
     show _=(((l.length-r.length:Nat):Int),())
     rw[hat1]
    ·by_cases h3:(x.1=3/\x.2.1=0)/\shQ (enq j) j.2.2.1 (bgn j) ns os=true
     ·rw[zLz (hc.2 (.inr h3)),zMA h2,zLz h3,zJ (by omega),Ok.pure]
      show _=(((l.length-r.length:Nat):Int),())
      rw[hat1]
     ·rw[zMA (fun h=>(hc.1 h).elim h2 h3),zMA h2,zMA h3,Ok.pure]
      rfl
end
theorem DT{j:Job}(h:SmB j){lim:Int}{l:List Nd}(hl:l.length<=1000000):(gO j lim l).val=some (pvB j lim l,()):=by
 refine Ok.val ?_;unfold gO pvB;rw[Ok.zI (YD h.s.w h.s.e)];dsimp only;have hg:sel (sel (eqI (ckJ j) 0) (geI lim 0) false) (gtI (zD l) 0) false=decide (ckJ j=0/\0<=lim/\l≠[]):=by
  cases l with
  |nil=>simp[kB,gtI,zD]
  |cons a l=>grind
 rw[hg];by_cases hc:ckJ j=0/\0<=lim/\l≠[]
 ·obtain⟨h1,h2,h3⟩:=hc
  have hj:=h.pl h1;have hn:=hj.n
  have hu:und z8 z8<40:=by decide
  have bX:=Jf.le (Nat.zero_le j.2.2.1.length);have hw:=hj.VD hl (lim:=lim) 40 [] [] z8 z8 0 hu Rp.nil Rp.nil bX bX (Nat.zero_le _)
  obtain⟨_,_,_,hd⟩:=hj.walk (sp:=bgn j) (gI _) hl (lim:=lim) 40 z8 z8 0 hu bX bX (Nat.zero_le _);rw[List.drop_zero]at hw hd;rw[zMC ⟨h1,h2,h3⟩,Ok.bind];refine Ok.jg (fun _=>(Ok.zr hj.Gl).2 ?_) fun h=>nomatch h
  rw[Ok.bind];refine Ok.jg (fun _=>(Ok.zr hw).2 ?_) fun h=>nomatch h
  rw[Ok.pure,zMC h1,zMC h2]
  cases hT:pvF (enq j) j.2.2.1 (bgn j) lim 40 z8 z8 l with
  |none =>
   show (eqI (-1) (zD l),())=_
   have:eqI (-1) (zD l)=false:=by
    rw[Bool.eq_false_iff];intro h;rw[Z6,zQ]at h;omega
   rw[this];rfl
  |some r =>
   obtain⟨_,q2⟩:=hd r hT;show (eqI ((l.length-r.length:Nat):Int) (zD l),())=_
   cases r with
   |nil =>
    have:eqI ((l.length-([]:List Nd).length:Nat):Int) (zD l)=true:=by rw[Z6,zQ];simp
    rw[this];rfl
   |cons x r =>
    have:eqI ((l.length-(x::r).length:Nat):Int) (zD l)=false:=by
     rw[Bool.eq_false_iff];intro h;rw[Z6,zQ]at h;simp only[zLh]at h q2;omega
    rw[this];rfl
 ·rw[zMB hc,Ok.bind]
  refine Ok.jg (fun h=>nomatch h) fun _=>?_
  rw[Ok.bind];refine Ok.jg (fun h=>nomatch h) fun _=>?_
  rw[Ok.pure];show (false,())=_
  by_cases h1:ckJ j=0
  ·by_cases h2:0<=lim
   ·have h3:l=[]:=Decidable.byContradiction fun h3=>hc ⟨h1,h2,h3⟩
    subst h3;rw[zMC h1,zMC h2];rfl
   ·rw[zMB h2,Bool.and_false];rfl
  ·rw[zMB h1];rfl
theorem pL{n:Nat}(hn:n<=8):∀(m a:Nat),n-a<m->a<=n->Ok (jY m (a:Int) (n:Int)) fun r=>r.1.length<=pw (n-a)/\∀l∈r.1,upB n ((a:Int)-1) l=true
 |0,a,h,_=>by omega
 |m+1,a,h,ha=>by
  show Ok (kK (jY m) (a:Int) (n:Int)) _
  unfold kK;rw[Ok.bind];refine(Ok.loop (fun s:List (List Int)×Int=>∃i:Nat,s.2=(i:Int)/\(a<=i/\i<=n)/\s.1.length+pw (n-i)<=pw (n-a)+1/\∀l∈s.1,upB n ((a:Int)-1) l=true) (fun s=>((n:Int)-s.2).toNat) (P:=fun r=>r.length<=pw (n-a)/\∀l∈r,upB n ((a:Int)-1) l=true) ⟨a,rfl,⟨zLb _,ha⟩,by show 1+_<=_;omega,fun l hl=>by
   have:l∈([[]]:List (List Int)):=hl;rw[List.mem_singleton.1 this];rfl⟩ ?_).mono fun r hr=>by rw[Ok.pure];exact hr
  rintro⟨out,q⟩ ⟨i,h1,h2,h3,h4⟩;dsimp only at h1 h3 h4;subst h1;dsimp only;by_cases hi:i<n
  ·rw[zLz (by rw[zY];omega),zJ (by omega),Ok.bind]
   refine(pL hn m (i+1) (by omega) (by omega)).mono ?_
   rintro⟨y,u⟩ ⟨g1,g2⟩;dsimp only at g1 g2 |-;have hp:pw (n-i)=2 * pw (n-(i+1)):=by rw[show n-i=(n-(i+1))+1 by omega];rfl
   have hp8:pw (n-a)<=256:=Sn (a:=n-a) (b:=8) (by omega)
   rw[Ok.bind];refine(Ok.count y.length (fun k (s:List (List Int)×Int)=>s.2=(k:Int)/\s.1.length=out.length+k/\∀l∈s.1,upB n ((a:Int)-1) l=true) (P:=fun r=>r.length=out.length+y.length/\∀l∈r,upB n ((a:Int)-1) l=true) ⟨rfl,rfl,h4⟩ ?_ ?_).mono ?_
   ·rintro k ⟨s,n'⟩ hk ⟨k1,k2,k3⟩
    dsimp only at k1 k2 k3;subst k1;dsimp only;obtain⟨l,hl⟩:=zK hk;have hu:=g2 l (zLe hl)
    have n7:=Ay hu;rw[zLz (by rw[zY,zQ];omega),Ok.bind,Ok.gz hl]
    refine zp (by simp;omega) ?_
    refine zp (by simp;omega) ?_
    rw[Ok.pure];refine⟨zJ (by omega),by simp[k2];omega,fun z hz=>?_⟩
    rcases zLi.1 hz with hz|hz
    ·exact k3 z hz
    ·rw[List.mem_singleton.1 hz]
     show upB n ((a:Int)-1) ((i:Int)::l)=true
     unfold upB;simp only[zLZ,zLr];exact⟨by omega,zBK (by omega) hu⟩
   ·rintro⟨s,n'⟩ ⟨k1,k2,k3⟩
    dsimp only at k1 k2 k3;subst k1;dsimp only;rw[zMA (by rw[zY,zQ];omega),Ok.pure]
    exact⟨k2,k3⟩
   ·rintro r ⟨k2,k3⟩
    rw[Ok.pure];exact⟨⟨i+1,rfl,by omega,by show r.length+_<=_;omega,k3⟩,by show ((n:Int)-((i+1:Nat):Int)).toNat<_;omega⟩
  ·rw[zMA (by rw[zY];omega),Ok.pure]
   refine⟨?_,h4⟩;have:n-i=0:=by omega
   rw[this]at h3;have e:pw 0=1:=rfl
   omega
def bls:Nat->List (List Bool)
 |0=>[[]]
 |n+1=>(bls n).map (false::·)++(bls n).map (true::·)
theorem HX:∀ {n:Nat} {l:List Bool},l.length=n->l∈bls n
 |0,[],_=>List.mem_singleton.2 rfl
 |n+1,b::l,h=>by
  have ih:=HX (n:=n) (l:=l) (by grind)
  unfold bls;simp_all
def sbs(n:Nat):List (List Bool):=(bls n).map fun l=>l++List.replicate (8-n) false
theorem mS{n:Nat}{t:List Bool}(h:Bel t n)(hn:n<=8):t∈sbs n:=by
 refine List.mem_map.2 ⟨t.take n,HX (by rw[zLu,h.1];omega),?_⟩
 refine List.ext_getElem? fun k=>?_
 by_cases hk:k<n
 ·rw[zLn (by rw[zLu,h.1];omega),List.getElem?_take,zLz hk]
 ·rw[zLo (by grind),zLu,h.1,Nat.min_eq_left hn,List.getElem?_replicate]
  split
  ·have h8:k<8:=by omega
   rw[XN h.1 h8]
   cases hb:B8 t k with
   |false=>rfl
   |true=>have:=h.2 k hb;omega
  ·rw[List.getElem?_eq_none (by rw[h.1];omega)]
def zAI(j:Job)(t:List Bool):Bool:=((decide (t.length=8) && (List.range 8).all fun k=>!B8 t k || decide (k<j.2.2.1.length)) && (alw j.2.2.1 (bgn j) t && (enq j t).1)) &&
 (sbs j.2.2.1.length).all fun u=>!alw j.2.2.1 (bgn j) u || (decide ((enq j u).2=0) && (!(enq j u).1 || (decide (cst j.2.2.1 (sl t)<cst j.2.2.1 (sl u)) || decide (u=t))))
def zAF(j:Job):Bool:=(sbs j.2.2.1.length).all fun u=>!alw j.2.2.1 (bgn j) u || (decide ((enq j u).2=0) && !(enq j u).1)
theorem Qf{j:Job}{l:List Int}{c e:Int}(h:BestR j l c e)(hc:ckJ j=0)(hn:j.2.2.1.length<=8){t:List Bool}(ht:zAI j t=true):l=slI t/\c=cst j.2.2.1 (sl t)/\e=0:=by
 unfold zAI at ht;simp only[zLZ,zLr,zME]at ht;obtain⟨⟨⟨h1,h2⟩,h3,h4⟩,h5⟩:=ht;have hb:Bel t j.2.2.1.length:=⟨h1,fun i hi=>by
  grind [XR]⟩
 have key:∀u,Bel u j.2.2.1.length->alw j.2.2.1 (bgn j) u=true->(enq j u).2=0/\((enq j u).1=true->cst j.2.2.1 (sl t)<cst j.2.2.1 (sl u)\/u=t):=fun u hu ha=>by
  have:=h5 u (mS hu hn);grind
 cases h with
 |bad h=>omega
 |err h h' =>
  obtain⟨g1,u,g2,g3,g4⟩:=h';grind
 |non h h'=>have:=(h' t hb h3).2;grind
 |ok h h' =>
  obtain⟨u,g1,g2,g3,g4,g5,g6⟩:=h';grind
theorem Vp{j:Job}{l:List Int}{c e:Int}(h:BestR j l c e)(hc:ckJ j=0)(hn:j.2.2.1.length<=8)(ht:zAF j=true):l=[]/\c=0/\e=60:=by
 unfold zAF at ht;rw[zME]at ht;have key:∀u,Bel u j.2.2.1.length->alw j.2.2.1 (bgn j) u=true->(enq j u).2=0/\(enq j u).1=false:=fun u hu ha=>by
  grind [mS]
 cases h with
 |bad h=>omega
 |err h h' =>
  obtain⟨g1,u,g2,g3,g4⟩:=h';grind
 |non h h'=>grind
 |ok h h' =>
  obtain⟨u,g1,g2,g3,g4,g5,g6⟩:=h';grind
def trJ(j:Job)(lim:Int):List Nd:=trL (enq j) j.2.2.1 (bgn j) lim j.2.2.1.length 0 z8 z8
structure BestP(j:Job)(l:List Int)(c:Int)(p:List Nd)(e:Int):Prop where
 b:BestR j l c e
 n:p.length<=511
 p0:e=60->p=trJ j 0
 p1:e=0->0<c->p=trJ j c
theorem pf{j:Job}(h:SmB j):Ok (Zj j) fun r=>BestP j r.1 r.2.1 r.2.2.1 r.2.2.2.1:=by
 unfold Zj;rw[Ok.zI (gx h.s.w h.s.e)];dsimp only;by_cases hc:ckJ j=0
 ·have hj:=h.pl hc
  have hb:(bgn j).length=8:=gI _;have hn:=hj.n
  have bT:∀lim,(trJ j lim).length<=511:=fun lim=>zLg (ub _ _ _ _) (tz8 _ hn)
  rw[zMA (by grind),Ok.zI (wX hj.w hj.cl hj.n hj.sm),Ok.bind]
  dsimp only;refine(hj.visit hb 40 0 z8 (-1) z8 (by omega) (by omega) Jf (.inl rfl)).mono ?_
  rintro(e|⟨b,f,u⟩) hr
  ·dsimp only at hr |-
   refine AO ?_;rw[Ok.pure];have hb:=BestR.err hc hr
   refine⟨hb,Nat.zero_le _,fun he=>?_,fun he _=>zLp he hr.1⟩
   obtain⟨_,t,_,_,h2⟩:=hr;exact zLp (h2.symm.trans he) (S5 hc).e.2.2
  ·dsimp only at hr |-
   have fH:∀t,Bel t j.2.2.1.length->alw j.2.2.1 (bgn j) t=true->(enq j t).2=0/\((enq j t).1=true->0<=b/\b<=cst j.2.2.1 (sl t)):=fun t t1 t2=>hr.bst t t1 t2 fun i hi=>zLp hi (by omega)
   by_cases h1:b = -1
   ·rw[zLz (by grind),Ok.bind]
    refine(hj.zAT hb 0).mono fun y hy=>?_
    refine AO ?_;rw[Ok.pure];have hN:zIF j:=fun t t1 t2=>by
     grind
    refine⟨.non hc hN,?_,fun _=>hy,fun he=>by cases he⟩
    rw[hy];exact bT 0
   ·rw[zMA (by grind)]
    rcases hr.fnd with g|⟨g1,g2,g3,g4⟩
    ·omega
    have cK:zBH j (slI f) b:=⟨f,rfl,g4,g1,g2,g3,fun t t1 t2=>by grind⟩
    by_cases h0:b=0
    ·rw[zLz (by grind)]
     refine AO ?_;rw[Ok.pure];have tP:=zBS (L:=j.2.2.1) (s:=f) (fun k hk=>(hj.cs k (g1.2 k (jk.1 hk).2)).1) (by omega)
     have e:slI f=[]:=by grind [slI]
     rw[e,h0]at cK;exact⟨.ok hc cK,Nat.zero_le _,(fun he=>by cases he),fun _ h=>zLp (show (0:Int)<0 from h) (by omega)⟩
    ·rw[zMA (by grind),Ok.zI (JK g1.1),Ok.bind]
     refine(hj.zAT hb b).mono fun y hy=>?_
     refine AO ?_;rw[Ok.pure];refine⟨.ok hc cK,?_,(fun he=>by cases he),fun _ _=>hy⟩
     rw[hy];exact bT b
 ·rw[zLz (by grind),Ok.pure]
  exact⟨.bad hc,Nat.zero_le _,fun he=>zLp he S9.2.2,fun he=>zLp he hc⟩
def b31(x u:Int):Cell:=[((1,0,0,()),u,()),((-1,0,0,()),-x,()),((0,1,0,()),2,()),((0,-1,0,()),0,()),((0,0,1,()),2,()),((0,0,-1,()),0,())]
def j31(L:List Eff):Job:=(([],[b31 0 2,b31 2 4,b31 4 6],[1,2,2],()),([false,false,false],[false,false,false],[],()),L,())
def e31:List Eff:=[([b31 2 4],[],3,[],()),([b31 4 6],[],4,[],()),([b31 2 4,b31 4 6],[],9,[],()),([b31 1 6],[],1,[],())]
def n31:List Eff:=[([b31 2 4],[],3,[],()),([b31 4 6],[],4,[2],()),([b31 2 4,b31 4 6],[],9,[],()),([b31 1 6],[],1,[],())]
def l31:List Eff:=[([b31 2 4],[],3,[],()),([b31 1 6],[],1,[],())]
theorem pS:y9.val=some (j31 e31,()):=by
 have h:y9.run 20=some (j31 e31,()):=by kernel_rfl
 exact YR h
theorem G0:gV.val=some (j31 n31,()):=by
 have h:gV.run 20=some (j31 n31,()):=by kernel_rfl
 exact YR h
def t31(s:List Bool):Bool×Int:=((B8 s 0 && B8 s 1) || (B8 s 2 || B8 s 3),0)
def u31(s:List Bool):Bool×Int:=(B8 s 1,0)
theorem te:(sbs 4).all (fun s=>decide (enq (j31 e31) s=t31 s))=true:=by decide +kernel
theorem tl:(sbs 2).all (fun s=>decide (enq (j31 l31) s=u31 s))=true:=by decide +kernel
theorem ce:ckJ (j31 e31)=0:=by decide +kernel
theorem cn:ckJ (j31 n31)=0:=by decide +kernel
theorem zHv:ckJ (j31 l31)=0:=by decide +kernel
theorem be:bgn (j31 e31)=[false,false,false,true,false,false,false,false]:=by decide +kernel
theorem bn:bgn (j31 n31)=[false,false,false,true,false,false,false,false]:=be
theorem bl:bgn (j31 l31)=[false,true,false,false,false,false,false,false]:=by decide +kernel
theorem zBB{L:List Eff}{n:Nat}{q:List Bool->Bool×Int}(hn:n<=8)(h:(sbs n).all (fun s=>decide (enq (j31 L) s=q s))=true){s:List Bool}(hs:Bel s n):enq (j31 L) s=q s:=by
 simp_all [mS]
theorem zLH(s:List Bool):enq (j31 n31) s=enq (j31 e31) s:=by
 have hc:ctS (j31 n31) s=ctS (j31 e31) s:=by
  unfold ctS
  congr 1
  refine zLq (fun f=>List.flatMap f (sl s)) (funext fun k=>?_)
  show (opn n31 (k:Int)).1=(opn e31 (k:Int)).1
  unfold opn
  match k with
  |0|1|2|3=>rfl
  |k+4=>rfl
 unfold enq;rw[hc];rfl
theorem rl{q q':List Bool->Bool×Int}{L:List Eff}(h:∀s,Bel s L.length->q s=q' s)(sp inn out:List Bool):shQ q L sp inn out=shQ q' L sp inn out:=by
 unfold shQ;rw[h _ (mT (L:=L) (sp:=sp) (out:=out)).2.bel]
theorem wD{q q':List Bool->Bool×Int}{L:List Eff}(h:∀s,Bel s L.length->q s=q' s){sp:List Bool}{lim:Int}:∀(d k:Nat) (inn out:List Bool),trL q L sp lim d k inn out=trL q' L sp lim d k inn out
 |0,_,_,_=>rfl
 |d+1,k,inn,out=>by
  unfold trL;rw[rl h,wD h d,wD h d]
theorem wM{q q':List Bool->Bool×Int}{L:List Eff}(h:∀s,Bel s L.length->q s=q' s){sp:List Bool}{lim:Int}:∀(m:Nat) (inn out:List Bool) (l:List Nd),pvF q L sp lim m inn out l=pvF q' L sp lim m inn out l
 |0,_,_,_=>rfl
 |m+1,_,_,[]=>rfl
 |m+1,inn,out,x::r=>by
  unfold pvF;rw[rl h,wM h m];split
  ·cases pvF q' L sp lim m (inn.set x.2.1.toNat true) out r with
   |none=>rfl
   |some r'=>exact wM h m _ _ _
  ·rfl
def pvT(q:List Bool->Bool×Int)(L:List Eff)(sp:List Bool)(lim:Int)(l:List Nd):Bool:=match pvF q L sp lim 40 z8 z8 l with
 |some []=>true
 |_=>false
theorem Sq{L:List Eff}{q:List Bool->Bool×Int}{sp:List Bool}(hc:ckJ (j31 L)=0)(hb:bgn (j31 L)=sp)(h:∀s,Bel s L.length->enq (j31 L) s=q s){lim:Int}(h0:0<=lim)(l:List Nd):pvB (j31 L) lim l=pvT q L sp lim l:=by
 unfold pvB pvT;rw[zMC hc,zMC h0,hb];show (true && _)=_
 rw[Bool.true_and];grind [j31,wM]
theorem zAU{L:List Eff}{q:List Bool->Bool×Int}{sp:List Bool}(hb:bgn (j31 L)=sp)(h:∀s,Bel s L.length->enq (j31 L) s=q s)(lim:Int):trJ (j31 L) lim=trL q L sp lim L.length 0 z8 z8:=by
 unfold trJ;rw[hb];exact wD h _ _ _ _
def ckT(q:List Bool->Bool×Int)(L:List Eff)(sp t:List Bool):Bool:=((decide (t.length=8) && (List.range 8).all fun k=>!B8 t k || decide (k<L.length)) && (alw L sp t && (q t).1)) &&
 (sbs L.length).all fun u=>!alw L sp u || (decide ((q u).2=0) && (!(q u).1 || (decide (cst L (sl t)<cst L (sl u)) || decide (u=t))))
theorem GZ{n:Nat}(hn:n<=8){u:List Bool}(h:u∈sbs n):Bel u n:=by
 unfold sbs at h;obtain⟨l,hl,rfl⟩:=List.mem_map.1 h;have key:∀(n:Nat) (l:List Bool),l∈bls n->l.length=n:=by
  intro n
  induction n with
  |zero=>intro l hl;rw[List.mem_singleton.1 (show l∈[[]] from hl)];rfl
  |succ n ih =>
   intro l hl;unfold bls at hl;grind
 have hl:=key n l hl;refine⟨by grind,fun i hi=>?_⟩
 grind [B8]
theorem zEO{L:List Eff}{q:List Bool->Bool×Int}{sp t:List Bool}(hn:L.length<=8)(hb:bgn (j31 L)=sp)(h:∀s,Bel s L.length->enq (j31 L) s=q s)(ht:Bel t L.length)(hk:ckT q L sp t=true):zAI (j31 L) t=true:=by
 unfold ckT at hk;unfold zAI;rw[hb,h t ht];show ((_ && (alw L sp t && (q t).1)) && (sbs L.length).all fun u=>!alw L sp u || (decide ((enq (j31 L) u).2=0) && (!(enq (j31 L) u).1 || (decide (cst L (sl t)<cst L (sl u)) || decide (u=t)))))=true
 rw[zLZ]at hk |-;refine⟨hk.1,?_⟩;grind [GZ]
theorem zEN{L:List Eff}{q:List Bool->Bool×Int}{sp:List Bool}(hn:L.length<=8)(hb:bgn (j31 L)=sp)(h:∀s,Bel s L.length->enq (j31 L) s=q s)(hk:((sbs L.length).all fun u=>!alw L sp u || (decide ((q u).2=0) && !(q u).1))=true):zAF (j31 L)=true:=by
 unfold zAF;rw[hb];rw[zME]at hk |-;intro u hu;have eP:u∈sbs L.length:=hu
 rw[h u (GZ hn eP)];exact hk u eP
def s31(a b c d:Bool):List Bool:=[a,b,c,d,false,false,false,false]
def zHG:List Bool:=[false,false,false,true,false,false,false,false]
def UK:List Bool:=[false,true,false,false,false,false,false,false]
theorem Ga{a b c d:Bool}:Bel (s31 a b c d) 4:=⟨rfl,fun i hi=>by
 by_cases h:i<4
 ·exact h
 ·exfalso
  match i,h,hi with
  |0,h,_|1,h,_|2,h,_|3,h,_=>omega
  |4,_,hi|5,_,hi|6,_,hi|7,_,hi=>cases hi
  |i+8,_,hi=>rw[XR (s:=s31 a b c d) rfl (by omega)]at hi;cases hi⟩
theorem W9:∀s,Bel s e31.length->enq (j31 e31) s=t31 s:=fun s hs=>zBB (n:=4) (by decide) te hs
theorem zLC:∀s,Bel s n31.length->enq (j31 n31) s=t31 s:=fun s hs=>by rw[zLH];exact W9 s hs
theorem zFA:∀s,Bel s l31.length->enq (j31 l31) s=u31 s:=fun s hs=>zBB (n:=2) (by decide) tl hs
theorem zGr{L:List Eff}(h:∀x∈L,x.1.length<=2/\x.2.1.length=0/\x.2.2.2.1.length<=1):∀x∈L,SmE x:=fun x hx=>by
 obtain⟨h1,h2,h3⟩:=h x hx;exact⟨by omega,by omega,by omega⟩
theorem Sg{L:List Eff}(hn:L.length<=1000000)(h:∀x∈L,x.1.length<=2/\x.2.1.length=0/\x.2.2.2.1.length<=1):SmB (j31 L):=⟨⟨by show 3<_;omega,zGr h,hn⟩,by show 3<=1000;omega⟩
theorem sme:SmB (j31 e31):=Sg (by decide) (by decide +kernel)
theorem smn:SmB (j31 n31):=Sg (by decide) (by decide +kernel)
theorem sml:SmB (j31 l31):=Sg (by decide) (by decide +kernel)
theorem pe{lim:Int}{l:List Nd}{b:Bool}(h0:0<=lim)(hl:l.length<=1000000)(h:pvT t31 e31 zHG lim l=b):(zg (j31 e31) lim l).val=some (b,()):=by grind [JW,sme,Sq,zHG,ce,be,W9]
theorem zHR{lim:Int}{l:List Nd}{b:Bool}(h0:0<=lim)(hl:l.length<=1000000)(h:pvT u31 l31 UK lim l=b):(zg (j31 l31) lim l).val=some (b,()):=by grind [JW,sml,Sq,UK,zHv,bl,zFA]
theorem R7{L:List Eff}{q:List Bool->Bool×Int}{sp t:List Bool}{l:List Int}{c:Int}(hs:SmB (j31 L))(hc:ckJ (j31 L)=0)(hb:bgn (j31 L)=sp)(h:∀s,Bel s L.length->enq (j31 L) s=q s)(hn:L.length<=8)(ht:Bel t L.length)(hk:ckT q L sp t=true)(h1:slI t=l)(h2:cst L (sl t)=c)(h3:0<c)(hl:l.length<=1000000)
  (hp:pvT q L sp c (trL q L sp c L.length 0 z8 z8)=true) (hpl:(yg l l).val=some (true,())):(yW (j31 L) c l).val=some (true,()):=by
 refine Ok.val ?_;unfold yW;rw[Ok.bind];refine(pf hs).mono ?_;rintro⟨l',c',p,e,u⟩ hr;obtain⟨g1,g2,g3⟩:=Qf hr.b hc hn (zEO hn hb h ht hk);dsimp only at g1 g2 g3;have e1:l'=l:=g1.trans h1
 have e2:c'=c:=g2.trans h2;have hp1:=hr.p1 g3 (by grind)
 have hpn:=hr.n;dsimp only at hp1 hpn |-;subst e1 e2 g3;have a1:eqI (0:Int) 0=true:=rfl
 have a2:eqI c' c'=true:=by grind
 rw[a1,a2,Ok.bind];show Ok (yg l' l') _
 rw[Ok.zr hpl,Ok.bind];show Ok (zg (j31 L) c' p) _
 grind [Sq,zAU,Ok.zr,JW,Ok.pure]
theorem Qx{l:List Int}(hl:l.length<=1000000):(yg l l).val=some (true,()):=by
 refine Ok.val ?_;unfold yg;rw[zMA (by grind),Ok.bind]
 refine(Ok.count l.length (fun i (x:Int)=>x=(i:Int)) (P:=fun r=>r=.inl ()) rfl ?_ ?_).mono fun r hr=>by rw[hr,Ok.pure]
 ·rintro i x hi rfl
  obtain⟨b,hb⟩:=zK hi;have e:¬neI b b=true:=by grind
  rw[zLz (by grind),Ok.bind,Ok.gz hb,Ok.bind,Ok.gz hb,zMA e,Ok.pure]
  grind
 ·rintro x rfl
  simp[zY,zQ,Ok.pure]
theorem zGz:(yW (j31 e31) (Int.ofNat 7) [0,1]).val=some (true,()) :=
 R7 sme ce be W9 (by decide) (Ga (a:=true) (b:=true) (c:=false) (d:=false)) (by decide +kernel) rfl (by decide) (by decide) (by decide) (by decide +kernel) (Qx (by decide))
theorem zGy:(yW (j31 n31) (Int.ofNat 9) [2]).val=some (true,()) :=
 R7 smn cn bn zLC (by decide) (Ga (a:=false) (b:=false) (c:=true) (d:=false)) (by decide +kernel) rfl (by decide) (by decide) (by decide) (by decide +kernel) (Qx (by decide))
theorem GC{L:List Eff}{sp:List Bool}{l:List Int}{b:Bool}(hs:SmB (j31 L))(hc:ckJ (j31 L)=0)(hb:bgn (j31 L)=sp)(hl:upB L.length (-1) l=true)(h:alw L sp (stO l)=b):(zu (j31 L) l).val=some (b,()):=by
 rw[MU hs hc hl,hb];show some (alw L sp (stO l),())=_
 rw[h]
theorem al1:(zu (j31 e31) [0,1]).val=some (true,()):=GC sme ce be (by decide) (by decide +kernel)
theorem al2:(zu (j31 e31) [3]).val=some (false,()):=GC sme ce be (by decide) (by decide +kernel)
theorem al4:(zu (j31 n31) [0,1]).val=some (false,()):=GC smn cn bn (by decide) (by decide +kernel)
theorem V1:lg [1,0]=false:=by decide
theorem al3:(zu (j31 e31) [1,0]).val=some (false,()):=by
 have hj:=sme.pl ce;have ho:Ok (YV (j31 e31) [1,0]) fun r=>r.2.1=false:=by
  unfold YV;rw[Ok.bind];refine(Ok.count 2 (fun i (s:Int×List Bool)=>s.1=(i:Int)/\s.2.length=8) (P:=fun r=>∃s,r=.inl s) ⟨rfl,rfl⟩ ?_ ?_).mono ?_
  ·rintro i ⟨n,s⟩ hi ⟨h1,h2⟩
   dsimp only at h1 h2;subst h1;obtain⟨k,hk⟩:=zK (xs:=([1,0]:List Int)) (k:=i) hi;have xB:k=1\/k=0:=by
    grind
   have fA:zD (j31 e31).2.2.1=4:=rfl;dsimp only;have e1:¬sel (ltI k 0) true (geI k (zD (j31 e31).2.2.1))=true:=by grind
   rw[zLz (by grind),Ok.bind,Ok.gz hk,zMA e1,Ok.zI (ga ⟨by omega,by omega⟩),Ok.pure]
   grind [jy]
  ·rintro⟨n,s⟩ ⟨h1,h2⟩
   dsimp only at h1 h2;subst h1;dsimp only;rw[zMA (by grind),Ok.pure]
   grind
  ·rintro r ⟨s,rfl⟩
   grind [Ok.zI,ZG,V1,Ok.pure]
 refine Ok.val ?_;unfold zu;rw[Ok.zI (gx sme.s.w sme.s.e)];dsimp only;rw[zMA (by grind [ce]),Ok.bind]
 refine ho.mono ?_;grind [Ok.bind,Ok.jg,Ok.pure]
theorem S7{l:List Int}{b:Bool}(hl:upB 4 (-1) l=true)(h:t31 (stO l)=(b,0)):(yC (j31 e31) b l).val=some (true,()):=by
 unfold yC;rw[zA,QK sme ce hl,W9 _ (mF (by decide) hl),h,zLX,Comp.zB]
 cases b<;>rfl
theorem en4:Ok (jH (j31 e31) [4]) fun r=>r.2.1=1:=by
 unfold jH;rw[Ok.zI (gx sme.s.w sme.s.e)];dsimp only;rw[zMA (by grind [ce]),Ok.bind]
 have ho:Ok (YV (j31 e31) [4]) fun r=>r.2.1=false:=by
  unfold YV;rw[Ok.bind];refine(Ok.count 1 (fun i (s:Int×List Bool)=>s.1=(i:Int)/\i=0) (P:=fun r=>∃s,r=.inr (false,s)) ⟨rfl,rfl⟩ ?_ ?_).mono ?_
  ·rintro i ⟨n,s⟩ hi ⟨h1,h2⟩
   dsimp only at h1 h2;subst h1 h2;dsimp only;have hk:([4]:List Int)[0]?=some 4:=rfl
   rw[zLz (by decide),Ok.bind,Ok.gz hk,zLz (by decide),Ok.pure]
   grind
  ·omega
  ·rintro r ⟨s,rfl⟩
   grind [Ok.pure]
 refine ho.mono ?_;rintro⟨s,b,u⟩ hb;dsimp only at hb |-;rw[hb,zLz (by rfl),Ok.pure]
theorem zDp:Ok (Zj (j31 l31)) fun r=>r.2.2.2.1=60/\r.2.2.1=trL u31 l31 UK 0 2 0 z8 z8:=by
 refine(pf sml).mono ?_;rintro⟨l',c',p,e,u⟩ hr;have hk:((sbs l31.length).all fun u=>!alw l31 UK u || (decide ((u31 u).2=0) && !(u31 u).1))=true:=by decide +kernel
 obtain⟨_,_,g3⟩:=Vp hr.b zHv (by decide) (zEN (by decide) bl zFA hk)
 dsimp only at g3 |-;refine⟨g3,(hr.p0 g3).trans ?_⟩;rw[zAU (sp:=UK) bl zFA];rfl
def uH:List Nd:=[(1,2,()),(2,0,()),(1,0,()),(1,1,()),(2,0,()),(3,0,()),(3,0,())]
def zGx:List Nd:=[(1,0,()),(1,1,()),(2,0,()),(3,0,()),(1,2,()),(2,0,()),(3,0,())]
theorem uB(n:Int):(yO n).val=some ((1,n,()),()):=by grind [yO,Comp.zB]
theorem AH:y4.val=some ((2,0,()),()):=by grind [y4,Comp.zB]
theorem Yn:zn.val=some ((3,0,()),()):=by grind [zn,Comp.zB]
theorem NT:jD.val=some (true,()):=by
 refine Ok.val ?_;unfold jD;rw[Ok.zI pS,vo];show Ok ((zu (j31 e31) [0,1]).bind _) _
 rw[Ok.zI al1,zLz rfl];show Ok ((zu (j31 e31) [3]).bind _) _
 rw[Ok.zI al2,zLz (by rfl)]
 show Ok ((zu (j31 e31) [1,0]).bind _) _
 rw[Ok.zI al3,zLz (by rfl),Ok.zI G0]
 show Ok ((zu (j31 n31) [0,1]).bind _) _
 rw[Ok.zI al4];show Ok ((jH (j31 e31) [4]).bind _) _
 rw[Ok.bind];refine en4.mono ?_;rintro⟨x,e,u⟩ he;dsimp only at he;rw[vo];show Ok ((yC (j31 e31) false [0]).bind _) _
 rw[Ok.zI (S7 (by decide) (by decide +kernel)),zLz rfl]
 show Ok ((yC (j31 e31) true [0,1]).bind _) _
 rw[Ok.zI (S7 (by decide) (by decide +kernel)),zLz rfl]
 show Ok ((yC (j31 e31) true [3]).bind _) _
 rw[Ok.zI (S7 (by decide) (by decide +kernel)),zLz rfl]
 dsimp only;rw[he,zLz (by decide)]
 show Ok ((yW (j31 e31) (Int.ofNat 7) [0,1]).bind _) _
 rw[Ok.zI zGz,zLz rfl,Ok.zI G0];show Ok ((yW (j31 n31) (Int.ofNat 9) [2]).bind _) _
 rw[Ok.zI zGy,Ok.zI pS];have i0:(j31 e31).2.2.1[0]?=some ([b31 2 4],[],3,[],()):=rfl
 have i3:(j31 e31).2.2.1[3]?=some ([b31 1 6],[],1,[],()):=rfl;show Ok ((idx (j31 e31).2.2.1 0).bind _) _
 rw[Ok.bind,Ok.idx (by decide) i0]
 show Ok ((idx (j31 e31).2.2.1 3).bind _) _
 rw[Ok.bind,Ok.idx (by decide) i3]
 show Ok ((Zj (j31 l31)).bind _) _
 rw[Ok.bind];refine zDp.mono ?_;rintro⟨l',c',p,e,u⟩ ⟨h60,hp⟩;dsimp only at h60 hp |-;subst h60;rw[Ok.bind];show Ok (zg (j31 l31) (Int.ofNat 0) p) _
 have hpl:p.length<=1000000:=by rw[hp];decide +kernel
 rw[Ok.zr (zHR (b:=true) (by decide) hpl (by rw[hp];decide +kernel)),Ok.bind]
 show Ok zn _
 rw[Ok.zr Yn,Ok.bind];show Ok (zg (j31 l31) (Int.ofNat 0) [(3,0,())]) _
 rw[Ok.zr (zHR (b:=true) (by decide) (by decide) (by decide +kernel)),Ok.bind]
 show Ok zn _
 rw[Ok.zr Yn,Ok.bind];show Ok (zg (j31 e31) (Int.ofNat 0) [(3,0,())]) _
 rw[Ok.zr (pe (b:=false) (by decide) (by decide) (by decide +kernel))]
 rw[Ok.zI (uB 2),Ok.zI AH,Ok.zI (uB 0),Ok.zI (uB 1),Ok.zI AH,Ok.zI Yn,Ok.zI Yn,Ok.zI (uB 0),Ok.zI (uB 1),Ok.zI AH,Ok.zI Yn,Ok.zI (uB 2),Ok.zI AH,Ok.zI Yn];show Ok ((zg (j31 e31) (Int.ofNat 7) uH).bind _) _
 rw[Ok.zI (pe (b:=true) (by decide) (by decide) (by decide +kernel))]
 show Ok ((zg (j31 e31) (Int.ofNat 7) zGx).bind _) _
 rw[Ok.zI (pe (b:=false) (by decide) (by decide) (by decide +kernel))]
 show Ok ((zg (j31 e31) (Int.ofNat 8) uH).bind _) _
 rw[Ok.zI (pe (b:=false) (by decide) (by decide) (by decide +kernel))]
 show Ok ((sub uH 0 6).bind _) _
 rw[Ok.bind,Ok.sub (by decide)]
 show Ok ((zg (j31 e31) (Int.ofNat 7) ((uH.take 6).drop 0)).bind _) _
 rw[Ok.zI (pe (b:=false) (by decide) (by decide) (by decide +kernel))]
 show Ok ((app [] uH).bind _) _
 refine zp (by decide) ?_
 rw[Ok.zI Yn];refine zp (by decide) ?_
 show Ok ((zg (j31 e31) (Int.ofNat 7) (uH++[(3,0,())])).bind _) _
 rw[Ok.zI (pe (b:=false) (by decide) (by decide) (by decide +kernel)),Ok.pure]
 rfl
theorem zGt(l:List (List Int)):Ok (kZ l) fun _=>True:=by
 unfold kZ;rw[Ok.bind];refine(Ok.loop (fun s:List (List Int)×Int=>0<=s.2/\s.2<=7/\(s.1.length:Int)<=s.2) (fun s=>(7-s.2).toNat)
  (P:=fun _=>True) ?_ ?_).mono fun R _=>by grind [Ok.pure]
 ·grind
 ·rintro⟨m,i⟩ ⟨h1,h2,h3⟩
  dsimp only at h1 h2 h3 |-;split
  ·rename_i hc
   obtain⟨c1,c2⟩:=nV hc;rw[zY]at c1 c2;rw[zQ]at c1;obtain⟨z,hz⟩:=zK (xs:=l) (k:=i.toNat) (by omega)
   rw[Ok.bind,Ok.idx h1 hz,Ok.bind,Ok.idx h1 hz];refine KO ⟨by decide,by grind [ZR],by grind [ZR]⟩ fun ys _=>?_
   grind [zp,Ok.pure]
  grind [Ok.pure]
theorem JobOk.smB{j:Job}(hj:JobOk j):SmB j:=⟨hj.sm,by have:=hj.p.1.1;omega⟩
theorem Gz{l:List Int}(h:∀x∈l,0<=x/\x<256):Ok (gU l) fun r=>r.1.length<=15:=by
 unfold gU;rw[Ok.bind];refine(Ok.loop (fun s:List Nd×Int=>0<=s.2/\s.2<=15/\(s.1.length:Int)=s.2) (fun s=>(15-s.2).toNat) (P:=fun r=>r.length<=15) ⟨by decide,by decide,rfl⟩ ?_).mono fun r hr=>by rw[Ok.pure];exact hr
 rintro⟨m,i⟩ ⟨h1,h2,h3⟩;dsimp only at h1 h2 h3 |-;split
 ·rename_i hc
  obtain⟨c1,c2⟩:=nV hc;rw[zY]at c1 c2;rw[zQ]at c1;obtain⟨z,hz⟩:=zK (xs:=l) (k:=i.toNat) (by omega)
  have hzb:=h z (zLe hz);have cz:IB .i64 z=z:=EF (by omega)
  rw[Ok.bind,Ok.idx h1 hz,cz,Ok.bind,Ok.rem (by decide),Ok.bind]
  have hg:Ok (Comp.gd (ntB (eqI (zG .i64 1 (z.tmod 3)) 1)) (idx l i) (Int.ofNat 0)) fun _=>True:=Ok.jg (fun _=>(Ok.idx h1 hz).2 trivial) fun _=>trivial
  refine hg.mono fun b _=>?_
  refine vV (fun _=>True) (fun j hj=>?_) fun y _=>?_
  ·split
   ·rw[Ok.bind,Ok.idx h1 hz,cz,Ok.bind,Ok.zr (kP (by decide) (by omega)),Ok.bind,Ok.rem (by decide)]
    exact hj _ trivial
   ·exact hj _ trivial
  ·refine zp (by simp;omega) ?_
   rw[Ok.pure];dsimp only;rw[jS (m:=i) (n:=1) (by omega)]
   exact⟨⟨by omega,by omega,by rw[zLa,zLc];omega⟩,by omega⟩
 ·rw[Ok.pure]
  dsimp only;omega
theorem Qn{n:Nat}(hn:n<=8){l:List Int}(h:upB n (-1) l=true):Rp l (stO l)/\Bel (stO l) n/\∀x∈l,0<=x/\x<n:=by
 have e:=GX hn h;have hb:=mF hn h
 refine⟨by unfold Rp;rw[e],hb,fun x hx=>?_⟩
 rw[<-e]at hx;obtain⟨k,rfl,_,hk⟩:=uf.1 hx;have:=hb.2 k hk
 omega
section
variable {j:Job} (hj:PlOk j)
include hj
theorem PlOk.Nh{l:List Int}(hl:upB j.2.2.1.length (-1) l=true):Ok (gh j (spL j) l) fun _=>True:=by
 have hn:=hj.n;obtain⟨_,_,fE⟩:=Qn hn hl;have hl8:=n9 hl hn
 unfold gh;rw[Ok.bind];refine(Ok.count l.length (fun i (x:Int)=>x=(i:Int)) (P:=fun _=>True) rfl ?_ ?_).mono ?_
 ·rintro i x hi rfl
  obtain⟨y,hy⟩:=zK hi;have hr:=fE y (zLe hy)
  have mJ:=hj.ns y.toNat
  rw[show ((y.toNat:Nat):Int)=y by omega]at mJ
  rw[zLz (by grind),Ok.bind,Ok.gz hy,Ok.bind,Ok.zr (Jp ⟨by omega,by omega⟩),Ok.bind,Ok.gz hy,Ok.bind,Ok.idx hr.1 (GV hn (by omega))]
  split
  ·rw[Ok.pure];trivial
  ·rw[Ok.bind]
   refine(Ok.count (opn j.2.2.1 y).2.2.2.1.length (fun i (x:Int)=>x=(i:Int)) (P:=fun _=>True) rfl ?_ ?_).mono ?_
   ·rintro m x hm rfl
    obtain⟨q,hq⟩:=zK hm;rw[zLz (by grind),Ok.bind,Ok.gz hq,Ok.zI (Jq (by omega))]
    split
    ·rw[Ok.pure];trivial
    ·rw[Ok.pure];exact zJ (by omega)
   ·rintro x rfl
    rw[zMA (by grind),Ok.pure];trivial
   ·rintro(u|b) _
    ·dsimp only;rw[Ok.pure];exact zJ (by omega)
    ·dsimp only;rw[Ok.pure];trivial
 ·rintro x rfl
  rw[zMA (by grind),Ok.pure];trivial
 ·rintro(u|b) _
  ·dsimp only;rw[Ok.pure];trivial
  ·dsimp only;rw[Ok.pure];trivial
theorem PlOk.zFU{lim:Int}:∀(m k:Nat) (inn out:List Int) (ns os:List Bool),j.2.2.1.length-k<m->k<=j.2.2.1.length->Rp inn ns->Rp out os->Bel ns k->Bel os k ->
  Ok (vy m j (spL j) lim inn out (k:Int)) fun r=>1<=r.1.length/\r.1.length<=tz (j.2.2.1.length-k):=by
 intro m
 induction m with
 |zero=>intro k inn out ns os h;omega
 |succ m ih =>
  intro k inn out ns os hm hk fE sG hi ho;show Ok (kb (vy m) j (spL j) lim inn out (k:Int)) _
  have hn:=hj.n;have hil:=fE.len
  have hol:=sG.len;have htp:=EU (j.2.2.1.length-k)
  have htz:tz (j.2.2.1.length-k)<=511:=tz8 _ (by omega)
  unfold kb;rw[Ok.bind];have t8:Ok (Comp.gd (gtI lim 0) (yV j inn) (0,())) fun _=>True:=Ok.jg (fun _=>(Ok.zr (hj.Sk fE (hi.le hk))).2 trivial) fun _=>trivial
  refine t8.mono fun c _=>?_
  split
  ·rw[Ok.pure];exact⟨zLb _,htp⟩
  ·rw[Ok.zI (hj.Qy fE (hi.le hk) sG (ho.le hk))]
   dsimp only;split
   ·rw[Ok.pure];exact⟨zLb _,htp⟩
   ·rename_i mJ
    rw[XF,zLx,S3,zQ]at mJ;have hkn:k<j.2.2.1.length:=by omega
    have f1:B8 ns k=false:=Bool.eq_false_iff.2 fun h=>by have:=hi.2 k h;omega
    have f2:B8 os k=false:=Bool.eq_false_iff.2 fun h=>by have:=ho.2 k h;omega
    have ht:tz (j.2.2.1.length-k)=2 * tz (j.2.2.1.length-(k+1))+1:=by rw[show j.2.2.1.length-k=(j.2.2.1.length-(k+1))+1 by omega];rfl
    refine zp (by simp;omega) (zp (by simp;omega) ?_)
    rw[List.nil_append,zJ (by omega),Ok.bind]
    refine(ih (k+1) (inn++[(k:Int)]) out (ns.set k true) os (by omega) (by omega) (fE.snoc hi.1 (by omega) f1) sG (hi.set (by omega)) (ho.le (by omega))).mono ?_
    rintro⟨y,u⟩ ⟨h1,h2⟩;dsimp only at h1 h2 |-;have hE:∀ {α:Type} {f:List Nd->Comp α} {P:α->Prop},Ok (f ([(1,(k:Int),())]++y)) P->Ok ((Mn [(1,(k:Int),())] y).bind f) P:=fun h=>by
     cases y with
     |nil=>simp at h1
     |cons a y=>exact zp (by simp at h2 |-;omega) h
    refine hE (zp (by simp;omega) (zp (by simp;omega) ?_))
    rw[List.nil_append,Ok.bind];refine(ih (k+1) inn (out++[(k:Int)]) ns (os.set k true) (by omega) (by omega) fE (sG.snoc ho.1 (by omega) f2) (hi.le (by omega)) (ho.set (by omega))).mono ?_
    rintro⟨z,u⟩ ⟨h3,h4⟩;dsimp only at h3 h4 |-;refine zp (by simp;omega) ?_
    rw[Ok.pure];simp only[zLa,zLc];omega
end
theorem Ng{j:Job}(h:SmB j):Ok (gk j) fun r=>r.2.2.1.length<=1000:=by
 unfold gk;rw[Ok.zI (YD h.s.w h.s.e)];dsimp only;by_cases hc:ckJ j=0
 ·have hj:=h.pl hc
  have hn:=hj.n;rw[zMA (by rw[je];omega),Ok.bind]
  refine(pL hn 40 0 (by omega) (Nat.zero_le _)).mono ?_
  rintro⟨y,u⟩ ⟨bM,hy2⟩;dsimp only at bM hy2 |-;have dW:pw (j.2.2.1.length-0)<=256:=Sn (a:=j.2.2.1.length-0) (b:=8) (by omega)
  rw[Ok.zI hj.Gl];dsimp only;have eQ:∀ {lim:Int} {P:List Nd×Unit->Prop},(∀r:List Nd×Unit,r.1.length<=1000->P r)->Ok (vy 40 j (spL j) lim [] [] (Int.ofNat 0)) P:=fun hP =>
   (hj.zFU 40 0 [] [] z8 z8 (by omega) (Nat.zero_le _) Rp.nil Rp.nil Jf Jf).mono fun r hr=>hP r (zLg hr.2 (zLg (tz8 _ (by omega)) (by decide)))
  rw[Ok.bind];refine(Ok.count y.length (fun i (s:List Int×Int×Int)=>s.2.2=(i:Int)) (P:=fun r:(List Int×Int)⊕(List Int×Int×List Nd×Int)=>match r with|.inl _=>True|.inr s=>s.2.2.1.length<=1000) rfl ?_ ?_).mono ?_
  ·rintro i ⟨b,c,n⟩ hi h1
   dsimp only at h1;subst h1;obtain⟨l,hl⟩:=zK hi;have hu:upB j.2.2.1.length (-1) l=true:=hy2 l (zLe hl)
   obtain⟨hrp,iG,fE⟩:=Qn hn hu;have hl8:=n9 hu hn
   have t8:=hj.Sk hrp iG;dsimp only;rw[zLz (by grind)]
   refine vV (fun _=>True) (fun j' hj'=>?_) fun _ _=>by rw[Ok.pure];exact zJ (by omega)
   rw[Ok.bind,Ok.gz hl,Ok.bind];refine(hj.Nh hu).mono fun r _=>?_
   split
   ·exact hj' _ trivial
   ·rw[Ok.bind,Ok.gz hl,Ok.zI (hj.Gj hl8 fE)]
    dsimp only;split
    ·rw[Ok.pure];show 0<=1000;omega
    ·rw[Ok.bind]
     generalize adB (ntB (ltI c 0)) (enR j.1 j.2.1 (ctL j l) 0 j.1.2.1.length).1=g;refine Ok.mono (P:=fun z=>g=true->z=l) (Ok.jg (fun _=>(Ok.gz hl).2 fun _=>rfl) fun h h'=>by rw[h]at h';cases h') ?_
     rintro z hz;rw[Ok.bind];refine Ok.mono (P:=fun _=>True) (Ok.jg (fun h=>by rw[hz h];exact(Ok.zr t8).2 trivial) fun _=>trivial) fun w _=>?_
     refine vV (fun _=>True) (fun j2 aG=>?_) fun _ _=>hj' _ trivial
     split
     ·rw[Ok.bind,Ok.gz hl,Ok.zI t8];exact aG _ trivial
     ·exact aG _ trivial
  ·rintro⟨b,c,n⟩ h1
   dsimp only at h1;subst h1;dsimp only;rw[zMA (by grind),Ok.pure];trivial
  ·rintro(s|s) hs
   ·dsimp only
    split
    ·rw[Ok.bind]
     exact eQ fun r hr=>by rw[Ok.pure];exact hr
    ·split
     ·rw[Ok.pure];show 0<=1000;omega
     ·rw[Ok.bind]
      exact eQ fun r hr=>by rw[Ok.pure];exact hr
   ·dsimp only at hs |-
    rw[Ok.pure];exact hs
 ·rw[zLz (by rw[je];exact hc),Ok.pure]
  show 0<=1000;omega
theorem Xd{n m:Int}{f:Int×Unit->Comp α}{P:α->Prop}(hm:1<=m/\m<=1000000)(k:∀r:Int,0<=r/\r<m->Ok (f (r,())) P):Ok ((yJ n m).bind f) P:=by
 rw[Ok.bind];exact(Rg hm).mono fun r hr=>k r.1 hr
theorem Dt(x:List (List Int)){q:List Int}(hq:q.length=3)(lim:Int){l:List Int}(hl:∀y∈l,0<=y/\y<256)(raw:List Nd):Ok (jA x q lim l raw) fun r=>r.1=true:=by
 unfold jA;rw[Ok.zI NT,Ok.bind];refine(zGt x).mono fun R _=>?_
 rw[Ok.bind];refine(V0 R.1).mono ?_;rintro⟨j,u⟩ ⟨hj,h1⟩;dsimp only at hj h1 |-;have hs:=hj.smB
 show Ok ((gk j).bind _) _
 rw[Ok.bind];refine(Ng hs).mono ?_;rintro⟨set,cost,proof,e,u'⟩ hpn;dsimp only at hpn |-;refine zp (by simp;omega) ?_
 rw[List.nil_append];obtain⟨a0,a1,a2,rfl⟩:∃a b c,q=[a,b,c]:=by
  match q,hq with
  | [a,b,c],_=>exact⟨a,b,c,rfl⟩
 have i0:(idx [a0,a1,a2] (0:Int)).val=some a0:=Yq (by decide) rfl
 have i1:(idx [a0,a1,a2] (1:Int)).val=some a1:=Yq (by decide) rfl
 have i2:(idx [a0,a1,a2] (2:Int)).val=some a2:=Yq (by decide) rfl
 refine vV (fun p:List Nd=>p.length<=2000) (fun j' hj'=>?_) fun p hp=>?_
 ·split
  ·rename_i hz
   rw[Jv,zQ]at hz;rw[Ok.zI i0];refine Xd (by rw[zQ];omega) fun r hr=>?_
   rw[zQ]at hr;rw[Ok.zI i1];refine Xd (by decide) fun r1 _=>?_
   refine vV (fun p:List Nd=>p.length<=2000) (fun j2 aG=>?_) fun p hp=>hj' p hp
   dsimp only;split
   ·rw[Ok.zI i2]
    refine Xd (by decide) fun r2 _=>?_
    dsimp only;rw[Ok.zI (ga ⟨hr.1,by omega⟩)]
    refine YP hr.1 hr.2 fun z _=>aG _ ?_
    unfold jy;rw[List.length_set];omega
   ·refine vV (fun p:List Nd=>p.length<=2000) (fun j3 hj3=>?_) fun p hp=>aG p hp
    split
    ·rw[Ok.zI i2]
     refine Xd (by decide) fun r2 _=>?_
     dsimp only;rw[Ok.zI (ga ⟨hr.1,by omega⟩)]
     refine YP hr.1 hr.2 fun z _=>hj3 _ ?_
     unfold jy;rw[List.length_set];omega
    ·refine vV (fun p:List Nd=>p.length<=2000) (fun j4 hj4=>?_) fun p hp=>hj3 p hp
     split
     ·rw[jS (by omega),zQ,Ok.bind,Ok.bind,Ok.sub (by omega),Ok.pure,Ok.bind,Ok.bind,Ok.sub (by omega),Ok.pure]
      refine KO (by show 0<=(0:Int)/\(0:Int)<=Int.ofNat r.toNat/\Int.ofNat r.toNat<=_;simp only[Int.ofNat_eq_natCast];omega) fun ys sQ=>?_
      have dW:ys.length<=1000:=by simp only[Int.ofNat_eq_natCast]at sQ;omega
      refine zp (by rw[List.length_drop];omega) (hj4 _ ?_)
      rw[zLa,List.length_drop];omega
     ·refine vV (fun p:List Nd=>p.length<=2000) (fun j5 hj5=>?_) fun p hp=>hj4 p hp
      split
      ·rw[Ok.zI i2]
       refine Xd (by decide) fun r2 _=>?_
       dsimp only;refine zp (by simp;omega) (hj5 _ ?_)
       simp;omega
      ·exact hj5 _ (by omega)
  ·exact hj' _ (by omega)
 rw[Ok.bind];refine(Gz hl).mono ?_;rintro⟨nd,u2⟩ sA;dsimp only at sA |-;refine KO (by rw[ZR,zQ];omega) fun rw5 h5=>?_
 have h5:rw5.length<=5:=by rw[ZR]at h5;omega
 rw[Ok.bind];refine(Gz hl).mono ?_;rintro⟨nd2,u3⟩ hnd2;dsimp only at hnd2 |-;refine zp (by omega) ?_
 rw[Ok.bind];refine(Ok.count 5 (fun i (s:Int)=>s=(i:Int)) (P:=fun r:Unit⊕Bool=>r=.inl ()) rfl ?_ ?_).mono ?_
 ·rintro i s hi rfl
  have fA:zD [proof,p,nd,rw5,nd2++proof]=5:=rfl;obtain⟨z,hz⟩:=zK (xs:=[proof,p,nd,rw5,nd2++proof]) (k:=i) hi;have hzl:z.length<=1000000:=by
   have:=zLe hz;simp only[zLd,List.not_mem_nil,or_false]at this;rcases this with rfl|rfl|rfl|rfl|rfl
   ·omega
   ·omega
   ·omega
   ·omega
   ·rw[zLa];omega
  rw[zLz (by rw[fA,zY];omega),Ok.bind,Ok.gz hz]
  refine Xd (by decide) fun r _=>?_
  dsimp only;rw[Ok.bind];refine(Ok.count 6 (fun i (s:Int)=>s=(i:Int)) (P:=fun r:Unit⊕Bool=>r=.inl ()) rfl ?_ ?_).mono ?_
  ·rintro k s hk rfl
   obtain⟨m,hm⟩:=zK (xs:=[cost,zG .i64 cost 1,vu .i64 cost 1,0,lim,r]) (k:=k) hk;have sS:zD [cost,zG .i64 cost 1,vu .i64 cost 1,0,lim,r]=6:=rfl
   rw[zLz (by rw[sS,zY];omega),Ok.bind,Ok.gz hm]
   show Ok ((zg j m z).bind _) _
   rw[Ok.zI (JW hs hzl)];show Ok ((gO j m z).bind _) _
   rw[Ok.zI (DT hs hzl)];dsimp only;rw[zMA (by cases pvB j m z<;>decide),Ok.pure]
   exact zJ (by omega)
  ·rintro s rfl
   have sS:zD [cost,zG .i64 cost 1,vu .i64 cost 1,0,lim,r]=6:=rfl;rw[zMA (by rw[sS,zY];show ¬((6:Nat):Int)<6;omega),Ok.pure]
  ·rintro r rfl
   dsimp only;rw[Ok.pure];exact zJ (by omega)
 ·rintro s rfl
  have fA:zD [proof,p,nd,rw5,nd2++proof]=5:=rfl;rw[zMA (by rw[fA,zY];show ¬((5:Nat):Int)<5;omega),Ok.pure]
 ·rintro r rfl
  dsimp only;rw[Ok.pure]
end Go.Geo
end
noncomputable section
namespace Go.Dn
open Go Go.Proofs Go.RowKit Go.Eng Go.Lift Go.Den
abbrev prog:Program:=Tryz.prog
theorem mixed:prog.follows .mixedOrders=true:=by kernel_rfl
def t3:Ty:=.int .i64
def t4:Ty:=.bool
def t5:Ty:=.int .u8
def t9:Ty:=.str
def t23:Ty:=.sl t3
def t22:Ty:=.sl t23
def t26:Ty:=.arr 3 t3
def t104:Ty:=.cons t3 (.cons t3 (.cons t3 .nil))
def t106:Ty:=.cons t104 (.cons t3 .nil)
def t107:Ty:=.sl t106
def t28:Ty:=.sl t107
def t30:Ty:=.cons t9 (.cons t28 (.cons t23 .nil))
def t31:Ty:=.sl t4
def t33:Ty:=.cons t31 (.cons t31 (.cons t28 .nil))
def t62:Ty:=.cons t28 (.cons t28 (.cons t3 (.cons t23 .nil)))
def t34:Ty:=.sl t62
def t36:Ty:=.cons t30 (.cons t33 (.cons t34 .nil))
def t41:Ty:=.arr 2 t23
def t43:Ty:=.int .i64
def t48:Ty:=.arr 4 t3
def t81:Ty:=.cons t3 (.cons t3 .nil)
def t73:Ty:=.sl t81
def t78:Ty:=.sl t5
def t83:Ty:=.sl t73
def t117:Ty:=.fn (.cons t3 .nil) (.cons t4 .nil)
def t130:Ty:=.cons t23 (.cons t3 .nil)
def t136:Ty:=.arr 8 t4
def t140:Ty:=.cons t36 (.cons t136 .nil)
def t147:Ty:=.fn (.cons t3 (.cons t136 .nil)) (.nil)
def t156:Ty:=.nil
def t158:Ty:=.fn (.cons t136 (.cons t136 .nil)) (.nil)
def t166:Ty:=.fn (.cons t107 .nil) (.cons t4 .nil)
def t185:Ty:=.fn (.cons t3 (.cons t136 (.cons t136 .nil))) (.nil)
def t189:Ty:=.sl t106
def t191:Ty:=.sl t28
def t198:Ty:=.fn (.cons t106 .nil) (.cons t4 .nil)
def t202:Ty:=.sl t104
def t208:Ty:=.cons t3 (.cons t3 (.cons t3 (.cons t3 .nil)))
def t203:Ty:=.sl t208
def t210:Ty:=.fn (.cons t208 .nil) (.cons t4 .nil)
def t220:Ty:=.mp t208 t4
def t224:Ty:=.arr 3 t106
def t233:Ty:=.fn (.cons t106 (.cons t106 .nil)) (.cons t3 .nil)
def t245:Ty:=.int .u64
def t246:Ty:=.arr 2 t3
def t247:Ty:=.sl t246
theorem eq3:EqT prog 3 t3 1:=u9 (z:=.int .i64 0) (sz:=1) (by_:=8) ⟨by kernel_rfl,by kernel_rfl⟩
def i3:TI:=⟨.int .i64,.int .i64 0,1,8,[],t3,1,false⟩
theorem ok3:i3.ok prog 3:=yX ⟨by kernel_rfl,by kernel_rfl⟩ rfl (fun _=>⟨eq3,by decide,fun _=>by kernel_rfl⟩) (yj rfl)
theorem eq4:EqT prog 4 t4 1:=QJ (z:=.bool false) (sz:=1) (by_:=1) ⟨by kernel_rfl,by kernel_rfl⟩
def i4:TI:=⟨.bool,.bool false,1,1,[],t4,1,false⟩
theorem ok4:i4.ok prog 4:=yX ⟨by kernel_rfl,by kernel_rfl⟩ rfl (fun _=>⟨eq4,by decide,fun _=>by kernel_rfl⟩) (yj rfl)
theorem eq5:EqT prog 5 t5 1:=u9 (z:=.int .u8 0) (sz:=1) (by_:=1) ⟨by kernel_rfl,by kernel_rfl⟩
def i5:TI:=⟨.int .u8,.int .u8 0,1,1,[],t5,1,false⟩
theorem ok5:i5.ok prog 5:=yX ⟨by kernel_rfl,by kernel_rfl⟩ rfl (fun _=>⟨eq5,by decide,fun _=>by kernel_rfl⟩) (yj rfl)
theorem eq9:EqT prog 9 t9 1:=V6 (z:=.string ⟨#[]⟩) (sz:=1) (by_:=16) ⟨by kernel_rfl,by kernel_rfl⟩
def i9:TI:=⟨.string,.string ⟨#[]⟩,1,16,[],t9,1,false⟩
theorem ok9:i9.ok prog 9:=yX ⟨by kernel_rfl,by kernel_rfl⟩ rfl (fun _=>⟨eq9,by decide,fun _=>by kernel_rfl⟩) (yj rfl)
def i22:=iS 23 t22
theorem zKu:i22.ok prog 22:=XP ⟨by kernel_rfl,by kernel_rfl⟩
def i23:=iS 3 t23
theorem zKt:i23.ok prog 23:=XP ⟨by kernel_rfl,by kernel_rfl⟩
theorem zLG:EqT prog 26 t26 2:=K0 (z:=.agg #[.int .i64 0,.int .i64 0,.int .i64 0]) (sz:=3) (by_:=24) ⟨by kernel_rfl,by kernel_rfl⟩ (dd':=.int .i64) (z':=.int .i64 0) (k:=1) (by_':=8) ⟨by kernel_rfl,by kernel_rfl⟩ rfl rfl eq3
def i26:TI:=⟨.array 3 3,.agg #[.int .i64 0,.int .i64 0,.int .i64 0],3,24,[],t26,2,false⟩
theorem zKs:i26.ok prog 26:=yX ⟨by kernel_rfl,by kernel_rfl⟩ rfl (fun _=>⟨zLG,by decide,fun _=>by kernel_rfl⟩) (yj rfl)
def i28:=iS 107 t28
theorem zKr:i28.ok prog 28:=XP ⟨by kernel_rfl,by kernel_rfl⟩
def i30:TI:=⟨.struct (prog.fieldsOf 30),.agg #[.string ⟨#[]⟩,.slice none 0 0,.slice none 0 0],3,64,[(9,0,0),(28,1,0),(23,2,0)],t30,0,false⟩
theorem zKq:i30.ok prog 30:=jU ⟨by kernel_rfl,by kernel_rfl⟩ (⟨⟨by kernel_rfl,by kernel_rfl,by kernel_rfl⟩,⟨⟨by kernel_rfl,by kernel_rfl,by kernel_rfl⟩,⟨⟨by kernel_rfl,by kernel_rfl,by kernel_rfl⟩,trivial⟩⟩⟩) ⟨by kernel_rfl,fun w=>by kernel_rfl⟩ (YI rfl) (yj rfl)
def i31:=iS 4 t31
theorem zKp:i31.ok prog 31:=XP ⟨by kernel_rfl,by kernel_rfl⟩
def i33:TI:=⟨.struct (prog.fieldsOf 33),.agg #[.slice none 0 0,.slice none 0 0,.slice none 0 0],3,72,[(31,0,0),(31,1,0),(28,2,0)],t33,0,false⟩
theorem zKo:i33.ok prog 33:=jU ⟨by kernel_rfl,by kernel_rfl⟩ (⟨⟨by kernel_rfl,by kernel_rfl,by kernel_rfl⟩,⟨⟨by kernel_rfl,by kernel_rfl,by kernel_rfl⟩,⟨⟨by kernel_rfl,by kernel_rfl,by kernel_rfl⟩,trivial⟩⟩⟩) ⟨by kernel_rfl,fun w=>by kernel_rfl⟩ (YI rfl) (yj rfl)
def i34:=iS 62 t34
theorem zKn:i34.ok prog 34:=XP ⟨by kernel_rfl,by kernel_rfl⟩
def i36:TI:=⟨.struct (prog.fieldsOf 36),.agg #[.string ⟨#[]⟩,.slice none 0 0,.slice none 0 0,.slice none 0 0,.slice none 0 0,.slice none 0 0,.slice none 0 0],7,160,[(30,0,2),(33,3,2),(34,6,0)],t36,0,false⟩
theorem zKm:i36.ok prog 36:=jU ⟨by kernel_rfl,by kernel_rfl⟩ (⟨⟨by kernel_rfl,by kernel_rfl,by kernel_rfl⟩,⟨⟨by kernel_rfl,by kernel_rfl,by kernel_rfl⟩,⟨⟨by kernel_rfl,by kernel_rfl,by kernel_rfl⟩,trivial⟩⟩⟩) ⟨by kernel_rfl,fun w=>by kernel_rfl⟩ (YI rfl) (yj rfl)
def i41:TI:=⟨.array 2 23,.agg #[.slice none 0 0,.slice none 0 0],2,48,[],t41,0,false⟩
theorem zKl:i41.ok prog 41:=yX ⟨by kernel_rfl,by kernel_rfl⟩ rfl (YI rfl) (yj rfl)
theorem zLF:EqT prog 43 t43 1:=u9 (z:=.int .i64 0) (sz:=1) (by_:=8) ⟨by kernel_rfl,by kernel_rfl⟩
def i43:TI:=⟨.int .i64,.int .i64 0,1,8,[],t43,1,false⟩
theorem zKk:i43.ok prog 43:=yX ⟨by kernel_rfl,by kernel_rfl⟩ rfl (fun _=>⟨zLF,by decide,fun _=>by kernel_rfl⟩) (yj rfl)
theorem zLE:EqT prog 48 t48 2:=K0 (z:=.agg #[.int .i64 0,.int .i64 0,.int .i64 0,.int .i64 0]) (sz:=4) (by_:=32) ⟨by kernel_rfl,by kernel_rfl⟩ (dd':=.int .i64) (z':=.int .i64 0) (k:=1) (by_':=8) ⟨by kernel_rfl,by kernel_rfl⟩ rfl rfl eq3
def i48:TI:=⟨.array 4 3,.agg #[.int .i64 0,.int .i64 0,.int .i64 0,.int .i64 0],4,32,[],t48,2,false⟩
theorem zKj:i48.ok prog 48:=yX ⟨by kernel_rfl,by kernel_rfl⟩ rfl (fun _=>⟨zLE,by decide,fun _=>by kernel_rfl⟩) (yj rfl)
def i62:TI:=⟨.struct (prog.fieldsOf 62),.agg #[.slice none 0 0,.slice none 0 0,.int .i64 0,.slice none 0 0],4,80,[(28,0,0),(28,1,0),(3,2,0),(23,3,0)],t62,0,false⟩
theorem zKi:i62.ok prog 62:=jU ⟨by kernel_rfl,by kernel_rfl⟩ (⟨⟨by kernel_rfl,by kernel_rfl,by kernel_rfl⟩,⟨⟨by kernel_rfl,by kernel_rfl,by kernel_rfl⟩,⟨⟨by kernel_rfl,by kernel_rfl,by kernel_rfl⟩,⟨⟨by kernel_rfl,by kernel_rfl,by kernel_rfl⟩,trivial⟩⟩⟩⟩) ⟨by kernel_rfl,fun w=>by kernel_rfl⟩ (YI rfl) (yj rfl)
def i73:=iS 81 t73
theorem zKh:i73.ok prog 73:=XP ⟨by kernel_rfl,by kernel_rfl⟩
def i78:=iS 5 t78
theorem zKg:i78.ok prog 78:=XP ⟨by kernel_rfl,by kernel_rfl⟩
theorem zLD:EqT prog 81 t81 2:=Yg (fs:=prog.fieldsOf 81) (z:=.agg #[.int .i64 0,.int .i64 0]) (sz:=2) (by_:=16) ⟨by kernel_rfl,by kernel_rfl⟩ rfl rfl (by kernel_rfl) (Js (D:=1) (Yh eq3 (XV _)) (by kernel_rfl))
def i81:TI:=⟨.struct (prog.fieldsOf 81),.agg #[.int .i64 0,.int .i64 0],2,16,[(3,0,0),(3,1,0)],t81,2,false⟩
theorem zKf:i81.ok prog 81:=jU ⟨by kernel_rfl,by kernel_rfl⟩ (⟨⟨by kernel_rfl,by kernel_rfl,by kernel_rfl⟩,⟨⟨by kernel_rfl,by kernel_rfl,by kernel_rfl⟩,trivial⟩⟩) ⟨by kernel_rfl,fun w=>by kernel_rfl⟩ (fun _=>⟨zLD,by decide,fun _=>by kernel_rfl⟩) (yj rfl)
def i83:=iS 73 t83
theorem zKe:i83.ok prog 83:=XP ⟨by kernel_rfl,by kernel_rfl⟩
theorem zBA:EqT prog 104 t104 2:=Yg (fs:=prog.fieldsOf 104) (z:=.agg #[.int .i64 0,.int .i64 0,.int .i64 0]) (sz:=3) (by_:=24) ⟨by kernel_rfl,by kernel_rfl⟩ rfl rfl (by kernel_rfl) (Js (D:=1) (Yh eq3 (XV _)) (by kernel_rfl))
def zHp:TI:=⟨.struct (prog.fieldsOf 104),.agg #[.int .i64 0,.int .i64 0,.int .i64 0],3,24,[(3,0,0),(3,1,0),(3,2,0)],t104,2,false⟩
theorem zGd:zHp.ok prog 104:=jU ⟨by kernel_rfl,by kernel_rfl⟩ (⟨⟨by kernel_rfl,by kernel_rfl,by kernel_rfl⟩,⟨⟨by kernel_rfl,by kernel_rfl,by kernel_rfl⟩,⟨⟨by kernel_rfl,by kernel_rfl,by kernel_rfl⟩,trivial⟩⟩⟩) ⟨by kernel_rfl,fun w=>by kernel_rfl⟩ (fun _=>⟨zBA,by decide,fun _=>by kernel_rfl⟩) (yj rfl)
theorem zAz:EqT prog 106 t106 3:=Yg (fs:=prog.fieldsOf 106) (z:=.agg #[.int .i64 0,.int .i64 0,.int .i64 0,.int .i64 0]) (sz:=4) (by_:=32) ⟨by kernel_rfl,by kernel_rfl⟩ rfl rfl (by kernel_rfl) (Js (D:=2) (Yh eq3 (Yh zBA (XV _))) (by kernel_rfl))
def zEz:TI:=⟨.struct (prog.fieldsOf 106),.agg #[.int .i64 0,.int .i64 0,.int .i64 0,.int .i64 0],4,32,[(104,0,2),(3,3,0)],t106,3,false⟩
theorem zGc:zEz.ok prog 106:=jU ⟨by kernel_rfl,by kernel_rfl⟩ (⟨⟨by kernel_rfl,by kernel_rfl,by kernel_rfl⟩,⟨⟨by kernel_rfl,by kernel_rfl,by kernel_rfl⟩,trivial⟩⟩) ⟨by kernel_rfl,fun w=>by kernel_rfl⟩ (fun _=>⟨zAz,by decide,fun _=>by kernel_rfl⟩) (yj rfl)
def i107:=iS 106 t107
theorem zGb:i107.ok prog 107:=XP ⟨by kernel_rfl,by kernel_rfl⟩
def i117:TI:=⟨.func #[3] #[4] false,.nilFunc,1,8,[],t117,0,false⟩
theorem zGa:i117.ok prog 117:=yX ⟨by kernel_rfl,by kernel_rfl⟩ rfl (YI rfl) (yj rfl)
def i130:TI:=⟨.struct (prog.fieldsOf 130),.agg #[.slice none 0 0,.int .i64 0],2,32,[(23,0,0),(3,1,0)],t130,0,false⟩
theorem zGZ:i130.ok prog 130:=jU ⟨by kernel_rfl,by kernel_rfl⟩ (⟨⟨by kernel_rfl,by kernel_rfl,by kernel_rfl⟩,⟨⟨by kernel_rfl,by kernel_rfl,by kernel_rfl⟩,trivial⟩⟩) ⟨by kernel_rfl,fun w=>by kernel_rfl⟩ (YI rfl) (yj rfl)
theorem zGp:EqT prog 136 t136 2:=K0 (z:=.agg #[.bool false,.bool false,.bool false,.bool false,.bool false,.bool false,.bool false,.bool false]) (sz:=8) (by_:=8) ⟨by kernel_rfl,by kernel_rfl⟩ (dd':=.bool) (z':=.bool false) (k:=1) (by_':=1) ⟨by kernel_rfl,by kernel_rfl⟩ rfl rfl eq4
def zHo:TI:=⟨.array 8 4,.agg #[.bool false,.bool false,.bool false,.bool false,.bool false,.bool false,.bool false,.bool false],8,8,[],t136,2,false⟩
theorem zGY:zHo.ok prog 136:=yX ⟨by kernel_rfl,by kernel_rfl⟩ rfl (fun _=>⟨zGp,by decide,fun _=>by kernel_rfl⟩) (yj rfl)
def zHn:TI:=⟨.struct (prog.fieldsOf 140),.agg #[.string ⟨#[]⟩,.slice none 0 0,.slice none 0 0,.slice none 0 0,.slice none 0 0,.slice none 0 0,.slice none 0 0,.bool false,.bool false,.bool false,.bool false,.bool false,.bool false,.bool false,.bool false],15,168,[(36,0,6),(136,7,7)],t140,0,false⟩
theorem zGX:zHn.ok prog 140:=jU ⟨by kernel_rfl,by kernel_rfl⟩ (⟨⟨by kernel_rfl,by kernel_rfl,by kernel_rfl⟩,⟨⟨by kernel_rfl,by kernel_rfl,by kernel_rfl⟩,trivial⟩⟩) ⟨by kernel_rfl,fun w=>by kernel_rfl⟩ (YI rfl) (yj rfl)
def zHm:TI:=⟨.func #[3,136] #[] false,.nilFunc,1,8,[],t147,0,false⟩
theorem zGW:zHm.ok prog 147:=yX ⟨by kernel_rfl,by kernel_rfl⟩ rfl (YI rfl) (yj rfl)
theorem zGo:EqT prog 156 t156 2:=Yg (fs:=prog.fieldsOf 156) (z:=.agg #[]) (sz:=0) (by_:=0) ⟨by kernel_rfl,by kernel_rfl⟩ rfl rfl (by kernel_rfl) (Js (D:=1) (XV _) (by kernel_rfl))
def zEy:TI:=⟨.struct (prog.fieldsOf 156),.agg #[],0,0,[],t156,2,false⟩
theorem zGV:zEy.ok prog 156:=yX ⟨by kernel_rfl,by kernel_rfl⟩ rfl (fun _=>⟨zGo,by decide,fun _=>by kernel_rfl⟩) (yj rfl)
def zHl:TI:=⟨.func #[136,136] #[] false,.nilFunc,1,8,[],t158,0,false⟩
theorem zGU:zHl.ok prog 158:=yX ⟨by kernel_rfl,by kernel_rfl⟩ rfl (YI rfl) (yj rfl)
def zHk:TI:=⟨.func #[107] #[4] false,.nilFunc,1,8,[],t166,0,false⟩
theorem zGT:zHk.ok prog 166:=yX ⟨by kernel_rfl,by kernel_rfl⟩ rfl (YI rfl) (yj rfl)
def zHj:TI:=⟨.func #[3,136,136] #[] false,.nilFunc,1,8,[],t185,0,false⟩
theorem zGS:zHj.ok prog 185:=yX ⟨by kernel_rfl,by kernel_rfl⟩ rfl (YI rfl) (yj rfl)
def zHi:=iS 106 t189
theorem zGR:zHi.ok prog 189:=XP ⟨by kernel_rfl,by kernel_rfl⟩
def zHh:=iS 28 t191
theorem zGQ:zHh.ok prog 191:=XP ⟨by kernel_rfl,by kernel_rfl⟩
def i198:TI:=⟨.func #[106] #[4] false,.nilFunc,1,8,[],t198,0,false⟩
theorem zGP:i198.ok prog 198:=yX ⟨by kernel_rfl,by kernel_rfl⟩ rfl (YI rfl) (yj rfl)
def zHg:=iS 104 t202
theorem zGO:zHg.ok prog 202:=XP ⟨by kernel_rfl,by kernel_rfl⟩
def i203:=iS 208 t203
theorem zGN:i203.ok prog 203:=XP ⟨by kernel_rfl,by kernel_rfl⟩
theorem zAy:EqT prog 208 t208 2:=Yg (fs:=prog.fieldsOf 208) (z:=.agg #[.int .i64 0,.int .i64 0,.int .i64 0,.int .i64 0]) (sz:=4) (by_:=32) ⟨by kernel_rfl,by kernel_rfl⟩ rfl rfl (by kernel_rfl) (Js (D:=1) (Yh eq3 (XV _)) (by kernel_rfl))
def i208:TI:=⟨.struct (prog.fieldsOf 208),.agg #[.int .i64 0,.int .i64 0,.int .i64 0,.int .i64 0],4,32,[(3,0,0),(3,1,0),(3,2,0),(3,3,0)],t208,2,true⟩
theorem zGM:i208.ok prog 208:=jU ⟨by kernel_rfl,by kernel_rfl⟩ (⟨⟨by kernel_rfl,by kernel_rfl,by kernel_rfl⟩,⟨⟨by kernel_rfl,by kernel_rfl,by kernel_rfl⟩,⟨⟨by kernel_rfl,by kernel_rfl,by kernel_rfl⟩,⟨⟨by kernel_rfl,by kernel_rfl,by kernel_rfl⟩,trivial⟩⟩⟩⟩) ⟨by kernel_rfl,fun w=>by kernel_rfl⟩ (fun _=>⟨zAy,by decide,fun _=>by kernel_rfl⟩) (fun _=>KeyB.agg zAy (by decide) rfl rfl (dd:=.struct (prog.fieldsOf 208)) (z:=.agg #[.int .i64 0,.int .i64 0,.int .i64 0,.int .i64 0]) (sz:=4) (by_:=32) ⟨by kernel_rfl,by kernel_rfl⟩ rfl (fun e x w=>by kernel_rfl))
def i210:TI:=⟨.func #[208] #[4] false,.nilFunc,1,8,[],t210,0,false⟩
theorem zGL:i210.ok prog 210:=yX ⟨by kernel_rfl,by kernel_rfl⟩ rfl (YI rfl) (yj rfl)
def zHf:TI:=⟨.map 208 4,.map none,1,8,[],t220,0,false⟩
theorem zGK:zHf.ok prog 220:=yX ⟨by kernel_rfl,by kernel_rfl⟩ rfl (YI rfl) (yj rfl)
theorem zGn:EqT prog 224 t224 4:=K0 (z:=.agg #[.int .i64 0,.int .i64 0,.int .i64 0,.int .i64 0,.int .i64 0,.int .i64 0,.int .i64 0,.int .i64 0,.int .i64 0,.int .i64 0,.int .i64 0,.int .i64 0]) (sz:=12) (by_:=96) ⟨by kernel_rfl,by kernel_rfl⟩ (dd':=.struct (prog.fieldsOf 106)) (z':=.agg #[.int .i64 0,.int .i64 0,.int .i64 0,.int .i64 0]) (k:=4) (by_':=32) ⟨by kernel_rfl,by kernel_rfl⟩ rfl rfl zAz
def zHe:TI:=⟨.array 3 106,.agg #[.int .i64 0,.int .i64 0,.int .i64 0,.int .i64 0,.int .i64 0,.int .i64 0,.int .i64 0,.int .i64 0,.int .i64 0,.int .i64 0,.int .i64 0,.int .i64 0],12,96,[],t224,4,false⟩
theorem zGJ:zHe.ok prog 224:=yX ⟨by kernel_rfl,by kernel_rfl⟩ rfl (fun _=>⟨zGn,by decide,fun _=>by kernel_rfl⟩) (yj rfl)
def i233:TI:=⟨.func #[106,106] #[3] false,.nilFunc,1,8,[],t233,0,false⟩
theorem zGI:i233.ok prog 233:=yX ⟨by kernel_rfl,by kernel_rfl⟩ rfl (YI rfl) (yj rfl)
theorem zGm:EqT prog 245 t245 1:=u9 (z:=.int .u64 0) (sz:=1) (by_:=8) ⟨by kernel_rfl,by kernel_rfl⟩
def zHd:TI:=⟨.int .u64,.int .u64 0,1,8,[],t245,1,false⟩
theorem zGH:zHd.ok prog 245:=yX ⟨by kernel_rfl,by kernel_rfl⟩ rfl (fun _=>⟨zGm,by decide,fun _=>by kernel_rfl⟩) (yj rfl)
theorem zGl:EqT prog 246 t246 2:=K0 (z:=.agg #[.int .i64 0,.int .i64 0]) (sz:=2) (by_:=16) ⟨by kernel_rfl,by kernel_rfl⟩ (dd':=.int .i64) (z':=.int .i64 0) (k:=1) (by_':=8) ⟨by kernel_rfl,by kernel_rfl⟩ rfl rfl eq3
def zHc:TI:=⟨.array 2 3,.agg #[.int .i64 0,.int .i64 0],2,16,[],t246,2,false⟩
theorem zGG:zHc.ok prog 246:=yX ⟨by kernel_rfl,by kernel_rfl⟩ rfl (fun _=>⟨zGl,by decide,fun _=>by kernel_rfl⟩) (yj rfl)
def zHb:=iS 246 t247
theorem zGF:zHb.ok prog 247:=XP ⟨by kernel_rfl,by kernel_rfl⟩
def T:TE:=[(3,i3),(4,i4),(5,i5),(9,i9),(22,i22),(23,i23),(26,i26),(28,i28),(30,i30),(31,i31),(33,i33),(34,i34),(36,i36),(41,i41),(43,i43),(48,i48),(62,i62),(73,i73),(78,i78),(81,i81),(83,i83),(104,zHp),(106,zEz),(107,i107),(117,i117),(130,i130),(136,zHo),(140,zHn),(147,zHm),(156,zEy),(158,zHl),(166,zHk),(185,zHj),(189,zHi),(191,zHh),(198,i198),(202,zHg),(203,i203),(208,i208),(210,i210),(220,zHf),(224,zHe),(233,i233),(245,zHd),(246,zHc),(247,zHb)]
theorem zAN:TOk prog T:=zV ok3 (zV ok4 (zV ok5 (zV ok9 (zV zKu (zV zKt (zV zKs (zV zKr (zV zKq (zV zKp (zV zKo (zV zKn (zV zKm (zV zKl (zV zKk (zV zKj (zV zKi (zV zKh (zV zKg (zV zKf (zV zKe (zV zGd (zV zGc (zV zGb (zV zGa (zV zGZ (zV zGY (zV zGX (zV zGW (zV zGV (zV zGU (zV zGT (zV zGS (zV zGR (zV zGQ (zV zGP (zV zGO (zV zGN (zV zGM (zV zGL (zV zGK (zV zGJ (zV zGI (zV zGH (zV zGG (zV zGF (Uy _))))))))))))))))))))))))))))))))))))))))))))))
theorem E0:EK prog T [] [] [] [] [] []:=e0 zAN mixed
end Go.Dn
end
section
namespace Go.Up
open Go
def EG(d:Nat){β:Type}(e:Except String (World×β)):Prop:=∀r,e=.ok r->r.1.drawn=d
theorem EG.bind{d:Nat}{α β:Type}{x:Except String α}{f:α->Except String (World×β)}(h:∀a,EG d (f a)):EG d (x >>= f):=by
 intro r hr
 cases x with
 |error e=>cases hr
 |ok a=>exact h a r hr
theorem EG.throw{d:Nat}{β:Type}{s:String}:EG d (MonadExcept.throw s:Except String (World×β)):=fun r hr=>by cases hr
theorem pv(p:Program)(w:World)(a:Addr)(u:TypeId)(k:Addr)(v:Value)(b:Bool):EG w.drawn (w.viewStore p a u k v b):=by
 unfold World.viewStore;dsimp only
 repeat' first
  |exact EG.throw
  |exact EG.error
  |(intro r hr;cases hr;rfl)
  |refine EG.bind fun _=>?_
  |split
theorem MJ(w:World)(a:Addr)(n:Nat):(w.freeze a n).drawn=w.drawn:=by grind [World.freeze]
theorem zER{α:Type}(k:Ask α):∀(w:World),w.drawn<=(w.ask k).2.drawn:=by
 induction k with
 |done a=>intro w;exact zLb _
 |ask what range k ih =>
  intro w;unfold World.ask;grind
theorem zBM(w:World)(c:Sys):w.drawn<=(w.sys c).2.drawn:=by
 unfold World.sys;have h:=zER (Kernel.perform c w.os) w
 grind
def RU(d:Nat){α:Type}:Result α->Prop
 |.ok _ w=>d<=w.drawn
 |.halt _ w=>d<=w.drawn
theorem RU.le{d d':Nat}{α:Type}{r:Result α}(h:RU d r)(hd:d'<=d):RU d' r:=by
 cases r<;>exact zLg hd h
theorem An{p:Program}{w w':World}{a:Addr}{v:Value}{b:Bool}{l:List Addr}(h:w.farStore p a v b=.ok (w',l)):w'.drawn=w.drawn:=by
 unfold World.farStore at h;split at h
 ·split at h
  ·rename_i r hr
   cases h
   exact pv _ _ _ _ _ _ _ _ hr
  ·cases h
 ·cases h
theorem lx{α:Type}(p:Program)(e:Sem α):∀w:World,RU w.drawn (e.run p w):=by
 induction e with
 |pure a=>intro w;exact zLb _
 |load m a k ih =>
  intro w;simp only[Sem.run];split
  ·grind
  ·split
   ·grind
   ·exact zLb _
 |store m a v k ih =>
  intro w
  have key:RU w.drawn (match w.cell? a with
   |some _=>if w.frozen? a then .halt (.unsupported (.unsafePointer "a write to bytes that a string shares")) w else k.run p (w.setCell a v)
   |none=>match w.farStore p a v (m == .atomic) with
    |.ok (w,_)=>k.run p w
    |.error h=>.halt h w):=by
   split
   ·split
    ·exact zLb _
    ·exact(ih (w.setCell a v)).le (by simp[World.setCell])
   ·split
    ·rename_i w' l hw
     exact(ih _).le (by rw[An hw];omega)
    ·exact zLb _
  cases v<;>first|exact key|exact zLb _
 |new o k ih=>intro w;exact ih _ { w with heap:=w.heap.push o }
 |shape r k ih=>intro w;exact ih _ _
 |freeze a n k ih=>intro w;exact(ih (w.freeze a n)).le (by simp[MJ])
 |frozen a k ih=>intro w;exact ih _ _
 |getObj r k ih =>
  intro w;simp only[Sem.run];split
  ·exact zLb _
  ·grind
  ·exact zLb _
 |setObj r o k ih =>
  intro w;simp only[Sem.run];split
  ·exact zLb _
  ·grind
  ·exact zLb _
 |choose q k ih =>
  intro w;simp only[Sem.run];split
  ·grind
  ·exact(ih _ { w with drawn:=w.drawn+1 }).le (zLk _)
 |sys c k ih=>intro w;exact(ih _ _).le (zBM w c)
 |program k ih=>intro w;exact ih _ _
 |mark m k ih=>intro w;exact ih _
 |halt h=>intro w;exact zLb _
theorem Ge{α:Type}(p:Program)(e:Sem α)(w:World)(es:Array Event):RU w.drawn (e.runT p w es).1:=by
 grind [Sem.runT_fst,lx]
theorem ZE{α:Type}{p:Program}{e:Sem α}{w w':World}{a:α}(h:e.run p w=.ok a w'):w.drawn<=w'.drawn:=by
 have:=lx p e w;rw[h]at this;exact this
theorem Uw{α:Type}{p:Program}{e:Sem α}{w w':World}{a:Halt}(h:e.run p w=.halt a w'):w.drawn<=w'.drawn:=by
 have:=lx p e w;rw[h]at this;exact this
def GU(d:Nat):GStep->Prop
 |.go _ w _|.comm _ _ _ _ w _|.spawn _ _ w _|.count _ w _|.timer _ _ w _|.alone _ _ w _|.newcoro _ _ _ w _|.coroswitch _ _ _ w _|.collect _ w _|.watch _ w _=>d<=w.drawn
 |.ended _ _ _=>True
theorem GU.le{d d':Nat}{s:GStep}(h:GU d s)(hd:d'<=d):GU d' s:=by
 cases s<;>first|exact zLg hd h|trivial
theorem GU.after{d:Nat}{es:Array Event}{s:GStep}(h:GU d s):GU d (GStep.after es s):=by
 cases s<;>exact h
theorem QO(fr:Frame)(a:List ByteArray)(m:String)(b:Bool)(w:World):GU w.drawn (dieOf fr a m b w):=zLb _
theorem Zu(fr:Frame)(m:String)(w:World):GU w.drawn (endThrow fr m w):=zLb _
theorem JB(p:Program)(fr:Frame)(v:Value)(w:World):GU w.drawn (endPrinting p fr v w):=by
 unfold endPrinting;dsimp only;split
 ·exact Zu _ _ _
 ·trivial
theorem Dx(w:World)(fd:Nat)(t:ByteArray)(o:Outcome):GU w.drawn (endWith w fd t o):=by
 unfold endWith;dsimp only;split
 ·split<;>trivial
 ·trivial
 ·trivial
theorem w6(p:Program)(fr:Frame)(callers:List Frame)(dying:Option Dying)(m:String)(w:World):GU w.drawn (endFatal p fr callers dying m w):=by
 unfold endFatal;dsimp only;split
 ·rename_i h;exact(QO _ _ _ _ _).le (ZE h)
 ·trivial
 ·trivial
theorem K7{α:Type}{p:Program}{e:Sem α}{w:World}{es:Array Event}{r:Result α×Array Event}(h:e.runT p w es=r):RU w.drawn r.1:=by grind [Ge]
theorem DA(p:Program)(fr:Frame)(d:Dying)(f:Fatal)(w:World):GU w.drawn (writeOn p fr d f w):=by
 unfold writeOn;dsimp only;split
 ·trivial
 ·split
  ·rename_i h;exact K7 h
  ·rename_i h;exact K7 h
  ·trivial
  ·trivial
theorem Y5(p:Program)(main:Bool)(fr:Frame)(callers:List Frame)(dying:Option Dying)(v:Value)(w:World):GU w.drawn (doReturn p main fr callers dying v w):=by
 unfold doReturn;split
 ·split<;>exact zLb _
 ·split
  ·exact zLb _
  ·trivial
  ·split
   ·exact zLb _
   ·split
    ·exact zLb _
    ·trivial
theorem zEI(p:Program)(fr:Frame)(d:Dying)(w:World):GU w.drawn (die p fr d w):=by
 unfold die;dsimp only;split
 ·grind [DA]
 ·split
  ·split
   ·exact zLb _
   grind [Dx]
  ·split
   ·exact zLb _
   ·split
    ·rename_i h;exact ZE h
    ·trivial
   ·refine GU.after ?_
    generalize hr:(Sem.runT p _ w #[])=r;have h:=K7 hr
    clear hr;split<;>rename_i h'<;>first|trivial|skip
    ·rw[h']at h;exact h
    ·rw[h']at h;exact h
    ·rw[h']at h;exact(JB _ _ _ _).le h
   ·trivial
theorem GU.ite{d:Nat}{p:Prop}[Decidable p]{a b:GStep}(h1:GU d a)(h2:GU d b):GU d (if p then a else b):=by grind
theorem uM(p:Program)(fr:Frame)(callers:List Frame)(dying:Option Dying)(d:Deferred)(w:World):GU w.drawn (callDeferred p fr callers dying d w):=by
 unfold callDeferred;refine GU.ite trivial ?_;dsimp only;refine GU.after ?_;generalize hr:(Sem.runT p _ w #[])=r;have h:=K7 hr
 clear hr;split<;>rename_i h'<;>rw[h']at h<;>first
  |trivial
  |exact h
  |exact(w6 _ _ _ _ _ _).le h
  |exact(Zu _ _ _).le h
  |(split<;>exact h)
theorem IX(p:Program)(main:Bool)(fr:Frame)(callers:List Frame)(dying:Option Dying)(w:World):GU w.drawn (unwind p main fr callers dying w):=by
 unfold unwind;split
 ·dsimp only
  refine GU.after ?_;generalize hr:(Sem.runT p _ w #[])=r;have h:=K7 hr
  clear hr;split<;>rename_i h'<;>rw[h']at h<;>first|trivial|exact h
 ·grind [uM]
 ·split
  ·trivial
  ·split
   ·trivial
   ·split
    ·exact zLb _
    ·split
     ·split
      ·exact zLb _
      ·split
       ·rename_i h;exact ZE h
       ·trivial
       ·trivial
     ·split
      ·exact JB _ _ _ _
      ·trivial
  ·split
   ·grind [Y5]
   ·dsimp only
    refine GU.after ?_;generalize hr:(Sem.runT p _ w #[])=r;have h:=K7 hr
    clear hr;split<;>rename_i h'<;>rw[h']at h<;>first|trivial|exact(Y5 _ _ _ _ _ _ _).le h
theorem QM(p:Program)(fr:Frame)(callers:List Frame)(dying:Option Dying)(g:Nat)(w:World):GU w.drawn (early p fr callers dying g w):=by
 have nY:∀w':World,w.drawn<=w'.drawn->GU w.drawn (match w'.heap[g]? with
  |some (.pending c elem)=>GStep.go { frame:=fr,callers,status:=.running,dying } { w' with heap:=w'.heap.setIfInBounds g (.cells c elem) }
  |_=>.ended (.stuck "early: the variable does not wait" (fr.pos p)) w'):=by
  intro w' h;split
  ·exact h
  ·trivial
 unfold early;dsimp only
 repeat' first
  |exact nY _ (zLb _)
  |trivial
  |exact zLb _
  |(rename_i h;exact nY _ (ZE h))
  |(rename_i h;exact ZE h)
  |split
theorem Kq(p:Program)(listen:Bool)(fr:Frame)(callers:List Frame)(dying:Option Dying)(s:Sem Next)(w:World):GU w.drawn (stepG.apply p listen fr callers dying s w):=by
 unfold stepG.apply;dsimp only;refine GU.after ?_;have h:RU w.drawn (if listen then s.runT p w #[] else (s.run p w,#[])).1:=by
  grind [Ge,lx]
 generalize (if listen then s.runT p w #[] else (s.run p w,#[]))=r at h
 clear s;split<;>rename_i h'<;>rw[h']at h<;>first
  |trivial
  |exact h
  |exact(w6 _ _ _ _ _ _).le h
  |exact(Zu _ _ _).le h
  |exact(QM _ _ _ _ _ _).le h
  |exact GU.ite ((Zu _ _ _).le h) h
  |(split<;>first|exact h|exact(Zu _ _ _).le h)
theorem VQ(p:Program)(listen:Bool)(fr:Frame)(callers:List Frame)(dying:Option Dying)(w:World):GU w.drawn (stepG.oper p listen fr callers dying w):=by
 unfold stepG.oper;split
 ·trivial
 grind [Kq]
theorem GU.elim{d:Nat}{α:Type}{o:Option α}{a:GStep}{f:α->GStep}(h1:GU d a)(h2:∀x,GU d (f x)):GU d (o.elim a f):=by
 cases o
 ·exact h1
 grind
theorem V5(p:Program)(main:Bool)(listen:Bool)(fr:Frame)(callers:List Frame)(dying:Option Dying)(w:World):GU w.drawn (stepG.exec p main listen fr callers dying w):=by
 unfold stepG.exec;dsimp only;split
 all_goals first
  |exact zLb _
  |trivial
  |exact Kq _ _ _ _ _ _ _
  |(refine GU.elim ?_ (fun _=>zLb _);split;exact GU.ite (zLb _) trivial;refine GU.after ?_;generalize hr:(Sem.runT _ _ _ #[])=r;have h:=K7 hr;clear hr;split<;>rename_i h'<;>rw[h']at h<;>first|trivial|exact(Y5 _ _ _ _ _ _ _).le h)
  |(refine GU.elim trivial fun _=>Kq _ _ _ _ _ _ _;done)
  |(split;exact GU.ite (zLb _) trivial;refine GU.after ?_;generalize hr:(Sem.runT _ _ _ #[])=r;have h:=K7 hr;clear hr;split<;>rename_i h'<;>rw[h']at h<;>first|trivial|exact(Y5 _ _ _ _ _ _ _).le h)
  |(refine GU.ite (VQ _ _ _ _ _ _) (zLb _);done)
  |(refine GU.ite (zLb _) ?_;split<;>rename_i h<;>first|trivial|exact ZE h)
  |(refine GU.after ?_;generalize hr:(Sem.runT p _ w #[])=r;have h:=K7 hr;clear hr;split<;>rename_i h'<;>rw[h']at h<;>first|trivial|exact h|exact(Kq _ _ _ _ _ _ _).le h)
  |(split<;>first|exact zLb _|trivial)
theorem M7(p:Program)(main:Bool)(g:Goroutine)(w:World)(listen:Bool):GU w.drawn (stepG p main g w listen):=by
 unfold stepG;grind [zEI,V5,IX]
def SU(d:Nat):Stepped->Prop
 |.next m=>d<=m.world.drawn
 |.ended _ _=>True
theorem SU.le{d d':Nat}{s:Stepped}(h:SU d s)(hd:d'<=d):SU d' s:=by
 cases s<;>first|exact zLg hd h|trivial
theorem SU.ite{d:Nat}{p:Prop}[Decidable p]{a b:Stepped}(h1:SU d a)(h2:SU d b):SU d (if p then a else b):=by grind
theorem SU.zEx{d:Nat}{β:Type}{p:Prop}[Decidable p]{a b:Stepped×β}(h1:SU d a.1)(h2:SU d b.1):SU d (if p then a else b).1:=by grind
theorem G7(p:Program)(gs:Array Goroutine)(rest:Rest)(w:World):SU w.drawn (look p gs rest w):=by
 unfold look;dsimp only;split
 ·refine SU.ite trivial ?_
  split
  ·trivial
  ·split<;>rename_i h<;>first
    |trivial
    |(have h1:=ZE h;exact h1)
 ·trivial
theorem pk{rest:Rest}{cases:Array CommCase}{w w':World}(h:waitingAt rest cases w=some w'):w'.drawn=w.drawn:=by
 grind [waitingAt]
theorem tK(p:Program)(rest:Rest)(gs:Array Goroutine)(i:Nat)(g:Goroutine)(cases:Array CommCase)(blocking:Bool)(shape:CommShape)(w:World):SU w.drawn (communicate p rest gs i g cases blocking shape w).1:=by
 unfold communicate;dsimp only;refine SU.zEx trivial (SU.zEx (SU.zEx ?_ (zLb _)) ?_)
 ·split
  ·rename_i h;show _<=_;rw[pk h];omega
  ·trivial
 ·split
  ·trivial
  ·rename_i h
   have hu:=ZE h;clear h;split
   ·split
    ·rename_i h2;exact zLg hu (Uw h2)
    ·trivial
   ·exact hu
   ·exact hu
   ·split
    ·exact hu
    ·split
     ·rename_i h2
      have h3:=zLg hu (ZE h2);exact h3
     ·trivial
   ·exact hu
   ·exact hu
   ·trivial
theorem QN(w:World)(c:Nat):(drain w c).2.drawn=w.drawn:=by grind [drain]
theorem rv(m:Machine)(k:Nat)(t:Timer)(a b:Nat):(retime m k t a b).2.world.drawn=m.world.drawn:=by
 grind [retime,QN]
theorem Iw{m m':Machine}{v:Addr}(h:timerOp.opened m v=some m'):m'.world.drawn=m.world.drawn:=by
 grind [timerOp.opened]
theorem Bk{m m1 m':Machine}{v:Addr}{f:Nat->Timer->Value×Machine}{u:Value}(hf:∀k t,(f k t).2.world.drawn=m1.world.drawn)(h:timerOp.named m v f=.ok (u,m')):m'.world.drawn=m1.world.drawn:=by
 grind [timerOp.named]
theorem DD{m m':Machine}{op:TimerOp}{v:Value}(h:timerOp m op=.ok (v,m')):m'.world.drawn=m.world.drawn:=by
 unfold timerOp at h;split at h
 ·split at h
  ·cases h;rfl
  grind
 ·grind [Bk,rv]
 ·grind [Bk,rv,Iw]
 ·cases h;rfl
theorem Ik(p:Program)(m:Machine)(i:Nat)(listen:Bool):SU m.world.drawn (runT p m i listen).1:=by
 unfold runT;dsimp only;have h:=M7 p (i == 0) (m.gs.swapAt! i { (default:Goroutine) with status:=.finished }).1 m.world listen
 generalize stepG p (i == 0) (m.gs.swapAt! i { (default:Goroutine) with status:=.finished }).1 m.world listen=s at h
 cases s with
 |ended=>trivial
 |comm=>exact(tK _ _ _ _ _ _ _ _ _).le h
 |go=>exact h
 |spawn=>exact h
 |count=>exact SU.ite trivial h
 |alone=>exact h
 |collect=>exact(G7 _ _ _ _).le h
 |watch=>exact h
 |newcoro=>exact h
 |coroswitch g c exit w es =>
  dsimp only;split
  ·exact h
  ·exact h
  ·trivial
 |timer g op w es =>
  dsimp only;split
  ·rename_i h2
   have h3:=DD h2;show _<=_
   rw[h3];exact h
  ·exact h
  ·trivial
  ·trivial
theorem NS(p:Program)(m:Machine)(k:Nat):SU m.world.drawn (serve p m k):=by
 unfold serve;dsimp only;split
 ·trivial
 ·exact zLb _
 ·split
  ·trivial
  ·exact zLb _
def VU(d:Nat):Move->Prop
 |.goroutine m _=>d<=m.world.drawn
 |.machine s _=>SU d s
theorem VU.le{d d':Nat}{s:Move}(h:VU d s)(hd:d'<=d):VU d' s:=by
 cases s with
 |goroutine m i=>exact zLg hd h
 |machine s ops=>exact SU.le h hd
theorem VU.ite{d:Nat}{p:Prop}[Decidable p]{a b:Move}(h1:VU d a)(h2:VU d b):VU d (if p then a else b):=by grind
theorem qf(p:Program)(m:Machine):VU m.world.drawn (askOn p m):=by
 unfold askOn;dsimp only;split
 ·trivial
 ·rename_i h
  have hu:=ZE h;clear h;refine VU.ite ((NS _ _ _).le hu) ?_;split
  ·split
   ·exact hu
   ·refine VU.ite hu ?_
    split<;>trivial
  ·split
   ·split
    ·trivial
    ·rename_i h
     have h1:=ZE h;refine VU.ite (zLg hu h1) ?_;split
     ·trivial
     ·rename_i h;have h2:=ZE h;exact zLg hu (zLg h1 h2)
   ·split
    ·trivial
    ·rename_i h
     have h0:=ZE h;split
     ·trivial
     ·rename_i h
      have h1:=ZE h;refine VU.ite (zLg hu (zLg h0 h1)) ?_;split
      ·trivial
      ·rename_i h;have h2:=ZE h;exact zLg hu (zLg h0 (zLg h1 h2))
    ·rename_i h
     have h0:=ZE h;exact zLg hu h0
    ·rename_i h
     have h0:=ZE h;split
     ·trivial
     ·rename_i h
      have h1:=ZE h;refine VU.ite (zLg hu (zLg h0 h1)) ?_;split
      ·trivial
      ·rename_i h;have h2:=ZE h;exact zLg hu (zLg h0 (zLg h1 h2))
theorem CV(p:Program)(m:Machine):VU m.world.drawn (ask p m):=by
 unfold ask;split
 ·split
  ·trivial
  ·rename_i h
   have h1:=ZE h;have h2:=G7 p m.gs m.rest ‹World›
   split
   ·rename_i m' h3;rw[h3]at h2;exact(qf _ _).le (zLg h1 h2)
   ·exact h2.le h1
  ·rename_i h
   have h1:=ZE h;exact(qf _ _).le h1
 ·exact qf _ _
theorem Vw(p:Program)(m:Machine):VU m.world.drawn (move p m):=by
 unfold move;split
 ·exact VU.ite (zLb _) trivial
 ·split
  ·exact VU.ite (zLb _) (CV p _)
  ·exact CV p m
theorem U3{p:Program}{m m':Machine}(h:step p m=.next m'):m.world.drawn<=m'.world.drawn:=by
 unfold step stepT at h;have h1:=Vw p m
 split at h
 ·rename_i h2
  rw[h2]at h1;have h3:=Ik p ‹Machine› ‹Nat› true
  rw[h]at h3;exact zLg h1 h3
 ·rename_i h2
  rw[h2]at h1;dsimp only at h;rw[h]at h1;exact h1
theorem VB{p:Program}{n:Nat}:∀ {m m':Machine},runN p n m=.next m'->m.world.drawn<=m'.world.drawn:=by
 induction n with
 |zero=>intro m m' h;cases h;omega
 |succ n ih =>
  intro m m' h;unfold runN at h;split at h
  ·rename_i h1;exact zLg (U3 h1) (ih h)
  grind
theorem CS{P:Program}{f:FuncId}{args:Array Value}{w:World}{R:Ending->World->Prop}(h:Calls P f args w R):Calls P f args w fun e w'=>R e w'/\(∀v,e=.returned v->w.drawn<=w'.drawn):=by
 intro cs;obtain⟨e,w',fr,h1,h2,h3⟩:=h cs;refine⟨e,w',fr,⟨h1,?_⟩,h2,h3⟩;rintro v rfl;obtain⟨n,hn⟩:=h2;exact VB hn
end Go.Up
#print axioms Go.Up.CS
end
section
namespace Go.Den
open Go Go.RowKit Go.Eng Go.Lift
open Go.Sort (SWO grow ahead putRow Holds HoldsK flatK putRowK)
open Go.Proofs (ltOf CmpLays sortWorldK)
theorem qZ:∀ {t:Ty},t.nar=true->∀x:t.D,(kD t x).length=t.sz:=by
 intro t
 induction t with
 |int k=>intro _ x;rfl
 |bool=>intro _ x;rfl
 |str=>intro _ x;rfl
 |nil=>intro _ x;rfl
 |cons a b iha ihb =>
  simp_all [Ty.nar,kD,Ty.sz]
 |_=>intro h;cases h
theorem QL:∀ {t:Ty},t.nar=true->∀x:t.D,∀v∈kD t x,v.oneCell'=true:=by
 intro t h x v hv;have:=HM (mc h) v hv
 cases v<;>first|rfl|cases this
theorem QI{w w':World}(h:Ext w w')(hd:w.drawn<=w'.drawn):∃q os,w'=grow (w.drewN q) os:=by
 refine⟨w'.drawn-w.drawn,w'.heap.extract w.heap.size w'.heap.size,?_⟩;have h1:=h.os
 have h2:=h.tape;have h3:=h.output
 have h4:=h.size;have h5:=h.block
 obtain⟨hp,tp,dr,os,ou⟩:=w;obtain⟨hp',tp',dr',os',ou'⟩:=w';simp only at h1 h2 h3 h4 h5 hd;subst h1 h2 h3;unfold grow World.drewN;simp only
 congr 1
 ·grind
 ·omega
theorem QU{P:Program}{e:Ty}(hn:e.nar=true)(ha:e.agg=true)[Inhabited e.D]{cf:e.D->e.D->Int}{F:e.D×e.D×Unit->Comp (Int×Unit)}(hF:∀x y,∃n,(F (x,y,())).run n=some (cf x y,()))
  {O:zR} {w:World} (hO:OkO O w) {g:Nat} {cb:Array Value} (hg:FnOk P g)
  (h4:∀O' w',OkO O' w'->zb 0 O w O' w'->∀vs x,(Ty.cons e (.cons e .nil)).args P O' w' vs x->∀n y,(F x).run n=some y->IL P (.func (.func g) #[] cb) vs.toArray w' (fun w'' v=>∃rs,kh rs v/\(Ty.cons (.int .i64) .nil).args P O' w'' rs y))
  {b:Nat} (hb:b<w.heap.size) (bD:O b≠0) (size:Nat):CmpLays P g cb (kD e) e.sz cf b 0 size w:=by
 intro m os dk hdk x y;obtain⟨n,hn'⟩:=hF x y;have pV:w.heap.size<=(sortWorldK (kD e) e.sz w b 0 m dk os).heap.size:=by simp[sortWorldK,grow,putRowK,putRow,Go.Sort.mapBlock,ahead]
 have lC:∀c,c<w.heap.size->c≠b->(sortWorldK (kD e) e.sz w b 0 m dk os).heap[c]?=w.heap[c]?:=by
  intro c hc fD;unfold sortWorldK;rw[Go.Sort.heap_grow_old _ _ (by simp_all [putRowK])]
  simp[putRowK,putRow,Go.Sort.mapBlock,ahead,Array.getElem?_modify,Ne.symm fD]
 have hk:zb 0 O w O (sortWorldK (kD e) e.sz w b 0 m dk os):=⟨pV,fun c hc h0=>⟨h0,lC c hc (fun e=>bD (e ▸ h0))⟩⟩
 have ho:OkO O (sortWorldK (kD e) e.sz w b 0 m dk os):=fun c hc=>hO c (by omega)
 have hv:∀x:e.D,(e.gr P).v O (sortWorldK (kD e) e.sz w b 0 m dk os) (.agg (kD e x).toArray) x:=fun x=>⟨_,uj hn x,by rw[Ty.jI,ha];rfl⟩
 obtain⟨f,ys,h5,h6⟩:=h4 O _ ho hk [.agg (kD e x).toArray,.agg (kD e y).toArray] (x,y,()) ⟨_,_,rfl,hv x,_,_,rfl,hv y,rfl⟩ n _ hn';obtain⟨fn,g1,g2,g3⟩:=hg.h;simp only[Deferred.ofValue,Sem.run_bind,Sem.run_pure,Result.andThen,invoke,callFunc,run_program,g1]at h5;simp[g2,g3]at h5;obtain⟨rfl,rfl⟩:=h5;refine Calls.mono (Go.Up.CS h6) ?_;rintro e' w' ⟨⟨v,rfl,hE,rs,ht,v1,aZ,rfl,oU,sV⟩,hd⟩
 obtain⟨cs,dN,bU⟩:=oU;rw[show cs=[Value.int .i64 (cf x y)] from dN]at bU
 have hvs':aZ=[]:=sV;subst hvs';refine⟨?_,QI hE (hd _ rfl)⟩;rcases ht with ht|ht
 ·cases ht
 ·rw[ht];show Ending.returned v1=_;rw[bU];rfl
theorem qA{e:Ty}(ha:e.agg=true)(x:e.D):(gj e x).cells=(kD e x).toArray:=by unfold gj;rw[ha];rfl
theorem BP{e:Ty}(hn:e.nar=true){P:Program}{O:zR}{w:World}:∀ {vs:List Value} {xs:List e.D},y5 (e.gr P) O w vs xs->vs=xs.map (gj e)
 | [],[],_=>rfl
 |v::vs,x::xs,h=>by rw[List.map_cons,<-BP hn h.2,S6 (mc hn) h.1]
 | [],_::_,h=>h.elim
 |_::_,[],h=>h.elim
theorem rz{e:Ty}(hn:e.nar=true){P:Program}{O:zR}{w:World}:∀(xs:List e.D),y5 (e.gr P) O w (xs.map (gj e)) xs
 | []=>trivial
 |x::xs=>⟨⟨_,uj hn x,by rw[Ty.jI];rfl⟩,rz hn xs⟩
section enc
variable {e:Ty} (hn:e.nar=true) (ha:e.agg=true)
include hn ha
theorem MK(x:e.D):(gj e x).cells.size=e.sz:=by grind [qA,qZ]
theorem AC(xs:List e.D):∀v∈xs.map (gj e),v.cells.size=e.sz:=by
 intro v hv;obtain⟨x,_,rfl⟩:=List.mem_map.1 hv;grind [MK]
theorem B9 [Inhabited e.D](xs:List e.D){t:Nat}(ht:t<xs.length * e.sz):(flat (xs.map (gj e)))[t]?=some ((flatK (kD e) e.sz xs.toArray)[t]!):=by
 have h0:0<e.sz:=Nat.pos_of_ne_zero fun h=>by grind
 have hq:t / e.sz<xs.length:=Nat.div_lt_of_lt_mul (by grind)
 have hr:t % e.sz<e.sz:=Nat.mod_lt _ h0;rw[Go.Sort.get_flatK _ _ _ _ (by omega)]
 have h1:=Zz (AC hn ha xs) (t / e.sz) (gj e xs[t / e.sz]) (by grind) (t % e.sz) hr
 grind [Nat.div_add_mod',qA,qZ]
theorem Dv [Inhabited e.D](xs:List e.D):(flatK (kD e) e.sz xs.toArray).toList=flat (xs.map (gj e)):=by
 apply List.ext_getElem?;intro t;by_cases ht:t<xs.length * e.sz
 ·grind [B9,flatK]
 ·rw[List.getElem?_eq_none (by simpa using ht),List.getElem?_eq_none (by grind [Kl,AC,List.length_map])]
theorem MH [Inhabited e.D]{w:World}{b:Nat}{cur:Array Value}{T:TypeId}{xs:List e.D}(hb:w.heap[b]?=some (.cells cur T (0,0)))(h:cur.toList.take (xs.length * e.sz)=flat (xs.map (gj e))):HoldsK (kD e) e.sz w b 0 xs.toArray:=by
 intro j hj;have hj':j<xs.length * e.sz:=by simpa using hj
 refine⟨?_,by grind [World.frozen?]⟩
 have h1:=B9 hn ha xs hj';rw[<-h,List.getElem?_take_of_lt hj']at h1;simp_all [World.cell?]
theorem QA{P:Program}{ρ:Go.Shelf.Ren}(L:Go.Proofs.SlLaysF0.n6 P ρ)(aE:∀w,(isAgg (ρ.t 24)).run P w=.ok true w)(zE:∀w,(Go.sizeOf (ρ.t 24)).run P w=.ok e.sz w)[Inhabited e.D]{T:TypeId}
  {cf:e.D->e.D->Int} (hO:SWO (ltOf cf)) (hT:∀x y,(ltOf cf) x y=false->(ltOf cf) y x=false->x=y) {F:e.D×e.D×Unit->Comp (Int×Unit)} (hF:∀x y,∃n,(F (x,y,())).run n=some (cf x y,()))
  {O:zR} {w:World} (hw:OkO O w) {u v:Value} {xs:List e.D} (hA:zAO (e.gr P) T O w u xs) (hv:((Ty.fn (.cons e (.cons e .nil)) (.cons (.int .i64) .nil)).gr P).v O w v F) (hl:xs.length<=LIM) :
  Calls P (ρ.f 6) #[u,v] w (AP (e.gr P) T O w u (xs.mergeSort fun x y=>!(ltOf cf) y x) (zEi false u)):=by
 obtain⟨⟨vs,h1,h2⟩,h3⟩:=hA;have sV:=BP hn h2
 subst sV;obtain⟨cs,⟨u',e1,⟨e2,e3⟩,e4⟩,e5⟩:=hv;obtain⟨g,cb,rfl,hg⟩:=e3 rfl;have hvu:v=.func (.func g) #[] cb:=by rw[e5,e1];rfl
 subst hvu;have fA:(xs.map (gj e)).length=xs.length:=List.length_map _
 have pV:(e.gr P).sz=e.sz:=Ty.yr P e;rcases h1.row.2 with ⟨f1,f2⟩|⟨b,cap,cur,f1,f2,f3,f4,f5,f6,f7⟩
 ·have hx:xs=[]:=List.eq_nil_of_length_eq_zero (by omega)
  subst hx;subst f1;refine Calls.mono (Go.Proofs.AnyF.slices_SortFunc_none L none 0 _ w) ?_;rintro e' w' ⟨he,rfl⟩;exact⟨_,.slice none 0 0,he,⟨⟨rfl,rfl,rfl,zLb _,fun _ _ _=>rfl⟩,.inl rfl⟩,⟨[],OwnS.nil _ _ _ _,by simp[y5]⟩,rfl,rfl⟩
 ·unfold LIM at hl
  subst f1;rw[fA]at f4 f7 h1 |-;rw[pV]at f6 f7;have hb:b<w.heap.size:=(zLy.1 f3).1
  have bD:O b≠0:=h3 b rfl;have eg:∀args w,(callFunc g args).run P w=.ok (.enter g args) w:=by
   intro args w;obtain⟨fn,g1,g2,g3⟩:=hg.h;grind [callFunc,Sem.run_bind,Sem.run_pure,Result.andThen,run_program]
  have hB4:=QU (P:=P) hn ha hF hw (cb:=cb) hg e4 hb bD xs.toArray.size;have xZ:=Go.Proofs.AnyQ.slices_SortFunc_total L e.sz aE zE (kD e) (qZ hn) (QL hn) cf hO g cb b 0 cap xs.toArray w eg hB4 (MH hn ha f3 f7) hb (by grind) hT
  rw[List.size_toArray]at xZ;refine Calls.mono xZ ?_;rintro e' w' ⟨he,n,os,rfl⟩;simp only[];generalize sQ:(xs.mergeSort fun x y=>!(ltOf cf) y x)=ys
  have dW:ys.length=xs.length:=by grind [List.length_mergeSort]
  have hB5:(sortWorldK (kD e) e.sz w b 0 n ys.toArray os).heap[b]?=some (.cells (Go.Sort.putCells id 0 (flatK (kD e) e.sz ys.toArray) cur) T (0,0)):=by
   unfold sortWorldK;rw[Go.Sort.heap_grow_old _ _ (by simpa[putRowK,putRow,Go.Sort.mapBlock,ahead] using hb)]
   simp[putRowK,putRow,Go.Sort.mapBlock,ahead,Array.getElem?_modify,f3,Go.Sort.onCells]
  have hgr:w.grownBy (sortWorldK (kD e) e.sz w b 0 n ys.toArray os) (some b):=by
   refine⟨rfl,rfl,rfl,by simp[sortWorldK,grow,putRowK,putRow,Go.Sort.mapBlock,ahead],fun k hk fD=>?_⟩
   unfold sortWorldK;rw[Go.Sort.heap_grow_old _ _ (by simpa[putRowK,putRow,Go.Sort.mapBlock,ahead] using hk)]
   have:b≠k:=fun e=>fD (by rw[e])
   simp[putRowK,putRow,Go.Sort.mapBlock,ahead,Array.getElem?_modify,this]
  have hB6:(Go.Sort.putCells id 0 (flatK (kD e) e.sz ys.toArray) cur).toList.take (xs.length * e.sz)=flat (ys.map (gj e)):=by
   rw[<-Dv hn ha ys];have fG:xs.length * e.sz<=cur.size:=by rw[f6];exact Nat.mul_le_mul_right _ f4
   apply List.ext_getElem?;intro j;by_cases hj:j<xs.length * e.sz
   ·have h5:j<cur.size:=by omega
    have h6:j<(flatK (kD e) e.sz ys.toArray).size:=by simpa[dW] using hj
    rw[List.getElem?_take_of_lt hj,Array.getElem?_toList,Array.getElem?_toList,Array.getElem?_eq_getElem h6];simp only[Go.Sort.putCells,Array.getElem?_mapIdx,Array.getElem?_eq_getElem h5,Option.map_some,Nat.zero_le,true_and,Nat.zero_add,Nat.sub_zero];grind
   ·rw[List.getElem?_take_eq_none (by omega),List.getElem?_eq_none (by simpa[dW] using hj)]
  refine⟨_,.slice (some ⟨b,0,none⟩) xs.length cap,he,⟨hgr,.inl rfl⟩,⟨ys.map (gj e),⟨?_,?_⟩,rz hn ys⟩,rfl,rfl⟩
  ·grind [AC]
  ·rw[pV,List.length_map,dW]
   refine⟨by grind [Kl,AC,List.length_map],.inr ⟨b,cap,_,rfl,Nat.zero_le _,hB5,f4,f5,?_,hB6⟩⟩
   grind [Go.Sort.putCells]
end enc
instance:Inhabited Pln:=⟨((0,0,0,()),0,())⟩
abbrev UI:Ty:=.cons (.cons (.int .i64) (.cons (.int .i64) (.cons (.int .i64) .nil))) (.cons (.int .i64) .nil)
instance:Inhabited UI.D:=⟨(((0:Int),(0:Int),(0:Int),()),(0:Int),())⟩
theorem JJ(x y:Pln):ltOf X9 x y=true↔LtP x y:=by simp[ltOf,KN]
theorem JZ(x y:Pln):ltOf X9 x y=false↔¬LtP x y:=by grind [JJ]
theorem GP:SWO (ltOf X9) where
 irrefl x:=(JZ x x).2 LtP.irr
 trans x y z h1 h2:=(JJ x z).2 (((JJ x y).1 h1).trans ((JJ y z).1 h2))
 ntrans x y z h1 h2:=by
  rw[JZ]at *;intro h3;rcases LtP.tri y z with h|h|h
  ·exact h2 h
  ·grind
  ·exact h1 (h3.trans h)
theorem MQ(x y:Pln)(h1:ltOf X9 x y=false)(h2:ltOf X9 y x=false):x=y:=by
 grind [JZ,LtP.tri]
theorem I8(l:List Pln):(l.mergeSort fun x y=>!(ltOf X9) y x)=Jw l:=by
 refine List.Perm.eq_of_pairwise (le:=fun p q=>¬LtP q p) (fun a b _ _ h1 h2=>?_) ?_ (BG l) ((List.mergeSort_perm _ _).trans (rf l).symm)
 ·grind [LtP.tri]
 ·have:=List.pairwise_mergeSort (le:=fun x y:Pln=>!(ltOf X9) y x) (fun a b c h1 h2=>?_) (fun a b=>?_) l
  ·grind [JZ]
  ·simp only[Bool.not_eq_true']at *
   exact GP.ntrans c b a h2 h1
  grind [LtP.asym,JJ]
theorem NM{P:Program}{ρ:Go.Shelf.Ren}(L:Go.Proofs.SlLaysF0.n6 P ρ){dd:TypeDesc}{z:Value}{by_:Nat}(hT:Eng.Ty P (ρ.t 24) dd z 4 by_)(hd:vN dd=true){T:TypeId}(hf:FnOk P (ρ.f 6)) :
  FO.ok P (ρ.f 6) ⟨UI,T,.cons (.fn (.cons UI (.cons UI .nil)) (.cons (.int .i64) .nil)) .nil,false,fun xs x=>Cj xs x.1⟩:=by
 refine⟨hf,fun O w hw u xs hA vs z hz n ys hy=>?_⟩
 obtain⟨v,aZ,rfl,hv,sV⟩:=hz;rw[show aZ=[] from sV]
 have hy':(Cj xs z.1).run n=some ys:=hy;unfold Cj at hy';split at hy'
 ·rename_i h
  have:=run_pure hy';subst this;have hm:=I8 xs
  have:=QA (P:=P) (e:=UI) rfl rfl L (fun w=>by rw[hT.YU,hd]) hT.zy (T:=T) GP MQ h.2 hw hA hv h.1
  refine Calls.mono this fun e w' he=>?_
  rw[<-hm];exact he
 ·cases hy'
end Go.Den
end
section
namespace Go.Proofs
open Go.Shelf
def Tryz.rh:Go.Shelf.Ren:=⟨fun|6=>203|15=>222|14=>221|28=>241|29=>242|20=>233|21=>234|22=>235|23=>236|24=>237|25=>238|26=>239|27=>240|46=>244|47=>245|48=>246|49=>247|50=>248|57=>249|n=>n,fun|22=>107|24=>106|25=>233|3=>3|39=>245|0=>0|53=>257|55=>259|4=>4|46=>250|45=>249|50=>254|5=>5|9=>9|66=>260|70=>264|76=>266|77=>267|n=>n,fun|n=>n⟩
theorem Tryz.zFQ:Go.Proofs.SlLaysF0.n6 Tryz.prog Tryz.rh:={
 mixed:=by kernel_rfl
 f6:=⟨Tryz.f203.name,by decide,Tryz.func203.trans (zLq some (by kernel_rfl))⟩
 f14:=⟨Tryz.f221.name,by decide,Tryz.func221.trans (zLq some (by kernel_rfl))⟩
 f15:=Tryz.func222.trans (zLq some (by kernel_rfl))
 f20:=⟨Tryz.f233.name,by decide,Tryz.func233.trans (zLq some (by kernel_rfl))⟩
 f21:=⟨Tryz.f234.name,by decide,Tryz.func234.trans (zLq some (by kernel_rfl))⟩
 f22:=⟨Tryz.f235.name,by decide,Tryz.func235.trans (zLq some (by kernel_rfl))⟩
 f23:=⟨Tryz.f236.name,by decide,Tryz.func236.trans (zLq some (by kernel_rfl))⟩
 f24:=⟨Tryz.f237.name,by decide,Tryz.func237.trans (zLq some (by kernel_rfl))⟩
 f25:=⟨Tryz.f238.name,by decide,Tryz.func238.trans (zLq some (by kernel_rfl))⟩
 f26:=⟨Tryz.f239.name,by decide,Tryz.func239.trans (zLq some (by kernel_rfl))⟩
 f27:=⟨Tryz.f240.name,by decide,Tryz.func240.trans (zLq some (by kernel_rfl))⟩
 f28:=Tryz.func241.trans (zLq some (by kernel_rfl))
 f29:=Tryz.func242.trans (zLq some (by kernel_rfl))
 f46:=⟨Tryz.f244.name,by decide,Tryz.func244.trans (zLq some (by kernel_rfl))⟩
 f47:=Tryz.func245.trans (zLq some (by kernel_rfl))
 f48:=Tryz.func246.trans (zLq some (by kernel_rfl))
 f49:=⟨Tryz.f247.name,by decide,Tryz.func247.trans (zLq some (by kernel_rfl))⟩
 f50:=⟨Tryz.f248.name,by decide,Tryz.func248.trans (zLq some (by kernel_rfl))⟩
 f57:=⟨Tryz.f249.name,by decide,Tryz.func249.trans (zLq some (by kernel_rfl))⟩
 t0:=Tryz.underlying0
 a0:=Tryz.isAgg0
 z0:=Tryz.sizeOf0
 v0:=Tryz.zeroValue0
 t3:=Tryz.underlying3
 a3:=Tryz.isAgg3
 z3:=Tryz.sizeOf3
 v3:=Tryz.zeroValue3
 t4:=Tryz.underlying4
 a4:=Tryz.isAgg4
 z4:=Tryz.sizeOf4
 v4:=Tryz.zeroValue4
 t5:=Tryz.underlying5
 a5:=Tryz.isAgg5
 z5:=Tryz.sizeOf5
 v5:=Tryz.zeroValue5
 t9:=Tryz.underlying9
 a9:=Tryz.isAgg9
 z9:=Tryz.sizeOf9
 v9:=Tryz.zeroValue9
 t22:=Tryz.underlying107
 a22:=Tryz.isAgg107
 z22:=Tryz.sizeOf107
 v22:=Tryz.zeroValue107
 t25:=Tryz.underlying233
 a25:=Tryz.isAgg233
 z25:=Tryz.sizeOf233
 v25:=Tryz.zeroValue233
 t39:=Tryz.underlying245
 a39:=Tryz.isAgg245
 z39:=Tryz.sizeOf245
 v39:=Tryz.zeroValue245
 t45:=Tryz.underlying249
 a45:=Tryz.isAgg249
 z45:=Tryz.sizeOf249
 v45:=Tryz.zeroValue249
 t46:=Tryz.underlying250
 a46:=Tryz.isAgg250
 z46:=Tryz.sizeOf250
 v46:=Tryz.zeroValue250
 t50:=Tryz.underlying254
 a50:=Tryz.isAgg254
 z50:=Tryz.sizeOf254
 v50:=Tryz.zeroValue254
 t53:=Tryz.underlying257
 a53:=Tryz.isAgg257
 z53:=Tryz.sizeOf257
 v53:=Tryz.zeroValue257
 t55:=Tryz.underlying259
 a55:=Tryz.isAgg259
 z55:=Tryz.sizeOf259
 v55:=Tryz.zeroValue259
 t66:=Tryz.underlying260
 a66:=Tryz.isAgg260
 z66:=Tryz.sizeOf260
 v66:=Tryz.zeroValue260
 t70:=Tryz.underlying264
 a70:=Tryz.isAgg264
 z70:=Tryz.sizeOf264
 v70:=Tryz.zeroValue264
 t76:=Tryz.underlying266
 a76:=Tryz.isAgg266
 z76:=Tryz.sizeOf266
 v76:=Tryz.zeroValue266
 t77:=Tryz.underlying267
 a77:=Tryz.isAgg267
 z77:=Tryz.sizeOf267
 v77:=Tryz.zeroValue267 }
end Go.Proofs
end
section
set_option maxRecDepth 20000
namespace Go.Dn
open Go Go.Proofs Go.RowKit Go.Eng Go.Lift Go.Den
def Jk(f:Func):Code:=f.body.getD .skip
theorem zHZ{α:Type}{l:List α}(h:l.length=4):∃a b c d,l=[a,b,c,d]:=by
 match l,h with
 | [a,b,c,d],_=>exact⟨a,b,c,d,rfl⟩
theorem zFY:RecG prog 99 Tryz.f99 (cl (Jk Tryz.f99)) (cr (Jk Tryz.f99)) 4 4 5 43 t43:=by
 have hT:=(zAN 43 i43 (by kernel_rfl)).ty
 have eP:∀w,(underlying 43).run prog w=.ok (.int .i64) w:=fun w=>by simp only[underlying,hT.u];rfl
 have hz:∀w,(zeroValue 43).run prog w=.ok i43.z w:=hT.kc;have iY:∀g,Fence.wide.fn g:=fun _=>trivial
 refine⟨Tryz.func99,⟨_,Tryz.func99,rfl,by kernel_rfl⟩,rfl,Tryz.results99,by decide,fun caps hc c₀ cs w v hv hu Q hQ=>?_,fun caps hc c₀ cs w hu Q hQ=>?_⟩
 ·obtain⟨a,b,c,d,rfl⟩:=zHZ hc
  dsimp only [cl,Jk,Tryz.f99,Option.getD];apply wpSIn_region;show wpOpsSIn _ _ _ _ _ [0,1,2,3,4,5,6] _ _ _
  simp[wpOpsSIn,go_sem,recoverD,hu,Instr.typeAssert,eP,iY,Act.eval,Act.put];refine hQ _ w (Ext.refl w) ⟨?_,rfl⟩ ?_ ?_ ?_
  ·simp
  ·intro i u hi
   match i,hi with
   |0,hi=>simpa[Act.get] using hi
   |1,hi=>simpa[Act.get] using hi
   |2,hi=>simpa[Act.get] using hi
   |3,hi=>simpa[Act.get] using hi
  ·simp[Act.get]
  ·simp[Act.get]
 ·obtain⟨a,b,c,d,rfl⟩:=zHZ hc
  dsimp only [cl,Jk,Tryz.f99,Option.getD];apply wpSIn_region;show wpOpsSIn _ _ _ _ _ [0,1,2,3,4,5,6] _ _ _
  simp[wpOpsSIn,go_sem,recoverD,hu,Instr.typeAssert,eP,iY,hz,Act.eval,Act.put];refine hQ _ w (Ext.refl w) ⟨?_,rfl⟩ ?_ ?_
  ·simp
  ·intro i u hi
   match i,hi with
   |0,hi=>simpa[Act.get] using hi
   |1,hi=>simpa[Act.get] using hi
   |2,hi=>simpa[Act.get] using hi
   |3,hi=>simpa[Act.get] using hi
  ·simp[Act.get]
end Go.Dn
end
section
set_option maxRecDepth 20000
namespace Go.Dn
open Go Go.Proofs Go.RowKit Go.Eng Go.Lift Go.Den
theorem zBZ:RecG prog 108 Tryz.f108 (cl (Jk Tryz.f108)) (cr (Jk Tryz.f108)) 1 6 2 156 t156:=by
 have hT:=(zAN 156 zEy (by kernel_rfl)).ty
 have eP:∀w,(underlying 156).run prog w=.ok (.struct (prog.fieldsOf 156)) w:=hT.gf;have hz:∀w,(zeroValue 156).run prog w=.ok (.agg #[]) w:=hT.kc
 have pV:∀w,(sizeOf 156).run prog w=.ok 0 w:=hT.zy;have iY:∀g,Fence.wide.fn g:=fun _=>trivial
 refine⟨Tryz.func108,⟨_,Tryz.func108,rfl,by kernel_rfl⟩,rfl,Tryz.results108,by decide,fun caps hc c₀ cs w v hv hu Q hQ=>?_,fun caps hc c₀ cs w hu Q hQ=>?_⟩
 ·obtain⟨a,rfl⟩:=List.length_eq_one_iff.1 hc
  have hv:v=.agg #[]:=by
   obtain⟨O,w',z,cs',h1,h2⟩:=hv;have h1:cs'=[]:=h1
   subst h1;exact h2
  subst hv;dsimp only [cl,Jk,Tryz.f108,Option.getD];apply wpSIn_region;show wpOpsSIn _ _ _ _ _ [0,1,2,3,4,5,6,7] _ _ _
  simp[wpOpsSIn,go_sem,recoverD,hu,Instr.typeAssert,eP,iY,hz,pV,Act.eval,Act.put];refine hQ _ _ (Ext.alloc w _) ⟨?_,rfl⟩ ?_ ?_ ?_
  ·simp
  ·intro i u hi
   match i,hi with
   |0,hi=>simpa[Act.get] using hi
  ·simp[Act.get]
  ·simp[Act.get]
 ·obtain⟨a,rfl⟩:=List.length_eq_one_iff.1 hc
  dsimp only [cl,Jk,Tryz.f108,Option.getD];apply wpSIn_region;show wpOpsSIn _ _ _ _ _ [0,1,2,3,4,5,6,7] _ _ _
  simp[wpOpsSIn,go_sem,recoverD,hu,Instr.typeAssert,eP,iY,hz,pV,Act.eval,Act.put];refine hQ _ _ (Ext.alloc w _) ⟨?_,rfl⟩ ?_ ?_
  ·simp
  ·intro i u hi
   match i,hi with
   |0,hi=>simpa[Act.get] using hi
  ·simp[Act.get]
end Go.Dn
end
