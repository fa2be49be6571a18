/- Lemmas behind a claim. -/
import Derived.Test.YtknbpncolbmoaaaGreatKPmE
import Derived.Test.YtknbpncolbmoaaaGreatProg
import Derived.Calls
import Derived.RunT
import Derived.Shelf.SlSortCmp.NoneTotal
import Derived.Ground.SlsfProg
import Derived.Tactics
import Derived.Tactics2
import Derived.TacticsInMore
set_option linter.unusedSimpArgs false
set_option linter.unusedVariables false
open Go.Lift.Comp (run_pure zA zJ YI)
section
namespace Go.Geo
open Go Go.Eng Go.Lift Go.Den Go.F
variable {α β γ δ ε σ τ:Type}
def zAv(a m:Nat)(g:Nat->Bool):Bool:=(List.range' a m).any g
theorem Cf{body:Int->Comp (Comp.Step Int ε)}(g:Nat->Bool){c d:ε}:∀(m a:Nat),(∀(i:Nat),a<=i->i<a+m->(body (i:Int)).val=some (if g i=true then .done c else .next ((i+1:Nat):Int)))->(body ((a+m:Nat):Int)).val=some (.done d)->(Comp.loop body (a:Int)).val=some (bif zAv a m g then c else d)
 |0,a,hb,he=>by rw[zJ];rw[Nat.add_zero]at he;rw[he];rfl
 |m+1,a,hb,he=>by
  have ih:=Cf g m (a+1) (fun i h1 h2=>hb i (by omega) (by omega)) (by rw[show a+1+m=a+(m+1) by omega];exact he)
  rw[zJ,hb a (zMS _) (by omega)]
  grind [zAv]
def lj(l:List Int):Bool:=!zAv 1 (l.length-1) fun k=>decide (l.getD k 0<=l.getD (k-1) 0)
theorem ky{l:List Int}(hl:l.length<=1000000):(jm l).val=some (lj l,()):=by
 unfold jm lj;have h1:=Cf (fun k=>decide (l.getD k 0<=l.getD (k-1) 0)) (c:=(Sum.inr false:Unit⊕Bool)) (d:=Sum.inl ()) (body:=(fun (x:Int)=>if ltI x (zD l)=true then
       (idx l x).bind fun x_1=>(idx l (gZ .i64 x 1)).bind fun x_2=>if leI x_1 x_2=true then Comp.pure (Comp.Step.done (Sum.inr false)) else Comp.pure (Comp.Step.next (zH .i64 x 1))
      else Comp.pure (Comp.Step.done (Sum.inl ())))) (l.length-1) 1
  (fun k h1 h2=>by
   obtain⟨a,ha⟩:=zO (xs:=l) (k:=k) (by omega)
   obtain⟨b,hb⟩:=zO (xs:=l) (k:=k-1) (by omega)
   have hi:(idx l (gZ .i64 (k:Int) 1)).val=some b:=by
    grind [zI]
   rw[zMq (by grind),zA,zI ha,zMO,zA,hi,zMO,je ha,je hb,zN (by omega)]
   by_cases h:a<=b
   ·simp_all [zBh]
   simp_all [zMr,zBh])
  (by rw[zMr (by grind),Comp.zB])
 rw[zA];refine(zMh (fun o=>Option.bind o _) h1).trans ?_
 grind [Comp.zB]
theorem tJ{l:List Int}(hl:l.length<=1000000):(jS l).val=some (lj l,()):=ky hl
def rz(n k:Nat)(x:Int):Bool:=(decide (x<0) || decide ((n:Int)<=x)) || decide (x=(k:Int))
def eE(n k:Nat)(x:Eff):Int:=if jD (x.1++x.2.1)=0 then if x.2.2.1<1\/1048576<x.2.2.1 then 3 else bif x.2.2.2.1.any (rz n k) then 3 else bif lj x.2.2.2.1 then 0 else 7 else jD (x.1++x.2.1)
def SmE(x:Eff):Prop:=x.1.length<=100000/\x.2.1.length<=100000/\x.2.2.2.1.length<=100000
theorem CA{s:List Cell}{body:Int->Comp (Comp.Step Int (Unit⊕Int))}(hb:∀(i:Nat) c,s[i]?=some c->(body (i:Int)).val=some (if chk c=0 then .next ((i+1:Nat):Int) else .done (.inr (chk c))))(he:(body (s.length:Int)).val=some (.done (.inl ()))) :
  (Comp.loop body 0).val=some (if jD s=0 then .inl () else .inr (jD s)):=by
 have key:∀(ys zs:List Cell),s=zs++ys->(Comp.loop body (zs.length:Int)).val=some (if jD ys=0 then .inl () else .inr (jD ys)):=by
  intro ys
  induction ys with
  |nil =>
   intro zs hx;rw[zJ,show zs.length=s.length by grind,he];rfl
  |cons y ys ih =>
   intro zs hx;have hy:s[zs.length]?=some y:=by grind
   rw[JR];by_cases h:chk y=0
   ·rw[zMq h,zJ,hb _ _ hy,zMq h,zMO]
    simpa using ih (zs++[y]) (by grind)
   ·rw[zMr h,zMr h,zJ,hb _ _ hy,zMr h,zMO]
 exact key s [] rfl
theorem w9{n k:Nat}{x:Eff}(hs:SmE x)(hn:n<=100000){ln0:Int}(hl:ln0=(n:Int)){inc:List Int->Comp (Bool×Unit)}(hinc:∀l,l.length<=1000000->(inc l).val=some (lj l,())){body:Int->Comp (Comp.Step Int (Unit⊕Int))}
  (hb:∀(i:Nat) w,x.2.2.2.1[i]?=some w->(body (i:Int)).val=some (if rz n k w=true then .done (.inr 3) else .next ((i+1:Nat):Int))) (he:(body (x.2.2.2.1.length:Int)).val=some (.done (.inl ()))) :
  (if sel (ltI x.2.2.1 1) true (gtI x.2.2.1 1048576)=true then Comp.pure (3,())
      else
       (Comp.loop body 0).bind fun (x_3:Unit⊕Int)=>match x_3 with
        |Sum.inl x_4 =>
         (inc x.2.2.2.1).bind fun x=>if ntB x.1=true then Comp.pure (7,()) else (Comp.pure (0,()):Comp (Int×Unit))
        |Sum.inr x=>Comp.pure (x,())).val=some (if x.2.2.1<1\/1048576<x.2.2.1 then 3 else bif x.2.2.2.1.any (rz n k) then 3 else bif lj x.2.2.2.1 then 0 else 7,()):=by
 obtain⟨s1,s2,s3⟩:=hs;by_cases hc:x.2.2.1<1\/1048576<x.2.2.1
 ·simp_all [YL,zj,J8]
 ·rw[zMr (by grind),zMr hc,zA]
  have h1:=Zv x.2.2.2.1 (fun w=>!rz n k w) (c:=(Sum.inr 3:Unit⊕Int)) (d:=Sum.inl ()) (body:=body)
   (fun i w hw=>by grind) he
  have fG:(x.2.2.2.1.all fun w=>!rz n k w) = !x.2.2.2.1.any (rz n k):=by grind
  rw[fG]at h1;refine(zMh (fun o=>Option.bind o _) h1).trans ?_
  rw[zMO]
  cases x.2.2.2.1.any (rz n k) with
  |true=>exact Comp.zB _
  |false =>
   show ((inc x.2.2.2.1).bind fun x=>if ntB x.1=true then Comp.pure (7,()) else (Comp.pure (0,()):Comp (Int×Unit))).val=_
   grind [zA,Comp.zB]
theorem D6{L:List Eff}{k:Nat}{x:Eff}(hx:L[k]?=some x)(hs:SmE x)(hL:L.length<=100000):(Zl L (k:Int)).val=some (eE L.length k x,()):=by
 have hs':=hs;obtain⟨s1,s2,s3⟩:=hs;unfold Zl eE;have cC:(zW [x.1,x.2.1]).val=some (x.1++x.2.1,()):=by
  have:=K1 (z:=([]:Cell)) (xs:=[x.1,x.2.1]) (by grind [LIM]) (by simp)
  simp only[List.flatten_cons,List.flatten_nil,zMw]at this;exact this
 rw[zA,zI hx,zMO,zA,cC,zMO];simp only;generalize fG:x.1++x.2.1=all;have sU:all.length<=200000:=by grind
 have h2:=CA (s:=all)
  (body:=(fun (x_1:Int)=>if ltI x_1 (zD all)=true then
         (idx all x_1).bind fun x=>(Go.F.vn x).bind fun x=>if neI x.1 0=true then Comp.pure (Comp.Step.done (Sum.inr x.1)) else Comp.pure (Comp.Step.next (zH .i64 x_1 1))
        else Comp.pure (Comp.Step.done (Sum.inl ()))))
  (fun i c hc=>by
   have gF:=zL hc;rw[zMq (by grind),zA,zI hc,zMO,zA,gx,zMO,zN (by omega)]
   by_cases h:chk c=0
   ·simp_all [gJ]
   simp_all [gJ])
  (by simp[zj,zR])
 rw[zA];refine(zMh (fun o=>Option.bind o _) h2).trans ?_
 rw[zMO];by_cases h0:jD all=0
 ·rw[zMq h0,zMq h0]
  refine w9 (n:=L.length) (k:=k) hs' hL (ln0:=zD L) rfl (fun l hl=>ky hl) (fun i w hw=>?_) ?_
  ·have gF:=zL hw
   rw[zMq (by grind),zA,zI hw,zMO,zN (by omega)]
   have e:sel (sel (ltI w 0) true (geI w (zD L))) true (eqI w (k:Int))=rz L.length k w:=by rw[YL,YL];rfl
   grind [Comp.zB]
  simp[zj,zR]
 simp_all
theorem Af{L:List Eff}{k:Nat}{x:Eff}(hx:L[k]?=some x)(hs:SmE x)(hL:L.length<=100000):(vz L (k:Int)).val=some (eE L.length k x,()):=by
 have hs':=hs;obtain⟨s1,s2,s3⟩:=hs;unfold vz eE;rw[zA,zI hx,zMO,zA,yQ (by grind [LIM]),zMO,zA,yQ (by grind [LIM]),zMO]
 simp only[List.nil_append];generalize fG:x.1++x.2.1=all;have sU:all.length<=200000:=by grind
 have h2:=CA (s:=all)
  (body:=(fun (x_1:Int)=>if ltI x_1 (zD all)=true then
         (idx all x_1).bind fun x=>(Go.F.za x).bind fun x=>if neI x.1 0=true then Comp.pure (Comp.Step.done (Sum.inr x.1)) else Comp.pure (Comp.Step.next (zH .i64 x_1 1))
        else Comp.pure (Comp.Step.done (Sum.inl ()))))
  (fun i c hc=>by
   have gF:=zL hc;rw[zMq (by grind),zA,zI hc,zMO,zA,jr,zMO,zN (by omega)]
   by_cases h:chk c=0
   ·simp_all [gJ]
   simp_all [gJ])
  (by simp[zj,zR])
 rw[zA];refine(zMh (fun o=>Option.bind o _) h2).trans ?_
 rw[zMO];by_cases h0:jD all=0
 ·rw[zMq h0,zMq h0]
  refine w9 (n:=L.length) (k:=k) hs' hL (ln0:=zD L) rfl (fun l hl=>tJ hl) (fun i w hw=>?_) ?_
  ·have gF:=zL hw
   rw[zMq (by grind),zA,zI hw,zMO,zN (by omega)]
   have e:rz L.length k w=((ltI w 0 || geI w (zD L)) || eqI w (k:Int)):=rfl
   rw[e]
   cases h1:ltI w 0 with
   |true =>
    rw[zA];show Option.bind (Comp.pure _).val _=_
    rw[Comp.zB,zMO,zA];show Option.bind (Comp.pure _).val _=_
    grind [Comp.zB]
   |false =>
    rw[zA];show Option.bind (idx x.2.2.2.1 (i:Int)).val _=_
    rw[zI hw,zMO,zA]
    cases h2:geI w (zD L) with
    |true =>
     show Option.bind (Comp.pure _).val _=_
     grind [Comp.zB]
    |false =>
     show Option.bind (idx x.2.2.2.1 (i:Int)).val _=_
     grind [zI,Comp.zB]
  simp[zj,zR]
 simp_all
def efs(n:Nat):List Eff->Nat->Int
 | [],_=>0
 |x::l,k=>if eE n k x=0 then efs n l (k+1) else eE n k x
def wF(L:List Eff):Nat:=(L.map fun x=>x.1.length).sum
def ckJ(j:Job):Int:=if fit j.1 j.2.1=0 then if 8<j.2.2.1.length then 2 else if efs j.2.2.1.length j.2.2.1 0=0 then if 24<j.2.1.2.2.1.length+wF j.2.2.1 then 2 else 0 else efs j.2.2.1.length j.2.2.1 0 else fit j.1 j.2.1
theorem vY{j:Job}(hw:j.1.2.2.1.length<9223372036854775807)(hs:∀x∈j.2.2.1,SmE x):(kW j).val=some (ckJ j,()):=by
 unfold kW ckJ;rw[zA,Xa hw,zMO];by_cases oI:ckP j.1=0
 ·rw[zMr (by grind),zA,rY,zMO,yV]
  cases cV:ZS j.1 j.2.1 with
  |false =>
   simp_all [fit]
  |true =>
   have hf:fit j.1 j.2.1=0:=by simp_all [fit]
   obtain⟨_,_,f1,f2,f3,f4,hn,hwn⟩:=Xs hf;rw[zMr (by simp),zMq hf]
   by_cases h8:8<j.2.2.1.length
   ·rw[zMq (by grind),zMq h8,Comp.zB]
   ·rw[zMr (by grind),zMr h8]
    generalize hL:j.2.2.1=L at h8 hs;have key:∀(ys zs:List Eff) (c:Nat),L=zs++ys->c+ys.length * 100000<=10000000->(Comp.loop
          (fun (x:Int×Int)=>if ltI x.2 (zD L)=true then
            (idx L x.2).bind fun (x_1 :
               List (List (Pln))×List (List (Pln))×Int×List Int×Unit) =>
             (Go.F.Zl L x.2).bind fun x_2=>if neI x_2.1 0=true then Comp.pure (Comp.Step.done (Sum.inr x_2.1))
              else Comp.pure (Comp.Step.next (zH .i64 x.1 (zD x_1.1),zH .i64 x.2 1))
           else Comp.pure (Comp.Step.done (Sum.inl x.1:Int⊕Int))) ((c:Int),(zs.length:Int))).val=some (if efs L.length ys zs.length=0 then .inl ((c+wF ys:Nat):Int) else .inr (efs L.length ys zs.length)):=by
     intro ys
     induction ys with
     |nil =>
      intro zs c hx _;rw[zJ,zMr (by grind),Comp.zB];rfl
     |cons y ys ih =>
      intro zs c hx hc;have hy:L[zs.length]?=some y:=by grind
      have gF:=zL hy;have dJ:=hs y (zMV hy)
      have hcy:=dJ.1;simp only[zMY]at hc;rw[zJ,zMq (by grind),zA,zI hy,zMO,zA,D6 hy dJ (by omega),zMO]
      show _=some (if (if eE L.length zs.length y=0 then efs L.length ys (zs.length+1) else eE L.length zs.length y)=0 then _ else Sum.inr (if eE L.length zs.length y=0 then efs L.length ys (zs.length+1) else eE L.length zs.length y))
      by_cases he:eE L.length zs.length y=0
      ·rw[zMr (by grind),zMq he,Comp.zB,zMO,zN (by omega)]
       have cF:zH .i64 (c:Int) (zD y.1)=((c+y.1.length:Nat):Int):=by grind
       rw[cF];have:=ih (zs++[y]) (c+y.1.length) (by grind) (by omega)
       grind [wF]
      simp_all [gJ]
    have h0:=key L [] j.2.1.2.2.1.length rfl (by omega)
    rw[zA];refine(zMh (fun o=>Option.bind o _) h0).trans ?_
    rw[zMO];simp only[List.length_nil];by_cases he:efs L.length L 0=0
    ·rw[zMq he,zMq he]
     show (if gtI ((j.2.1.2.2.1.length+wF L:Nat):Int) 24=true then _ else _:Comp (Int×Unit)).val=_
     by_cases aR:24<j.2.1.2.2.1.length+wF L
     ·rw[zMq (by grind),zMq aR,Comp.zB]
     ·rw[zMr (by grind),zMr aR,Comp.zB]
    simp_all
 simp_all [fit,gJ]
theorem uP{j:Job}(hw:j.1.2.2.1.length<9223372036854775807)(hs:∀x∈j.2.2.1,SmE x):(gO j).val=some (ckJ j,()):=by
 unfold gO ckJ;rw[zA,Y8 hw,zMO];by_cases oI:ckP j.1=0
 ·rw[zMr (by grind),zA,pI,zMO,yV]
  cases cV:ZS j.1 j.2.1 with
  |false =>
   simp_all [fit]
  |true =>
   have hf:fit j.1 j.2.1=0:=by simp_all [fit]
   obtain⟨_,_,f1,f2,f3,f4,hn,hwn⟩:=Xs hf;rw[zMr (by simp),zMq hf]
   by_cases h8:8<j.2.2.1.length
   ·rw[zMq (by grind),zMq h8,Comp.zB]
   ·rw[zMr (by grind),zMr h8]
    generalize hL:j.2.2.1=L at h8 hs;have key:∀(ys zs:List Eff) (c:Nat),L=zs++ys->c+ys.length * 100000<=10000000->(Comp.loop
          (fun (x:Int×Int)=>if ltI x.2 (zD L)=true then
            (Go.F.vz L x.2).bind fun x_1=>if neI x_1.1 0=true then Comp.pure (Comp.Step.done (Sum.inr x_1.1))
             else
              (idx L x.2).bind fun (x_2 :
                 List (List (Pln))×List (List (Pln))×Int×List Int×Unit) =>
               Comp.pure (Comp.Step.next (zH .i64 x.1 (zD x_2.1),zH .i64 x.2 1))
           else Comp.pure (Comp.Step.done (Sum.inl x.1:Int⊕Int))) ((c:Int),(zs.length:Int))).val=some (if efs L.length ys zs.length=0 then .inl ((c+wF ys:Nat):Int) else .inr (efs L.length ys zs.length)):=by
     intro ys
     induction ys with
     |nil =>
      intro zs c hx _;rw[zJ,zMr (by grind),Comp.zB];rfl
     |cons y ys ih =>
      intro zs c hx hc;have hy:L[zs.length]?=some y:=by grind
      have gF:=zL hy;have dJ:=hs y (zMV hy)
      have hcy:=dJ.1;simp only[zMY]at hc;rw[zJ,zMq (by grind),zA,Af hy dJ (by omega),zMO]
      show _=some (if (if eE L.length zs.length y=0 then efs L.length ys (zs.length+1) else eE L.length zs.length y)=0 then _ else Sum.inr (if eE L.length zs.length y=0 then efs L.length ys (zs.length+1) else eE L.length zs.length y))
      by_cases he:eE L.length zs.length y=0
      ·rw[zMr (by grind),zMq he,zA,zI hy,zMO,Comp.zB,zMO,zN (by omega)]
       have cF:zH .i64 (c:Int) (zD y.1)=((c+y.1.length:Nat):Int):=by grind
       rw[cF];have:=ih (zs++[y]) (c+y.1.length) (by grind) (by omega)
       grind [wF]
      simp_all [gJ]
    have h0:=key L [] j.2.1.2.2.1.length rfl (by omega)
    rw[zA];refine(zMh (fun o=>Option.bind o _) h0).trans ?_
    rw[zMO];simp only[List.length_nil];by_cases he:efs L.length L 0=0
    ·rw[zMq he,zMq he]
     show (if gtI ((j.2.1.2.2.1.length+wF L:Nat):Int) 24=true then _ else _:Comp (Int×Unit)).val=_
     by_cases aR:24<j.2.1.2.2.1.length+wF L
     ·rw[zMq (by grind),zMq aR,Comp.zB]
     ·rw[zMr (by grind),zMr aR,Comp.zB]
    simp_all
 simp_all [fit,gJ]
def opn(L:List Eff)(k:Int):Eff:=L.getD k.toNat ([],[],0,[],())
theorem zCZ{L:List Eff}(hs:∀x∈L,SmE x)(k:Int):SmE (opn L k):=by
 unfold opn;rw[zMj]
 cases h:L[k.toNat]? with
 |none=>exact⟨by simp,by simp,by simp⟩
 |some x=>grind
theorem Kt{L:List Eff}{k:Int}(h:0<=k/\k<L.length):(idx L k).val=some (opn L k):=by
 grind [Kb,opn]
structure SmJ(j:Job):Prop where
 w:j.1.2.2.1.length<9223372036854775807
 e:∀x∈j.2.2.1,SmE x
 n:j.2.2.1.length<=1000000
abbrev Drw:=List Int×Int×Unit
def DOk(n:Int)(d:Drw):Prop:=0<=d.2.1/\d.2.1<=n
theorem zEh{n m:Int}(hm:1<=m/\m<=1000000):Ok (kN n m) fun r=>0<=r.1/\r.1<m:=by
 unfold kN;rw[zMr (by grind),Ok.bind,Ok.rem (by omega),Ok.bind]
 have h1 : -m<n.tmod m/\n.tmod m<m:=by
  have:=Int.tmod_lt_of_pos n (show 0<m by omega)
  have h2 : -m<n.tmod m:=by
   rcases Int.le_total 0 n with hn|hn
   ·have:=Int.tmod_nonneg m hn;omega
   ·have h3:=Int.tmod_lt_of_pos (-n) (show 0<m by omega)
    rw[Int.neg_tmod]at h3;omega
  omega
 grind [Ok.rem,Ok.pure,Int.tmod_nonneg,Int.tmod_lt_of_pos]
theorem WQ{d:Drw}{m k:Int}(hm:1<=m/\m<=1000000)(hk:0<=k/\k<=1000000000)(hd:DOk k d):Ok (zF d m) fun r=>DOk (k+1) r.1.1/\(0<=r.2.1/\r.2.1<m):=by
 obtain⟨h1,h2⟩:=hd;unfold zF;by_cases h:(zD d.1)<=d.2.1
 ·rw[zMq (by grind),Ok.pure]
  refine⟨⟨h1,?_⟩,?_⟩
  ·grind
  grind
 ·rw[zR]at h
  rw[zMr (by grind),ku (by omega),JW (by omega),show d.2.1+1-1=d.2.1 by omega,Ok.bind]
  obtain⟨x,hx⟩:=zO (xs:=d.1) (k:=d.2.1.toNat) (by omega)
  rw[Ok.idx h1 hx,Ok.bind];refine(zEh hm).mono fun r hr=>?_
  rw[Ok.pure];refine⟨⟨?_,?_⟩,hr⟩
  ·grind
  grind
theorem zFN(a b:V3):Ok (zw a b) fun r=>r.1.length=6:=by
 simp[zw,Ok.pure]
def j9(b n:Nat)(C:List Cell):Prop:=C.length<=n/\∀c∈C,c≠[]/\c.length<=b
abbrev tI:=j9 10
theorem j9.snoc{b n:Nat}{C:List Cell}{c:Cell}(h:j9 b n C)(hc:c≠[]/\c.length<=b):j9 b (n+1) (C++[c]) :=
by
  refine⟨?_,fun d hd=>?_⟩
  · rw[zMR,zMT];have:=h.1;omega
  · rcases zMZ.1 hd with hd|hd
    · exact h.2 d hd
    grind
theorem j9.mono{b n m:Nat}{C:List Cell}(h:j9 b n C)(xP:n<=m):j9 b m C:=⟨zMX h.1 xP,h.2⟩
theorem j9.wide{b d n:Nat}{C:List Cell}(h:j9 b n C)(cQ:b<=d):j9 d n C:=⟨h.1,fun c hc=>⟨(h.2 c hc).1,zMX (h.2 c hc).2 cQ⟩⟩
theorem RV{c:Cell}(h:c.length=6):c≠[]/\c.length<=6:=by
 grind
theorem yg{d:Drw}{m k:Int}{f:((Drw×Unit)×Int×Unit)->Comp α}{P:α->Prop}(hd:DOk k d)(hm:1<=m/\m<=1000000)(hk:0<=k/\k<=1000000000)
  (h:∀d' v,DOk (k+1) d'->0<=v->v<m->Ok (f ((d',()),v,())) P):Ok ((zF d m).bind f) P:=by
 rw[Ok.bind];exact(WQ hm hk hd).mono fun r hr=>h r.1.1 r.2.1 hr.1 hr.2.1 hr.2.2
theorem jN{k:α->Comp β}{b:(α->Comp β)->Comp β}{P:β->Prop}(I:α->Prop)(hb:∀j,(∀x,I x->Ok (j x) P)->Ok (b j) P)(hk:∀x,I x->Ok (k x) P):Ok (jn k b) P:=hb k hk
theorem d0(x:List Int):DOk 0 (x,0,()):=by unfold DOk;show (0:Int)<=0/\(0:Int)<=0;omega
theorem XC{xs:List β}{i:Int}{f:β->Comp α}{P:α->Prop}(h0:0<=i)(h1:i<xs.length)(h:∀x,x∈xs->Ok (f x) P):Ok ((idx xs i).bind f) P:=by
 obtain⟨x,hx⟩:=zO (xs:=xs) (k:=i.toNat) (by omega)
 rw[Ok.bind,Ok.idx h0 hx];exact h x (zMV hx)
theorem GQ:1000000<=LIM:=by decide
theorem vq{xs ys:List β}{f:List β->Comp α}{P:α->Prop}(hl:xs.length+ys.length<=1000000)(h:Ok (f (xs++ys)) P):Ok ((app xs ys).bind f) P:=by
 rw[Ok.bind,Ok.app (by have:=GQ;omega)];exact h
theorem zFU{a b:V3}{f:Cell×Unit->Comp α}{P:α->Prop}(h:∀c:Cell,c.length=6->Ok (f (c,())) P):Ok ((zw a b).bind f) P:=by
 rw[Ok.bind];exact(zFN a b).mono fun r hr=>h r.1 hr
theorem zAQ{ys:Cell}{f:Cell->Comp α}{P:α->Prop}(hn:ys≠[])(hl:ys.length<=1000000)(h:Ok (f ys) P):Ok ((zAu [] ys).bind f) P:=by
 cases ys with
 |nil=>exact(hn rfl).elim
 |cons y ys =>
  show Ok ((app [] (y::ys)).bind f) P
  exact vq (by simpa using hl) h
theorem Cu{a b:Bool}(h:sel a b false=true):a=true/\b=true:=by cases a<;>cases b<;>simp_all [sel]
def ZL(p:Part):Prop:=tI 12 p.2.1/\p.2.1≠[]/\p.2.2.1.length=p.2.1.length
theorem Wt{x0:List (List Int)}{p:Part}(hp:ZL p):Ok (vK x0 p) fun r=>r.1.length<=4:=by
 unfold vK;rw[Ok.bind];have hq:∀n:Nat,n<9223372036854775807->True:=fun _ _=>trivial
 refine(Ok.loop (fun s:List Cell×Int=>0<=s.2/\s.2<=4/\(s.1.length:Int)=s.2) (fun s=>(4-s.2).toNat) (P:=fun r=>r.length<=4) ?_ ?_).mono fun r hr=>?_
 ·exact⟨by show (0:Int)<=0;omega,by show (0:Int)<=4;omega,rfl⟩
 ·rintro⟨C,i⟩ ⟨h1,h2,h3⟩
  dsimp only at h1 h2 h3 |-
  have hl:0<p.2.1.length:=by cases hc:p.2.1 with
   |nil=>exact(hp.2.1 hc).elim
   |cons _ _=>simp
  have dV:=hp.1.1;split
  ·rename_i hc
   obtain⟨c1,c2⟩:=Cu hc;rw[zj]at c1 c2;rw[zR]at c1;refine XC h1 c1 fun d hd=>?_
   refine yg (d0 d) (by decide) (by decide) fun d1 v1 e1 g1 g1'=>?_
   refine yg e1 (by rw[zR];omega) (by decide) fun d2 v2 e2 g2 g2'=>?_
   rw[zR]at g2';refine XC g2 g2' fun c hc=>?_
   obtain⟨k1,k2⟩:=hp.1.2 c hc;refine zAQ k1 (by omega) ?_
   refine jN (fun x=>DOk 4 x.2) (fun j hj=>?_) fun x hx=>?_
   ·dsimp only
    split
    ·refine yg e2 (by decide) (by decide) fun d3 v3 e3 g3 g3'=>?_
     refine yg e3 (by decide) (by decide) fun d4 v4 e4 g4 g4'=>?_
     refine vq (by simp;omega) ?_
     exact hj _ e4
    ·exact hj _ ⟨e2.1,by have:=e2.2;show d2.2.1<=4;omega⟩
   ·refine jN (fun _=>True) (fun j hj=>?_) fun y _=>?_
    ·dsimp only
     split
     ·refine yg hx (by decide) (by decide) fun d3 v3 e3 g3 g3'=>?_
      refine yg e3 (by decide) (by decide) fun d4 v4 e4 g4 g4'=>?_
      refine yg e4 (by decide) (by decide) fun d5 v5 e5 g5 g5'=>?_
      refine yg e5 (by decide) (by decide) fun d6 v6 e6 g6 g6'=>?_
      refine yg e6 (by decide) (by decide) fun d7 v7 e7 g7 g7'=>?_
      refine yg e7 (by decide) (by decide) fun d8 v8 e8 g8 g8'=>?_
      exact zFU fun c _=>hj _ trivial
     ·exact hj _ trivial
    ·refine vq (by simp;omega) ?_
     rw[Ok.pure];dsimp only;rw[ku (by omega)]
     refine⟨⟨by omega,by omega,by rw[zMR,zMT];omega⟩,by omega⟩
  ·rw[Ok.pure];dsimp only;omega
 ·rw[Ok.pure];exact hr
def box(a b c d e f:Int):Cell:=[((1,0,0,()),d,()),((-1,0,0,()),-a,()),((0,1,0,()),e,()),((0,-1,0,()),-b,()),((0,0,1,()),f,()),((0,0,-1,()),-c,())]
theorem Hm{a b c d e f:Int}(h:((-1000<=a/\a<=1000) /\ -1000<=b/\b<=1000) /\ -1000<=c/\c<=1000):(zw (a,b,c,()) (d,e,f,())).val=some (box a b c d e f,()):=by
 unfold zw;rw[Comp.zB];have hn:∀x:Int, -1000<=x/\x<=1000->Yp .i64 x = -x:=fun x hx=>JZ (by omega)
 simp only[hn a h.1.1,hn b h.1.2,hn c h.2];rfl
theorem UO{p q r:Pln}(hp:okB p)(hq:okB q)(hr:okB r){x:Pnt}(h:mt p q r=some x):Bd 300000000000000 (x.1,x.2.1,x.2.2.1,())/\0<=x.2.2.2.1/\x.2.2.2.1<=600000000000:=by
 have hd:=GF hp hq hr;obtain⟨n1,n2,n3⟩:=E4 hp hq hr;unfold mt at h;split at h
 ·cases h
 ·rename_i fE
  cases h
  generalize det p q r=w at hd fE;generalize num p q r=v at n1 n2 n3;have hg:(0:Int)<=((km v w:Nat):Int):=Int.natCast_nonneg _
  have t:∀ {a k:Int}, -k<=a/\a<=k -> -k<=a.tdiv ((km v w:Nat):Int)/\a.tdiv ((km v w:Nat):Int)<=k:=fun {a k} ha=>by
   have:=Gb (a:=a) (b:=((km v w:Nat):Int));omega
  unfold mkP Bd;dsimp only;by_cases hw:w<0
  ·rw[zMq hw]
   refine⟨⟨t (by omega),t (by omega),t (by omega)⟩,Int.tdiv_nonneg (by omega) hg,(t (a := -w) (k:=600000000000) (by omega)).2⟩
  simp_all [zMr,Int.tdiv_nonneg]
def Sep(a b:Cell):Prop:=∃p∈a,∃q∈b,(p.1.1+q.1.1=0/\p.1.2.1+q.1.2.1=0/\p.1.2.2.1+q.1.2.2.1=0)/\p.2.1+q.2.1<=0
theorem Sep.symm{a b:Cell}(h:Sep a b):Sep b a:=by
 obtain⟨p,hp,q,hq,h1,h2⟩:=h;exact⟨q,hq,p,hp,by omega,by omega⟩
theorem Sep.more{a b a' b':Cell}(h:Sep a b)(ha:∀p∈a,p∈a')(hb:∀p∈b,p∈b'):Sep a' b':=by
 obtain⟨p,hp,q,hq,h1⟩:=h;exact⟨p,ha p hp,q,hb q hq,h1⟩
theorem zCO{r:List Pln}(hr:∀p∈r,okB p){p q:Pln}(hp:p∈r)(hq:q∈r)(h:(p.1.1+q.1.1=0/\p.1.2.1+q.1.2.1=0/\p.1.2.2.1+q.1.2.2.1=0)/\p.2.1+q.2.1<=0):full r=false:=by
 unfold full;rw[List.all_eq_false];refine⟨p,hp,?_⟩;rw[Bool.not_eq_true,List.any_eq_false];intro x hx t7;rw[Ji]at hx;obtain⟨hi,t,ht,hm⟩:=hx;obtain⟨t1,t2,t3⟩:=ud ht;obtain⟨⟨b1,b2,b3⟩,d1,d2⟩:=UO (hr _ t1) (hr _ t2) (hr _ t3) hm;unfold ins at hi;rw[zMv]at hi;have hq0:=hi q hq
 simp only[zMi]at hq0 t7;obtain⟨⟨p1,p2,p3⟩,pB⟩:=hr p hp;obtain⟨⟨q1,q2,q3⟩,qB⟩:=hr q hq;have m1:=vA p1 b1;have m2:=vA p2 b2;have m3:=vA p3 b3
 have m4:=vA (A:=2097152) (B:=600000000000) pB (b:=x.2.2.2.1) (by omega)
 have m5:=vA (A:=2097152) (B:=600000000000) qB (b:=x.2.2.2.1) (by omega)
 dsimp only at m1 m2 m3;have e1:q.1.1 * x.1 = -(p.1.1 * x.1):=by grind
 have e2:q.1.2.1 * x.2.1 = -(p.1.2.1 * x.2.1):=by grind
 have e3:q.1.2.2.1 * x.2.2.1 = -(p.1.2.2.1 * x.2.2.1):=by grind
 have e4:(p.2.1+q.2.1) * x.2.2.2.1<=0:=Int.mul_nonpos_of_nonpos_of_nonneg (by omega) d1
 grind [rm,dt,r9]
theorem zAH{a b:Cell}(h:Sep a b):apa a b=true:=by
 unfold apa;by_cases ha:chk a=0
 ·by_cases hb:chk b=0
  ·obtain⟨p,hp,q,hq,h1⟩:=h
   rw[zCO (r:=a++b++bx0) (fun z hz=>?_) (by grind) (by grind) h1]
   ·simp
   ·rcases zMZ.1 hz with hz|hz
    ·rcases zMZ.1 hz with hz|hz
     ·exact(kt ha).2 z hz
     ·exact(kt hb).2 z hz
    ·exact KB z hz
  grind
 grind
theorem zAB{a b c d e f:Int}(h1:(-100<=a/\a<=100) /\ -100<=b/\b<=100)(h2:(-100<=c/\c<=100) /\ -100<=d/\d<=100)(h3:(-100<=e/\e<=100) /\ -100<=f/\f<=100):chk (box a b c d e f)=0:=by
 rw[AQ];refine⟨by grind [box],?_⟩
 have hv:∀x:Int, -100<=x/\x<=100->okv 2097152 x=true:=fun x hx=>by grind [okv]
 have ax:∀v∈([(1,0,0,()),(-1,0,0,()),(0,1,0,()),(0, -1,0,()),(0,0,1,()),(0,0, -1,())]:List V3),okN v=true/\K6 v=1:=by decide +kernel
 rw[zMv];intro p hp;have hp1:p.1∈([(1,0,0,()),(-1,0,0,()),(0,1,0,()),(0, -1,0,()),(0,0,1,()),(0,0, -1,())]:List V3)/\okv 2097152 p.2.1=true:=by
  unfold box at hp;simp only[zMU,List.not_mem_nil,or_false]at hp;grind
 grind [okP]
theorem zAA{a b c d e f:Int}(h1:(-20<=a/\a<d)/\d<=20)(h2:(-20<=b/\b<e)/\e<=20)(h3:(-20<=c/\c<f)/\f<=20):ful (box a b c d e f)=true:=by
 unfold ful;rw[zAB (by omega) (by omega) (by omega),zMt rfl,Bool.true_and]
 have hw:∀n:Int, -1000<=n/\n<=1000->W n=n:=fun n hn=>r9 (by omega)
 have k0:(a,b,c,1,())∈crn (box a b c d e f++bx0):=by
  rw[Ji];refine⟨?_,(((-1,0,0,()),-a,()),((0,-1,0,()),-b,()),((0,0,-1,()),-c,())),by simp[box,tri,prs],?_⟩
  ·simp only[ins,box,bx0,List.cons_append,List.nil_append,List.all_cons,List.all_nil,Bool.and_true,zMQ,zMi]
   simp only[rm,dt];grind
  ·have e1:det ((-1,0,0,()),-a,()) ((0,-1,0,()),-b,()) ((0,0,-1,()),-c,()) = -1:=by simp[det,cr,dt]
   have e2:num ((-1,0,0,()),-a,()) ((0,-1,0,()),-b,()) ((0,0,-1,()),-c,())=(-a, -b, -c,()):=by simp[num,cr,sc,ad]
   simp_all [mt,mkP,km]
 have k1:(d,e,f,1,())∈crn (box a b c d e f++bx0):=by
  rw[Ji];refine⟨?_,(((1,0,0,()),d,()),((0,1,0,()),e,()),((0,0,1,()),f,())),by simp[box,tri,prs],?_⟩
  ·simp only[ins,box,bx0,List.cons_append,List.nil_append,List.all_cons,List.all_nil,Bool.and_true,zMQ,zMi]
   simp only[rm,dt];grind
  ·have e1:det ((1,0,0,()),d,()) ((0,1,0,()),e,()) ((0,0,1,()),f,())=1:=by simp[det,cr,dt]
   have e2:num ((1,0,0,()),d,()) ((0,1,0,()),e,()) ((0,0,1,()),f,())=(d,e,f,()):=by simp[num,cr,sc,ad]
   simp_all [mt,mkP,km]
 unfold full;rw[zMv];intro p hp;rw[List.any_eq_true];unfold box bx0 at hp;simp only[List.cons_append,List.nil_append,zMU,List.not_mem_nil,or_false]at hp;rcases hp with rfl|rfl|rfl|rfl|rfl|rfl|rfl|rfl|rfl|rfl|rfl|rfl
 case inl|inr.inr.inl|inr.inr.inr.inr.inl=>exact⟨_,k0,by rw[zMi];grind [rm,dt]⟩
 case inr.inl|inr.inr.inr.inl|inr.inr.inr.inr.inr.inl=>exact⟨_,k1,by rw[zMi];grind [rm,dt]⟩
 all_goals exact⟨_,k0,by rw[zMi];grind [rm,dt]⟩
structure Pws(C:List Cell):Prop where
 f:∀c∈C,ful c=true
 s:∀(i k:Nat) (c d:Cell),i≠k->C[i]?=some c->C[k]?=some d->Sep c d
theorem Pws.nil:Pws []:=⟨fun _ h=>(nomatch h),fun i k c d _ h=>by simp at h⟩
theorem Pws.snoc{C:List Cell}{c:Cell}(h:Pws C)(hc:ful c=true)(hs:∀d∈C,Sep d c):Pws (C++[c]):=by
 refine⟨fun d hd=>?_,fun i k x y eW hx hy=>?_⟩
 ·rcases zMZ.1 hd with hd|hd
  ·exact h.f d hd
  grind
 ·rw[List.getElem?_append]at hx hy
  split at hx
  ·split at hy
   ·exact h.s i k x y eW hx hy
   grind
  ·have hk:i=C.length/\x=c:=by
    grind
   obtain⟨hi,rfl⟩:=hk;split at hy
   ·exact(hs y (zMV hy)).symm
   grind
theorem Pws.part{C:List Cell}{k:Nat}{c a b:Cell}(h:Pws C)(hk:C[k]?=some c)(ha:∀p∈c,p∈a)(hb:∀p∈c,p∈b)(fa:ful a=true)(fb:ful b=true)(hs:Sep a b):Pws (C.set k a++[b]):=by
 have bT:Pws (C.set k a):=by
  refine⟨fun d hd=>?_,fun i m x y eY hx hy=>?_⟩
  ·obtain⟨i,hi⟩:=List.mem_iff_getElem?.1 hd
   rw[List.getElem?_set]at hi;split at hi
   ·grind
   ·exact h.f d (zMV hi)
  ·rw[List.getElem?_set]at hx hy
   by_cases h1:k=i
   ·subst h1
    rw[zMq rfl]at hx;rw[zMr eY]at hy;split at hx
    ·cases hx;exact(h.s k m c y eY hk hy).more ha fun _ hp=>hp
    ·cases hx
   ·rw[zMr h1]at hx
    by_cases h2:k=m
    ·subst h2
     rw[zMq rfl]at hy;split at hy
     ·cases hy;exact(h.s i k x c eY hx hk).more (fun _ hp=>hp) ha
     ·cases hy
    ·rw[zMr h2]at hy;exact h.s i m x y eY hx hy
 refine bT.snoc fb fun d hd=>?_
 obtain⟨i,hi⟩:=List.mem_iff_getElem?.1 hd;rw[List.getElem?_set]at hi;split at hi
 ·grind
 ·rename_i fE
  exact(h.s i k d c (fun e=>fE e.symm) hi hk).more (fun _ hp=>hp) hb
theorem Pws.all{C:List Cell}(h:Pws C):KP [] C=true:=by
 have key:∀(l seen:List Cell),seen++l=C->KP seen l=true:=by
  intro l
  induction l with
  |nil=>intro seen _;rfl
  |cons c l ih =>
   intro seen hC;have hc:C[seen.length]?=some c:=by grind
   unfold KP;rw[h.f c (zMV hc),ih (seen++[c]) (by grind)]
   have:sap c seen=true:=by
    unfold sap;rw[zMv];intro d hd;obtain⟨i,hi⟩:=List.mem_iff_getElem?.1 hd;have gF:=zL hi
    exact zAH (h.s seen.length i c d (by omega) hc (by grind))
   grind
 grind
theorem DOk.up{k n:Int}{d:Drw}(h:DOk k d)(hk:k<=n):DOk n d:=⟨h.1,by have:=h.2;omega⟩
theorem j9.set{b n:Nat}{C:List Cell}{c:Cell}(h:j9 b n C)(hc:c≠[]/\c.length<=b)(i:Int):j9 b n (gz C i c):=by
 unfold gz;refine⟨by rw[List.length_set];exact h.1,fun d hd=>?_⟩
 rcases List.mem_or_eq_of_mem_set hd with hd|hd
 ·exact h.2 d hd
 grind
theorem Qb{b:Int}(h : -1000<=b/\b<=1000):(vM ((0,1,1,()),b,())).val=some (((0, -1, -1,()), -b,()),()):=by
 unfold vM;have hs:(Z7 (0,0,0,()) (0,1,1,())).val=some ((0, -1, -1,()),()):=YI (n:=5) (by kernel_rfl)
 grind [zA,Comp.zB,JZ]
def Lft(X:Int)(C:List Cell):Prop:=∀c∈C,∃B,((1,0,0,()),B,())∈c/\B<=X
theorem N3(x0:List (List Int)):Ok (jx x0) fun r=>ZL r.1/\ckP r.1=0:=by
 unfold jx;rw[Ok.bind];refine(Ok.loop (fun s:Int×List (List Int)=>0<=s.1/\s.1<=2/\s.2.length=2) (fun s=>(2-s.1).toNat) (P:=fun r=>r.length=2) ?_ ?_).mono fun L hL=>?_
 ·grind
 ·rintro⟨i,L⟩ ⟨h1,h2,h3⟩
  dsimp only at h1 h2 h3 |-;split
  ·rename_i hc
   obtain⟨c1,c2⟩:=Cu hc;rw[zj]at c1 c2;rw[zR]at c1;grind [XC,Ok.zK,ga,Ok.pure,gz]
  grind [Ok.pure]
 refine XC (by decide) (by omega) fun l0 _=>?_
 refine yg (d0 l0) (by decide) (by decide) fun d1 v1 e1 g1 g1'=>?_
 refine jN (fun x=>DOk 2 x.2) (fun j hj=>?_) fun x hx=>?_
 ·grind [yg]
 dsimp only;refine yg hx (by decide) (by decide) fun d2 v2 e2 g2 g2'=>?_
 refine yg e2 (by decide) (by decide) fun d3 v3 e3 g3 g3'=>?_
 dsimp only at e3 |-;have hg1:v1<3:=g1'
 have iR:v2<3:=g2';have hg3:v3<3:=g3'
 rw[Ok.bind];refine(Ok.loop (fun s:Int×Int×Part×Drw=>(Pws s.2.2.1.2.1/\Lft s.1 s.2.2.1.2.1 /\ -6<=s.1/\s.1 <= -4+4 * s.2.1)/\0<=s.2.1/\s.2.1<=2+v1/\j9 6 (2 * s.2.1).toNat s.2.2.1.2.1/\s.2.1<=s.2.2.1.2.1.length/\s.2.2.1.2.2.1=[]/\DOk (4+s.2.1) s.2.2.2) (fun s=>(2+v1-s.2.1).toNat)
  (P:=fun r=>Pws r.1.2.1/\j9 6 8 r.1.2.1/\2<=r.1.2.1.length/\r.1.2.2.1=[]/\DOk 8 r.2) ?_ ?_).mono fun R hR=>?_
 ·refine⟨⟨Pws.nil,fun _ h=>(nomatch h),by grind,by grind⟩,by grind,by grind,⟨Nat.zero_le _,fun _ h=>by cases h⟩,by grind,rfl,e3.up (by grind)⟩
 ·rintro⟨X,i,⟨nm,C,w,u⟩,d⟩ ⟨⟨w1,w2,w3,w4⟩,h1,h2,h3,h4,h5,h6⟩
  dsimp only at w1 w2 w3 w4 h1 h2 h3 h4 h5 h6 |-;rw[ku (m:=2) (n:=v1) (by omega)]
  split
  ·rename_i hc
   rw[zj]at hc;refine yg h6 (by decide) (by omega) fun d4 v4 e4 g4 g4'=>?_
   dsimp only;have hg4:v4<4:=g4'
   rw[ku (m:=1) (n:=v4) (by omega),ku (m:=X) (by omega),ku (m:=2) (n:=v3) (by omega),Ok.zK (Hm (by omega))]
   have hl:=h3.1;have fb:∀y y',(-20<=y/\y<y')/\y'<=20->ful (box X y 0 (X+(1+v4)) y' (2+v3))=true:=fun y y' h=>zAA (by omega) h (by omega)
   have sb:∀y y',∀d∈C,Sep d (box X y 0 (X+(1+v4)) y' (2+v3)):=fun y y' d hd=>by
    obtain⟨B,b1,b2⟩:=w2 d hd;exact⟨_,b1,((-1,0,0,()), -X,()),by simp[box],by simp,by grind⟩
   have lb:∀ {D:List Cell} y y',Lft (X+(1+v4)) D->Lft (X+(1+v4)) (D++[box X y 0 (X+(1+v4)) y' (2+v3)]):=fun y y' hD d hd=>by
    rcases zMZ.1 hd with hd|hd
    ·exact hD d hd
    simp_all [box]
   have l0:Lft (X+(1+v4)) C:=fun d hd=>by
    obtain⟨B,b1,b2⟩:=w2 d hd;grind
   have w5:=w1.snoc (fb 0 3 (by omega)) (sb 0 3)
   refine vq (by grind) ?_
   refine jN (fun y=>(Pws y.2.1/\Lft (X+(1+v4)) y.2.1)/\j9 6 (2 * (i+1)).toNat y.2.1/\i+1<=y.2.1.length/\y.2.2.1=[]) (fun j hj=>?_) fun y hy=>?_
   ·dsimp only
    have s1:j9 6 ((2 * i).toNat+1) (C++[box X 0 0 (X+(1+v4)) 3 (2+v3)]):=h3.snoc (RV rfl);split
    ·rw[Ok.zK (Hm (by omega))]
     refine vq (by simp;omega) ?_
     refine hj _ ⟨⟨w5.snoc (fb 3 6 (by omega)) fun d hd=>?_,lb 3 6 (lb 0 3 l0)⟩,(s1.snoc (RV rfl)).mono (by omega),?_,h5⟩
     ·rcases zMZ.1 hd with hd|hd
      ·grind
      ·rw[List.mem_singleton.1 hd]
       exact⟨((0,1,0,()),3,()),by simp[box],((0, -1,0,()), -3,()),by simp[box],by simp,by decide⟩
     grind
    ·refine hj _ ⟨⟨w5,lb 0 3 l0⟩,s1.mono (by omega),?_,h5⟩
     grind
   ·rw[Ok.pure]
    dsimp only;rw[ku (m:=i) (n:=1) (by omega)]
    obtain⟨⟨y1,y2⟩,y3⟩:=hy;exact⟨⟨⟨y1,y2,by omega,by omega⟩,by omega,by omega,y3.1,y3.2.1,y3.2.2,e4.up (by omega)⟩,by omega⟩
  ·rename_i hc
   rw[zj]at hc;rw[Ok.pure];exact⟨w1,h3.mono (by omega),by grind,h5,h6.up (by omega)⟩
 obtain⟨q0,q1,q2,q3,q4⟩:=hR;obtain⟨⟨nm,C,w,u⟩,d⟩:=R;dsimp only at q0 q1 q2 q3 q4 |-;refine jN (fun x=>DOk 9 x.2) (fun j hj=>?_) fun x hx=>?_
 ·grind [yg]
 skip
 refine jN (fun y=>Pws y.2.1/\tI 9 y.2.1/\2<=y.2.1.length/\y.2.2.1=[]) (fun j hj=>?_) fun y hy=>?_
 ·skip
  have k0:∀nm u,(fun y:Part=>Pws y.2.1/\tI 9 y.2.1/\2<=y.2.1.length/\y.2.2.1=[]) (nm,C,w,u):=fun _ _=>⟨q0,(q1.wide (by decide)).mono (by omega),q2,q3⟩
  split
  ·have hl:=q1.1
   refine yg hx (by grind) (by decide) fun d4 v4 e4 g4 g4'=>?_
   refine yg e4 (by decide) (by decide) fun d5 v5 e5 g5 g5'=>?_
   rw[zR]at g4';dsimp only;obtain⟨c,oJ⟩:=zO (xs:=C) (k:=v4.toNat) (by omega)
   obtain⟨m1,m2⟩:=q1.2 c (zMV oJ);rw[Ok.bind,Ok.idx g4 oJ];refine vq (by grind) ?_
   refine vq (by grind) ?_
   rw[Ok.bind,Ok.idx g4 oJ];refine vq (by grind) ?_
   have hg5:v5<4:=g5';rw[ku (by omega),Ok.zK (Qb (by omega))]
   refine vq (by grind) ?_
   rw[Ok.zK (YS _),Ok.bind];dsimp only;have hg:Ok (Comp.gd (ful (([]++c)++[((0,1,1,()),2+v5,())])) (z7 (([]++c)++[((0, -1, -1,()), -(2+v5),())])) (false,())) fun b=>sel (ful (([]++c)++[((0,1,1,()),2+v5,())])) b.1 false=true->ful (c++[((0,1,1,()),2+v5,())])=true/\ful (c++[((0, -1, -1,()), -(2+v5),())])=true:=by
    grind [Ok.kD,Ok.yN,YS]
   refine hg.mono fun b hb=>?_
   refine jN (fun y=>Pws y.2.1/\tI 9 y.2.1/\2<=y.2.1.length/\y.2.2.1=[]) (fun j' hj'=>?_) fun y hy=>hj _ hy
   split
   ·rename_i hs
    obtain⟨f1,f2⟩:=hb hs;rw[Ok.zK (ga ⟨g4,g4'⟩)];have t3:∀z:Cell,(gz C v4 z).length=C.length:=fun z=>by unfold gz;grind
    refine vq (by grind) ?_
    refine hj' _ ⟨?_,((q1.wide (by decide)).set (by grind) v4).snoc (by grind),?_,q3⟩
    ·dsimp only
     rw[List.nil_append];exact q0.part oJ (fun p hp=>by grind) (fun p hp=>by grind) f1 f2 ⟨((0,1,1,()),2+v5,()),by simp,((0, -1, -1,()), -(2+v5),()),by simp,by simp,by grind⟩
    grind
   ·exact hj' _ ⟨q0,(q1.wide (by decide)).mono (by omega),q2,q3⟩
  simp_all
 skip
 refine XC (by decide) (by omega) fun l1 _=>?_
 obtain⟨nm2,C2,w2,u2⟩:=y;obtain⟨y0,y1,y2,y3⟩:=hy;dsimp only at y0 y1 y2 y3 |-;subst y3;rw[Ok.bind];refine(Ok.loop (fun s:Int×Part×Drw=>0<=s.1/\s.1<=C2.length/\s.2.1.2.1=C2/\(s.2.1.2.2.1.length:Int)=s.1/\s.2.1.2.2.1.any kZ=false/\DOk s.1 s.2.2) (fun s=>(C2.length-s.1).toNat)
  (P:=fun r=>ZL r/\ckP r=0) ?_ ?_).mono fun R hR=>?_
 ·exact⟨by omega,by omega,rfl,rfl,rfl,d0 l1⟩
 ·rintro⟨i,⟨nm3,C3,w3,u3⟩,d⟩ ⟨h1,h2,h3,h4,h0,h5⟩
  dsimp only at h1 h2 h3 h4 h0 h5 |-;subst h3;have hl:=y1.1
  split
  ·rename_i hc
   rw[zj,zR]at hc;refine yg h5 (by decide) (by omega) fun d4 v4 e4 g4 g4'=>?_
   dsimp only;refine XC g4 g4' fun z hz=>?_
   refine vq (by grind) ?_
   rw[Ok.pure];dsimp only;rw[ku (m:=i) (n:=1) (by omega)]
   refine⟨⟨by omega,by omega,rfl,by grind,?_,e4⟩,by omega⟩
   rw[List.any_append,h0];simp only[zMU,List.not_mem_nil,or_false]at hz;rcases hz with rfl|rfl|rfl|rfl<;>decide
  ·rename_i hc
   rw[zj,zR]at hc;rw[Ok.pure];refine⟨⟨y1.mono (by omega),fun e=>?_,by grind⟩,?_⟩
   ·grind
   ·unfold ckP
    dsimp only;rw[zMr (by omega),zMr (by grind),y0.all];rfl
 grind [Ok.pure]
theorem WR{p:Part}(hp:ZL p):Ok (jL p) fun r=>r.1=(List.replicate p.2.1.length false,List.replicate p.2.1.length false,[],()):=by
 unfold jL;have h1:=hp.1.1
 grind [GQ,Ok.bind,Ok.mk,Ok.pure]
theorem Ck:∀ {l seen:List Cell},KP seen l=true->∀c∈l,ful c=true
 | [],_,_,c,hc=>by cases hc
 |d::l,seen,h,c,hc=>by
  unfold KP at h;simp only[zMQ]at h;rcases zMU.1 hc with e|e
  ·grind
  ·exact Ck h.2.2 c e
theorem W4{p:Part}(h:ckP p=0):(1<=p.2.1.length/\p.2.1.length<=16)/\(p.2.2.1.length=p.2.1.length/\p.2.2.1.any kZ=false)/\KP [] p.2.1=true:=by
 unfold ckP at h;grind
structure PcV(p:Part)(x:zu):Prop where
 c:ckP p=0
 f:ZS p x=true
 s:∀i,i<p.2.1.length->x.1.getD i false=false->(cov (nr x.2.2.1 (cl p i)) (cl p i)).1=false
theorem Sf{p:Part}{i:Nat}(h:i<p.2.1.length):cl p i∈p.2.1:=by
 grind [cl]
theorem PcV.new{p:Part}(h:ckP p=0):PcV p (List.replicate p.2.1.length false,List.replicate p.2.1.length false,[],()):=by
 refine⟨h,by simp[ZS,jD],fun i hi _=>?_⟩
 have hf:=Ck (W4 h).2.2 _ (Sf hi);have hf2:=hf
 unfold ful at hf2;simp only[zMQ,zMi]at hf2;show (cov [] (cl p i)).1=false
 unfold cov mns;rw[zMq hf2.1,zMq (by decide),zMq hf];rfl
theorem CI{p:Part}{x:zu}(h:ZS p x=true):x.1.length=p.2.1.length/\x.2.1.length=p.2.1.length/\x.2.2.1.length<=24/\jD x.2.2.1=0:=by
 simp_all [ZS]
theorem AW{p:Part}{x:zu}{C T:List Cell}(h:(apl p x C T).2=0):PcV p (apl p x C T).1/\(fit p x=0/\jD (C++T)=0)/\(apl p x C T).1=(apS (x.2.2.1++C) p.2.1 x.1,apT C T p.2.1 x.2.1,x.2.2.1++C,()):=by
 unfold apl at h |-;split at h
 ·rename_i hf
  obtain⟨k1,k2,f1,f2,f3,f4,f5,f6⟩:=Xs hf;split at h
  ·rename_i hfs
   split at h
   ·cases h
   ·rename_i hm
    split at h
    ·rename_i he
     rw[zMq hf,zMq hfs,zMr hm,zMq he];refine⟨⟨k1,?_,fun i hi hs=>?_⟩,⟨hf,hfs⟩,rfl⟩
     ·have e1:(apS (x.2.2.1++C) p.2.1 x.1).length=p.2.1.length:=by grind [apS]
      have e2:(apT C T p.2.1 x.2.1).length=p.2.1.length:=by grind [apT]
      have e3:jD (x.2.2.1++C)=0:=by
       rw[Kc,zMq f4];grind [Kc]
      simp_all [ZS]
     grind [apS,sur,cl]
    omega
  omega
 omega
def mA(x:Eff):Prop:=x.1.length<=50/\x.2.1.length<=50/\x.2.2.2.1.length<=50
theorem rH{xs:List β}{l h:Int}{f:List β->Comp α}{P:α->Prop}(hr:0<=l/\l<=h/\h<=xs.length)(k:∀ys,ys.length=(h-l).toNat->Ok (f ys) P):Ok ((sub xs l h).bind f) P:=by
 grind [Ok.bind,Ok.sub]
theorem lY{x0:List (List Int)}{p:Part}{f:List Cell×Unit->Comp α}{P:α->Prop}(hp:ZL p)(k:∀C:List Cell,C.length<=4->Ok (f (C,())) P):Ok ((vK x0 p).bind f) P:=by
 rw[Ok.bind];exact(Wt hp).mono fun r hr=>k r.1 hr
theorem YP(m n:Int):H0 m n=min m n:=rfl
theorem Ml{p:Part}{x1:List Int}{x2:Int}(hp:ZL p):Ok (vF p x1 x2) fun r=>mA r.1:=by
 unfold vF;have hl:=hp.1.1
 refine yg (d0 x1) (by decide) (by decide) fun d1 v1 e1 g1 g1'=>?_
 refine jN (fun x=>DOk 2 x.2) (fun j hj=>?_) fun x hx=>?_
 ·dsimp only
  split
  ·grind [yg]
  ·exact hj _ (e1.up (by decide))
 refine jN (fun x:Eff=>x.1=[]/\x.2.1=[]/\x.2.2.2.1.length<=50) (fun j hj=>?_) fun y hy=>?_
 ·grind
 refine yg hx (by decide) (by decide) fun d2 v2 e2 g2 g2'=>?_
 rw[Ok.bind];refine(Ok.loop (fun s:Int×Eff×Drw=>0<=s.1/\s.1<=p.2.1.length/\(s.2.1.1.length<=s.1/\s.2.1.2.1=[]/\s.2.1.2.2.2.1.length<=50)/\DOk (4+2 * s.1) s.2.2) (fun s=>(p.2.1.length-s.1).toNat)
  (P:=fun r:Eff=>r.1.length<=12/\r.2.1=[]/\r.2.2.2.1.length<=50) ?_ ?_).mono fun R hR=>?_
 ·exact⟨by omega,by omega,⟨by grind,hy.2.1,hy.2.2⟩,e2.up (by omega)⟩
 ·rintro⟨i,⟨cu,to,co,ne,u⟩,d⟩ ⟨h1,h2,⟨h3,h4,h5⟩,h6⟩
  dsimp only at h1 h2 h3 h4 h5 h6 |-;split
  ·rename_i hc
   rw[zj,zR]at hc;refine yg h6 (by decide) (by omega) fun d4 v4 e4 g4 g4'=>?_
   dsimp only;refine XC h1 (by rw[hp.2.2];exact hc) fun z _=>?_
   refine jN (fun x=>DOk (4+2 * (i+1)) x.2) (fun j hj=>?_) fun x hx=>?_
   ·skip
    split
    ·refine jN (fun x=>DOk (4+2 * (i+1)) x.2) (fun j' hj'=>?_) fun x hx=>hj _ hx
     skip
     split
     ·grind [yg]
     ·exact hj' _ (e4.up (by omega))
    ·exact hj _ (e4.up (by omega))
   ·refine jN (fun x:Eff=>x.1.length<=i+1/\x.2.1=[]/\x.2.2.2.1.length<=50) (fun j hj=>?_) fun y hy=>?_
    ·skip
     split
     ·refine XC h1 hc fun c hcc=>?_
      obtain⟨m1,m2⟩:=hp.1.2 c hcc;grind [vq]
     grind
    grind [Ok.pure]
  grind [Ok.pure]
 refine jN (fun x:Eff=>x.1.length<=50/\x.2.1.length<=50/\x.2.2.2.1.length<=50) (fun j hj=>?_) fun y hy=>?_
 ·dsimp only
  split
  ·refine rH ⟨by grind [YP],by grind [YP],by grind⟩ fun ys sS=>?_
   refine lY hp fun C hC=>?_
   have oG:=hR.1;refine vq (by grind) ?_
   grind
  grind
 refine jN (fun x:Eff=>x.1.length<=50/\x.2.1.length<=50/\x.2.2.2.1.length<=50) (fun j hj=>?_) fun y hy=>?_
 ·grind [rH,YP,lY]
 rw[Ok.pure];exact hy
theorem p9{p:Part}{x1:List Int}{x2:Int}{f:Eff×Unit->Comp α}{P:α->Prop}(hp:ZL p)(k:∀e:Eff,mA e->Ok (f (e,())) P):Ok ((vF p x1 x2).bind f) P:=by
 rw[Ok.bind];exact(Ml hp).mono fun r hr=>k r.1 hr
structure JobOk(j:Job):Prop where
 p:ZL j.1
 e:∀x∈j.2.2.1,mA x
 n:j.2.2.1.length<=8
 v:PcV j.1 j.2.1
theorem mA.sm{x:Eff}(h:mA x):SmE x:=⟨zMX h.1 (by decide),zMX h.2.1 (by decide),zMX h.2.2 (by decide)⟩
theorem ZL.w{p:Part}(h:ZL p):p.2.2.1.length<9223372036854775807:=by rw[h.2.2];have:=h.1.1;omega
theorem Mv{j:Job}{P:Int×Unit->Prop}(hj:JobOk j)(k:P (ckJ j,())):Ok (gO j) P:=(Ok.yN (uP hj.p.w fun x hx=>(hj.e x hx).sm)).2 k
theorem Wc(x0:List (List Int)):Ok (jw x0) fun r=>JobOk r.1/\1<=r.1.2.2.1.length:=by
 unfold jw;refine rH ⟨by decide,by grind [YP],by grind [YP]⟩ fun x hx=>?_
 rw[Ok.bind];refine(N3 x).mono ?_;rintro⟨p,u⟩ ⟨hp,lV⟩;rw[Ok.bind];refine(WR hp).mono ?_;rintro⟨pc,u'⟩ hpc;dsimp only at hp lV hpc |-;subst hpc;have n8:=And.intro hp (PcV.new lV)
 refine jN (fun y:Job=>(ZL y.1/\PcV y.1 y.2.1)/\y.2.2.1=[]) (fun j hj=>?_) fun y hy=>?_
 ·skip
  split
  ·rename_i hc
   rw[J8,zR]at hc;refine XC (by decide) (by omega) fun d hd=>?_
   refine yg (d0 d) (by decide) (by decide) fun d1 v1 e1 g1 g1'=>?_
   refine jN (fun y:Job=>(ZL y.1/\PcV y.1 y.2.1)/\y.2.2.1=[]) (fun j' hj'=>?_) fun y hy=>hj _ hy
   dsimp only;split
   ·obtain⟨d2,hd2⟩:=zO (xs:=x0) (k:=2) (by omega)
    rw[Ok.bind,Ok.idx (by decide) hd2,Ok.bind,Ok.idx (by decide) hd2]
    refine rH ⟨by grind [YP],by grind [YP],by grind⟩ fun ys sS=>?_
    refine lY hp fun C hC=>?_
    rw[Ok.zK (Dm hp.w (by grind) (by decide))]
    refine jN (fun y:Job=>(ZL y.1/\PcV y.1 y.2.1)/\y.2.2.1=[]) (fun j'' hj''=>?_) fun y hy=>hj' _ hy
    split
    ·rename_i he
     exact hj'' _ ⟨⟨hp,(AW (by grind)).1⟩,rfl⟩
    grind
   grind
  grind
 rw[Ok.bind];refine(Ok.loop (fun s:Int×Job=>3<=s.1/\s.1<=7/\(ZL s.2.1/\PcV s.2.1 s.2.2.1)/\(∀x∈s.2.2.2.1,mA x)/\(s.2.2.2.1.length:Int)=s.1-3) (fun s=>(7-s.1).toNat)
  (P:=fun r:Job=>JobOk r/\r.2.2.1.length<=4) ?_ ?_).mono fun R hR=>?_
 ·grind
 ·rintro⟨i,p',pc',es,u''⟩ ⟨h1,h2,h3,h4,h5⟩
  dsimp only at h1 h2 h3 h4 h5 |-;split
  ·rename_i hc
   obtain⟨c1,c2⟩:=Cu hc;rw[zj]at c1 c2;rw[zR]at c1;refine XC (by omega) c1 fun d hd=>?_
   refine p9 hp fun e he=>?_
   grind [vq,Ok.pure]
  ·rw[Ok.pure]
   exact⟨⟨h3.1,h4,by grind,h3.2⟩,by grind⟩
 refine jN (fun y:Job=>JobOk y/\1<=y.2.2.1.length) (fun j hj=>?_) fun y hy=>?_
 ·skip
  split
  ·refine p9 hp fun e he=>?_
   have:=hR.2;refine vq (by grind) ?_
   refine hj _ ⟨⟨hR.1.p,fun x hx=>?_,?_,hR.1.v⟩,?_⟩
   ·grind
   ·grind
   grind
  grind
 rw[Ok.bind];refine(Ok.loop (fun s:Job=>JobOk s/\1<=s.2.2.1.length) (fun s=>s.2.2.1.length)
  (P:=fun r:Job=>JobOk r/\1<=r.2.2.1.length) hy ?_).mono fun R hR=>?_
 ·rintro⟨p',pc',es,u''⟩ ⟨hs,aQ⟩
  have hn:=hs.n;dsimp only at hs aQ hn |-;rw[Ok.bind];have fin:∀x7:Int×Unit,Ok (if sel (gtI (zD es) 1) (eqI x7.1 2) false=true then jn (fun x:Job=>Comp.pure (Comp.Step.next (x.1,x.2.1,x.2.2.1,()))) fun j=>(sub es 0 (gZ .i64 (zD es) 1)).bind fun ys=>j (p',pc',ys,()) else Comp.pure (Comp.Step.done (p',pc',es,())))
    (fun t:Comp.Step Job Job=>match t with|.next s'=>(JobOk s'/\1<=s'.2.2.1.length)/\s'.2.2.1.length<es.length|.done r=>JobOk r/\1<=r.2.2.1.length):=by
   intro x7;split
   ·rename_i hc
    obtain⟨c1,c2⟩:=Cu hc;rw[J8,zR]at c1;rw[zR,JW (by omega)]
    refine jN (fun y:Job=>(JobOk y/\1<=y.2.2.1.length)/\y.2.2.1.length<es.length) (fun j hj=>?_) fun y hy=>?_
    ·show Ok ((sub es 0 ((es.length:Int)-1)).bind fun ys=>j (p',pc',ys,())) _
     rw[Ok.bind,Ok.sub (by omega)]
     refine hj _ ⟨⟨⟨hs.p,fun x hx=>hs.e x (List.mem_of_mem_take (List.mem_of_mem_drop hx)),?_,hs.v⟩,?_⟩,?_⟩
     ·grind
     ·grind
     grind
    grind [Ok.pure]
   grind [Ok.pure]
  refine Ok.kD (fun _=>Mv ⟨hs.p,hs.e,hs.n,hs.v⟩ ?_) (fun _=>?_)
  ·refine(fin _).mono fun t ht=>?_
   grind
  ·refine(fin _).mono fun t ht=>?_
   grind
 grind [Ok.pure]
theorem JobOk.sm{j:Job}(h:JobOk j):SmJ j:=⟨h.p.w,fun x hx=>(h.e x hx).sm,zMX h.n (by decide)⟩
theorem Sb{n:Nat}:∀ {L:List Eff} {k:Nat},efs n L k=0->∀x∈L,1<=x.2.2.1/\x.2.2.1<=1048576
 | [],_,_,x,hx=>by cases hx
 |y::L,k,h,x,hx=>by
  unfold efs at h;split at h
  ·rename_i h1
   rcases zMU.1 hx with e|e
   ·grind [eE]
   ·exact Sb h x e
  omega
theorem Qu{j:Job}(h:ckJ j=0):∀x∈j.2.2.1,1<=x.2.2.1/\x.2.2.1<=1048576:=by
 unfold ckJ at h;split at h
 ·split at h
  ·cases h
  ·split at h
   ·rename_i h1;exact Sb h1
   omega
 omega
def z8:List Bool:=[false,false,false,false,false,false,false,false]
def B8(s:List Bool)(k:Nat):Bool:=s.getD k false
def m8(g:Nat->Bool):List Bool:=(List.range 8).map g
theorem jA(g:Nat->Bool):(m8 g).length=8:=by simp[m8]
theorem zEl{g:Nat->Bool}{k:Nat}(h:k<8):(m8 g)[k]?=some (g k):=by simp[m8,h]
theorem JH{g:Nat->Bool}{k:Nat}(h:k<8):B8 (m8 g) k=g k:=by grind [B8,zEl]
theorem XF{s:List Bool}(hs:s.length=8){k:Nat}(h:k<8):s[k]?=some (B8 s k):=by
 grind [B8]
theorem XI{s:List Bool}(hs:s.length=8){k:Nat}(h:8<=k):B8 s k=false:=by
 grind [B8]
theorem Uz{s t:List Bool}(hs:s.length=8)(ht:t.length=8)(h:∀k,k<8->B8 s k=B8 t k):s=t:=by
 refine List.ext_getElem? fun k=>?_
 grind [XF]
theorem Yn{s:List Bool}(hs:s.length=8){i:Nat}(hi:i<8)(v:Bool)(k:Nat):B8 (s.set i v) k=if k=i then v else B8 s k:=by
 unfold B8;grind
theorem E5{g:Nat->Bool}{i:Nat}(hi:i<8):(m8 fun k=>decide (k<i) && g k).set i (g i)=m8 fun k=>decide (k<i+1) && g k:=by
 refine Uz (by simp[jA]) (jA _) fun k hk=>?_
 rw[Yn (jA _) hi,JH hk,JH hk];grind
theorem Ss{g:Nat->Bool}:z8=m8 fun k=>decide (k<0) && g k:=rfl
theorem ZF(xs:List α)(k:Nat)(v:α):gz xs (k:Int) v=xs.set k v:=rfl
theorem lF{xs ys:List Bool}:(eqA (fun a b=>eqB a b) xs ys=true)↔xs=ys:=by
 induction xs generalizing ys with
 |nil=>grind [eqA]
 |cons x xs ih =>
  cases ys with
  |nil=>simp[eqA]
  |cons y ys =>
   grind [eqA,eqB]
def sl(s:List Bool):List Nat:=(List.range 8).filter (B8 s)
def slI(s:List Bool):List Int:=(sl s).map fun k:Nat=>(k:Int)
theorem Zp{s:List Bool}{k:Nat}:k∈sl s↔k<8/\B8 s k=true:=by simp[sl]
theorem Ei(s:List Bool):(sl s).length<=8:=by
 grind [sl]
theorem Ks(s:List Bool):(slI s).length<=8:=by grind [slI,Ei]
theorem JA{s:List Bool}(hs:s.length=8):(vw s).val=some (slI s,()):=by
 unfold vw;refine Ok.val ?_;rw[Ok.bind];refine(Ok.count 8 (fun i (x:List Int×Int)=>x.2=(i:Int)/\x.1=((List.range i).filter (B8 s)).map fun k:Nat=>(k:Int)) (P:=fun r=>r=slI s) ⟨rfl,rfl⟩ ?_ ?_).mono fun r hr=>by rw[Ok.pure,hr]
 ·rintro i ⟨l,n⟩ hi ⟨h1,h2⟩
  dsimp only at h1 h2;subst h1 h2;have fH:=List.length_filter_le (B8 s) (List.range i)
  rw[List.length_range]at fH;rw[zMq (by grind),Ok.bind,Ok.XA (XF hs hi)]
  refine jN (fun y=>y=((List.range (i+1)).filter (B8 s)).map fun k:Nat=>(k:Int)) (fun j hj=>?_) fun y hy=>?_
  ·grind [vq,List.range_succ]
  grind [Ok.pure]
 ·rintro⟨l,n⟩ ⟨h1,h2⟩
  dsimp only at h1 h2;subst h1 h2;rw[zMr (by grind),Ok.pure]
  rfl
def cst(L:List Eff)(l:List Nat):Int:=(l.map fun k:Nat=>(opn L (k:Int)).2.2.1).sum
theorem Ww(L:List Eff)(l m:List Nat):cst L (l++m)=cst L l+cst L m:=by simp[cst]
theorem GG{L:List Eff}{m:Int}:∀ {l:List Nat},(∀k∈l,1<=(opn L (k:Int)).2.2.1/\(opn L (k:Int)).2.2.1<=m)->0<=cst L l/\cst L l<=l.length * m
 | [],_=>by simp[cst]
 |k::l,h=>by
  have h1:=GG (l:=l) fun j hj=>h j (by grind)
  have h2:=h k (by simp)
  have:cst L (k::l)=(opn L (k:Int)).2.2.1+cst L l:=by simp[cst]
  rw[this,zMY];grind
def zIy(L:List Eff):Prop:=∀k:Nat,k<L.length->1<=(opn L (k:Int)).2.2.1/\(opn L (k:Int)).2.2.1<=1048576
theorem ql{j:Job}{sp s:List Bool}(hs:s.length=8)(fW:∀k,B8 s k=true->k<j.2.2.1.length)(hc:zIy j.2.2.1):(vX (j,sp,()) s).val=some (cst j.2.2.1 (sl s),()):=by
 unfold vX;refine Ok.val ?_;rw[Ok.zK (JA hs)];dsimp only;rw[Ok.bind];have hln:=Ks s
 refine(Ok.count (slI s).length (fun i (x:Int×Int)=>x.2=(i:Int)/\x.1=cst j.2.2.1 ((sl s).take i)) (P:=fun r=>r=cst j.2.2.1 (sl s)) ⟨rfl,by simp[cst]⟩ ?_ ?_).mono fun r hr=>by rw[Ok.pure,hr]
 ·rintro i ⟨c,n⟩ hi ⟨h1,h2⟩
  dsimp only at h1 h2;subst h1 h2;obtain⟨k,hk⟩:=zO (xs:=sl s) (k:=i) (by grind [slI])
  have xO:(slI s)[i]?=some (k:Int):=by grind [slI]
  have dK:=Zp.1 (zMV hk);have cI:=fW k dK.2
  rw[zMq (by grind),Ok.bind,Ok.XA xO,Ok.bind,Ok.yN (Kt ⟨by omega,by omega⟩),Ok.pure]
  refine⟨zN (by omega),?_⟩
  have ht:(sl s).take (i+1)=(sl s).take i++[k]:=by grind [List.take_add_one]
  have hb:=GG (L:=j.2.2.1) (m:=1048576) (l:=(sl s).take i) fun q hq=>hc q (fW q (Zp.1 (List.mem_of_mem_take hq)).2)
  have gF:((sl s).take i).length<=8:=by grind
  have oI:=hc k cI;rw[ht,Ww];grind [cst]
 simp[zj,zR,Ok.pure,slI]
def rs(n:Nat)(sp out:List Bool):List Bool:=m8 fun k=>decide (k<n) && (!B8 out k && !B8 sp k)
def zBA(L:List Eff):Prop:=∀k:Nat,∀q∈(opn L (k:Int)).2.2.2.1,0<=q/\q<L.length
def XD(L:List Eff)(s:List Bool):Prop:=∀k:Nat,B8 s k=true->∀q∈(opn L (k:Int)).2.2.2.1,B8 s q.toNat=true
def jc(s t:List Bool):Prop:=∀k,B8 s k=true->B8 t k=true
theorem jc.refl(s:List Bool):jc s s:=fun _ h=>h
theorem jc.trans{s t u:List Bool}(h:jc s t)(k:jc t u):jc s u:=fun i hi=>k i (h i hi)
theorem jc.eq{s t:List Bool}(hs:s.length=8)(ht:t.length=8)(h:jc s t)(k:jc t s):s=t:=Uz hs ht fun i _=>by rw[Bool.eq_iff_iff];exact⟨h i,k i⟩
theorem zCJ{s t:List Bool}(h:jc s t):sl s=(sl t).filter (B8 s):=by
 unfold sl;rw[List.filter_filter];refine List.filter_congr fun i _=>?_
 cases hs:B8 s i with
 |true=>rw[h i hs];rfl
 |false=>rfl
theorem Gj{s t:List Bool}(hs:s.length=8)(ht:t.length=8)(h:jc s t)(fE:s≠t):(sl s).length<(sl t).length:=by
 rw[zCJ h,List.length_filter_lt_length_iff_exists];by_cases he:∃x∈sl t,¬B8 s x=true
 ·exact he
 ·refine zMg (jc.eq hs ht h fun k hk=>?_) fE
  grind [Zp,XI]
theorem UF{n:Nat}{sp out:List Bool}{k:Nat}(h:B8 (rs n sp out) k=true):k<n/\B8 out k=false/\B8 sp k=false:=by
 grind [rs,JH,XI,jA]
theorem zGV{n:Nat}{sp out:List Bool}{k:Nat}(hn:n<=8)(h:k<n/\B8 out k=false/\B8 sp k=false):B8 (rs n sp out) k=true:=by
 grind [rs,JH]
structure RestOk(L:List Eff)(sp out s:List Bool):Prop where
 len:s.length=8
 sub:jc s (rs L.length sp out)
 cl:XD L s
 most:∀t,jc t (rs L.length sp out)->XD L t->jc t s
theorem Gw{j:Job}{sp out:List Bool}(aP:sp.length=8)(ho:out.length=8)(hn:j.2.2.1.length<=8)(sC:zBA j.2.2.1)(bM:∀k:Nat,(opn j.2.2.1 (k:Int)).2.2.2.1.length<9223372036854775807):Ok (jl (j,sp,()) out) fun r=>RestOk j.2.2.1 sp out r.1:=by
 unfold jl;dsimp only;rw[Ok.bind];refine(Ok.count j.2.2.1.length (fun i (x:Int×List Bool)=>x.1=(i:Int)/\x.2=m8 fun k=>decide (k<i) && (!B8 out k && !B8 sp k)) (P:=fun r=>r=rs j.2.2.1.length sp out) ⟨rfl,rfl⟩ ?_ ?_).mono fun r hr=>?_
 ·rintro i ⟨n,s⟩ hi ⟨h1,h2⟩
  dsimp only at h1 h2;subst h1 h2;rw[zMq (by grind),Ok.bind,Ok.XA (XF ho (by omega)),Ok.bind]
  have hg:Ok (Comp.gd (ntB (B8 out i)) (idx sp (i:Int)) false) fun b=>sel (ntB (B8 out i)) (ntB b) false=(!B8 out i && !B8 sp i):=by
   cases hb:B8 out i with
   |true=>exact Ok.kD (fun h=>nomatch h) fun _=>rfl
   |false=>exact Ok.kD (fun _=>(Ok.XA (XF aP (by omega))).2 (by cases B8 sp i<;>rfl)) fun h=>nomatch h
  refine hg.mono fun b hb=>?_
  rw[Ok.zK (ga ⟨by omega,by omega⟩),Ok.pure]
  refine⟨zN (by omega),?_⟩
  dsimp only;rw[hb,ZF];exact E5 (g:=fun k=>!B8 out k && !B8 sp k) (by omega)
 ·rintro⟨n,s⟩ ⟨h1,h2⟩
  dsimp only at h1 h2;subst h1 h2;rw[zMr (by grind),Ok.pure];rfl
 ·subst hr
  rw[Ok.bind];have hl:(rs j.2.2.1.length sp out).length=8:=jA _
  have fW:∀k,B8 (rs j.2.2.1.length sp out) k=true->k<j.2.2.1.length:=fun k hk=>(UF hk).1
  generalize hrs:rs j.2.2.1.length sp out=s0 at hl fW;refine(Ok.loop (fun x:List Bool×List Bool=>x.2.length=8/\jc x.2 s0/\(∀t,jc t s0->XD j.2.2.1 t->jc t x.2)/\(x.1=x.2->XD j.2.2.1 x.2)) (fun x=>2 * (sl x.2).length+if x.1=x.2 then 0 else 1) (P:=fun r=>RestOk j.2.2.1 sp out r) ⟨hl,jc.refl _,fun t h _=>h,fun h=>?_⟩ ?_).mono fun r hr=>by grind [Ok.pure]
  ·intro k hk
   have hz:B8 z8 k=true:=by grind [z8]
   exfalso;by_cases h8:k<8
   ·rw[Ss (g:=fun _=>true),JH h8]at hz;grind
   grind
  rintro⟨l,s⟩ ⟨h1,h2,h3,h4⟩;dsimp only at h1 h2 h3 h4;by_cases he:l=s
  ·subst he
   rw[zMr (by rw[yV,lF.2 rfl];simp),Ok.pure]
   exact⟨h1,by grind,h4 rfl,fun t ht hc=>h3 t (by grind) hc⟩
  ·rw[zMq (by grind [lF]),Ok.zK (JA h1)]
   dsimp only;rw[Ok.bind]
   have hB5:Ok (Comp.loop (fun (x_2:Int×List Bool)=>if ltI x_2.1 (zD (slI s))=true then (idx (slI s) x_2.1).bind fun x=>(idx j.2.2.1 x).bind fun x_3=>(zl x_3.2.2.2.1 fun (z:Int×Unit)=>yr z.1 x_2.2).bind fun x_4=>(inb 8 x).bind fun x_5=>.pure (.next (zH .i64 x_2.1 1,gz x_2.2 x (ntB x_4.1))) else .pure (.done x_2.2)) (0,s)) fun r=>r.length=8/\jc r s/\(∀t,jc t s->XD j.2.2.1 t->jc t r)/\∀k,B8 s k=true->B8 r k=true->∀q∈(opn j.2.2.1 (k:Int)).2.2.2.1,B8 s q.toNat=true:=by
    have hln:=Ks s;refine Ok.count (slI s).length (fun i (x:Int×List Bool)=>x.1=(i:Int)/\x.2.length=8/\jc x.2 s/\(∀t,jc t s->XD j.2.2.1 t->jc t x.2)/\∀k,k∈(sl s).take i->B8 x.2 k=true->∀q∈(opn j.2.2.1 (k:Int)).2.2.2.1,B8 s q.toNat=true) ⟨rfl,h1,jc.refl _,fun t h _=>h,fun k hk=>by grind⟩ ?_ ?_
    ·rintro i ⟨n,t⟩ hi ⟨q1,q2,q3,q4,q5⟩
     dsimp only at q1 q2 q3 q4 q5;subst q1;obtain⟨k,hk⟩:=zO (xs:=sl s) (k:=i) (by grind [slI])
     have xO:(slI s)[i]?=some (k:Int):=by grind [slI]
     have dK:=Zp.1 (zMV hk);have cI:=fW k (h2 k dK.2)
     rw[zMq (by grind),Ok.bind,Ok.XA xO,Ok.bind,Ok.yN (Kt ⟨by omega,by omega⟩)]
     have hc:(zl (opn j.2.2.1 (k:Int)).2.2.2.1 fun (z:Int×Unit)=>yr z.1 t).val=some ((opn j.2.2.1 (k:Int)).2.2.2.1.any fun q=>!B8 t q.toNat,()):=by
      refine Zu (xs:=(opn j.2.2.1 (k:Int)).2.2.2.1) (f:=fun z=>yr z.1 t) (p:=fun q=>!B8 t q.toNat) (bM k) fun q hq=>?_
      have:=sC k q hq;show (yr q t).val=_
      unfold yr;rw[zA,Kb this.1 (XF q2 (by omega)),zMO,Comp.zB,yV]
     rw[Ok.zK hc,Ok.zK (ga ⟨by omega,by omega⟩),Ok.pure]
     have hany:∀ {v:Bool},(!((opn j.2.2.1 (k:Int)).2.2.2.1.any fun q=>!B8 t q.toNat))=true↔∀q∈(opn j.2.2.1 (k:Int)).2.2.2.1,B8 t q.toNat=true:=by
      simp
     refine⟨zN (by omega),by grind [ZF],?_,?_,?_⟩
     ·intro p hp
      dsimp only at hp;rw[ZF,Yn q2 dK.1]at hp;split at hp
      ·grind
      ·exact q3 p hp
     ·intro u hu xM p hp
      dsimp only;rw[ZF,Yn q2 dK.1];split
      ·rename_i e
       subst e;rw[yV];exact(hany (v:=true)).2 fun q hq=>q4 u hu xM _ (xM p hp q hq)
      ·exact q4 u hu xM p hp
     ·intro p hp hb q hq
      dsimp only at hb;rw[ZF,Yn q2 dK.1]at hb;split at hb
      ·rename_i e
       subst e;rw[yV]at hb;exact q3 _ ((hany (v:=true)).1 hb q hq)
      ·rename_i e
       rw[List.take_add_one,hk]at hp;grind
    ·rintro⟨n,t⟩ ⟨q1,q2,q3,q4,q5⟩
     dsimp only at q1 q2 q3 q4 q5;subst q1;rw[zMr (by grind),Ok.pure]
     refine⟨q2,q3,q4,fun k hk hb=>q5 k ?_ hb⟩
     grind [slI,Zp,XI]
   refine hB5.mono ?_;rintro r ⟨r1,r2,r3,r4⟩;rw[Ok.pure];refine⟨⟨r1,r2.trans h2,fun t ht hc=>r3 t (h3 t ht hc) hc,fun e k hk=>?_⟩,?_⟩
   ·grind
   ·dsimp only
    rw[zMr he];by_cases e:s=r
    ·grind
    ·rw[zMr e]
     have:=Gj r1 h1 r2 (fun h=>e h.symm)
     omega
def alw(L:List Eff)(sp s:List Bool):Bool:=(List.range 8).all fun k=>!B8 s k || ((decide (k<L.length) && !B8 sp k) && (opn L (k:Int)).2.2.2.1.all fun q=>B8 s q.toNat)
theorem lU{L:List Eff}{sp s:List Bool}(hs:s.length=8):alw L sp s=true↔(∀k,B8 s k=true->k<L.length/\B8 sp k=false)/\XD L s:=by
 unfold alw;rw[zMv];refine⟨fun h=>?_,fun h k _=>?_⟩
 ·have key:∀k,B8 s k=true->(k<L.length/\B8 sp k=false)/\∀q∈(opn L (k:Int)).2.2.2.1,B8 s q.toNat=true:=fun k hk=>by
   grind [XI]
  exact⟨fun k hk=>(key k hk).1,fun k hk=>(key k hk).2⟩
 ·cases hb:B8 s k with
  |false=>rfl
  |true =>
   obtain⟨h1,h2⟩:=h.1 k hb;have h3:=h.2 k hb
   grind
theorem uD{j:Job}{sp s:List Bool}(aP:sp.length=8)(hs:s.length=8)(hn:j.2.2.1.length<=8)(sC:zBA j.2.2.1)(bM:∀k:Nat,(opn j.2.2.1 (k:Int)).2.2.2.1.length<9223372036854775807):(vZ (j,sp,()) s).val=some (alw j.2.2.1 sp s,()):=by
 unfold vZ;dsimp only;refine Ok.val ?_;rw[Ok.bind];refine(Ok.count j.2.2.1.length (fun i (x:Int×List Bool)=>x.1=(i:Int)/\x.2=m8 fun k=>decide (k<i) && !B8 s k) (P:=fun r=>r=m8 fun k=>decide (k<j.2.2.1.length) && !B8 s k) ⟨rfl,rfl⟩ ?_ ?_).mono fun r hr=>?_
 ·rintro i ⟨n,t⟩ hi ⟨h1,h2⟩
  dsimp only at h1 h2;subst h1 h2;rw[zMq (by grind),Ok.bind,Ok.XA (XF hs (by omega)),Ok.zK (ga ⟨by omega,by omega⟩),Ok.pure]
  refine⟨zN (by omega),?_⟩
  dsimp only;rw[ZF];exact E5 (g:=fun k=>!B8 s k) (by omega)
 ·simp[zj,zR,Ok.pure]
 ·subst hr
  rw[Ok.bind];refine(Gw aP (jA _) hn sC bM).mono ?_;rintro⟨r,u⟩ hr;rw[Ok.pure];refine Prod.ext ?_ rfl;dsimp only at hr |-;have fW:∀k,B8 (rs j.2.2.1.length sp (m8 fun k=>decide (k<j.2.2.1.length) && !B8 s k)) k=true↔k<j.2.2.1.length/\B8 s k=true/\B8 sp k=false:=fun k=>by
   constructor
   ·intro h
    obtain⟨g1,g2,g3⟩:=UF h;grind [JH]
   grind [zGV,JH]
  rw[Bool.eq_iff_iff,lF,lU hs];constructor
  ·intro h
   subst h;exact⟨fun k hk=>by obtain⟨g1,_,g3⟩:=(fW k).1 (hr.sub k hk);grind,hr.cl⟩
  ·rintro⟨h1,h2⟩
   refine jc.eq hr.len hs (fun k hk=>((fW k).1 (hr.sub k hk)).2.1) (hr.most s (fun k hk=>(fW k).2 ⟨(h1 k hk).1,hk,(h1 k hk).2⟩) h2)
def enR(p:Part)(x:zu)(cuts:List Cell):Nat->Nat->Bool×Int
 |_,0=>(true,0)
 |i,m+1=>if wt p i≠2\/x.1.getD i false=true then enR p x cuts (i+1) m else if (cov (nr cuts (cl p i)) (cl p i)).1=true then enR p x cuts (i+1) m else (false,(cov (nr cuts (cl p i)) (cl p i)).2)
def ctS(j:Job)(s:List Bool):List Cell:=j.2.1.2.2.1++(sl s).flatMap fun k:Nat=>(opn j.2.2.1 (k:Int)).1
def enq(j:Job)(s:List Bool):Bool×Int:=enR j.1 j.2.1 (ctS j s) 0 j.1.2.1.length
def enO:Bool×Int->Unit⊕Bool×Int
 |(true,_)=>.inl ()
 |(false,e)=>.inr (false,e)
theorem GC{p:Part}{x:zu}{cuts:List Cell}:∀ {m i:Nat},(enR p x cuts i m).1=true->(enR p x cuts i m).2=0
 |0,_,_=>rfl
 |m+1,i,h=>by
  unfold enR at h |-;split
  ·rename_i h1;rw[zMq h1]at h;exact GC h
  ·rename_i h1
   rw[zMr h1]at h;split
   ·rename_i h2;rw[zMq h2]at h;exact GC h
   grind
def scan(g:Nat->Option ε)(d:ε):Nat->Nat->ε
 |_,0=>d
 |a,m+1=>match g a with
  |some e=>e
  |none=>scan g d (a+1) m
def scS(o:Option ε)(i:Nat):Comp.Step Int ε:=match o with
 |some e=>.done e
 |none=>.next ((i+1:Nat):Int)
theorem BP{body:Int->Comp (Comp.Step Int ε)}(g:Nat->Option ε){d:ε}:∀(m a:Nat),(∀(i:Nat),a<=i->i<a+m->(body (i:Int)).val=some (scS (g i) i))->(body ((a+m:Nat):Int)).val=some (.done d)->(Comp.loop body (a:Int)).val=some (scan g d a m)
 |0,a,hb,he=>by rw[zJ];rw[Nat.add_zero]at he;rw[he];rfl
 |m+1,a,hb,he=>by
  have ih:=BP g m (a+1) (fun i h1 h2=>hb i (by omega) (by omega)) (by rw[show a+1+m=a+(m+1) by omega];exact he)
  rw[zJ,hb a (zMS _) (by omega)]
  unfold scan
  cases hg:g a with
  |some e=>rfl
  |none=>exact ih
def enG(p:Part)(x:zu)(cuts:List Cell)(i:Nat):Option (Unit⊕Bool×Int):=if wt p i≠2\/x.1.getD i false=true then none else if (cov (nr cuts (cl p i)) (cl p i)).1=true then none else some (.inr (false,(cov (nr cuts (cl p i)) (cl p i)).2))
theorem CS{p:Part}{x:zu}{cuts:List Cell}:∀ {m i:Nat},enO (enR p x cuts i m)=scan (enG p x cuts) (.inl ()) i m
 |0,_=>rfl
 |m+1,i=>by
  have ih:=CS (p:=p) (x:=x) (cuts:=cuts) (m:=m) (i:=i+1);unfold scan enR enG;split
  ·exact ih
  ·split
   ·exact ih
   ·rfl
theorem D4{j:Job}{sp s:List Bool}(hs:s.length=8)(fW:∀k,B8 s k=true->k<j.2.2.1.length)(hw:j.1.2.2.1.length=j.1.2.1.length)(hx:j.2.1.1.length=j.1.2.1.length)(hpc:j.2.1.2.2.1.length<=1000)(bM:∀x∈j.2.2.1,x.1.length<=100000)(xM:j.1.2.1.length<=1000) :
  (vJ (j,sp,()) s).val=some ((enq j s).1,(enq j s).2,()):=by
 unfold vJ;dsimp only;refine Ok.val ?_;have hLIM:=GQ
 have hcl0:∀ {c:List Cell},c.length<=1000000->(zh c).val=some (c,()):=fun {c} h=>K0 (zMX h hLIM)
 rw[Ok.zK (hcl0 (by omega)),Ok.zK (JA hs)]
 dsimp only;rw[Ok.bind];have hln:=Ks s
 have hol:∀k:Nat,((opn j.2.2.1 (k:Int)).1).length<=100000:=fun k=>by
  grind [opn]
 have cQ:∀l:List Nat,(l.flatMap fun k:Nat=>(opn j.2.2.1 (k:Int)).1).length<=l.length * 100000:=by
  intro l
  induction l with
  |nil=>simp
  |cons k l ih=>grind
 refine(Ok.count (slI s).length (fun i (x:List Cell×Int)=>x.2=(i:Int)/\x.1=j.2.1.2.2.1++((sl s).take i).flatMap fun k:Nat=>(opn j.2.2.1 (k:Int)).1) (P:=fun r=>r=ctS j s) ⟨rfl,by simp⟩ ?_ ?_).mono fun r hr=>?_
 ·rintro i ⟨c,n⟩ hi ⟨h1,h2⟩
  dsimp only at h1 h2;subst h1 h2;obtain⟨k,hk⟩:=zO (xs:=sl s) (k:=i) (by grind [slI])
  have xO:(slI s)[i]?=some (k:Int):=by grind [slI]
  have dK:=Zp.1 (zMV hk);have cI:=fW k dK.2
  rw[zMq (by grind),Ok.bind,Ok.XA xO,Ok.bind,Ok.yN (Kt ⟨by omega,by omega⟩)]
  have hb:=cQ ((sl s).take i);have gF:((sl s).take i).length<=8:=by grind
  have ho:=hol k;refine vq (by grind) ?_
  rw[Ok.pure];refine⟨zN (by omega),?_⟩
  simp_all [List.take_add_one]
 ·rintro⟨c,n⟩ ⟨h1,h2⟩
  dsimp only at h1 h2;subst h1 h2;rw[zMr (by grind),Ok.pure]
  have:(sl s).take (slI s).length=sl s:=List.take_of_length_le (by simp[slI])
  rw[this];rfl
 ·subst hr
  have xB:(ctS j s).length<=900000:=by
   grind [Ei,ctS]
  generalize hC:ctS j s=C at xB;rw[Ok.bind]
  have h2:∀i:Nat,i<j.1.2.1.length->(if ltI (i:Int) (zD j.1.2.1)=true then jn (fun (x:Unit)=>Comp.pure (Comp.Step.next (zH .i64 (i:Int) 1))) fun (j':Unit->Comp (Comp.Step Int (Unit⊕Bool×Int)))=>(idx j.1.2.1 (i:Int)).bind fun x_2=>(idx j.1.2.2.1 (i:Int)).bind fun x_3=>(Comp.gd (ntB (neI x_3 2)) (idx j.2.1.1 (i:Int)) false).bind fun x_4=>if sel (neI x_3 2) true x_4=true then j' () else (zh C).bind fun y=>(zn y.1 fun (z:Cell×Unit)=>yy z.1 x_2).bind fun ys=>(gV ys x_2).bind fun x=>if ntB x.1=true then Comp.pure (Comp.Step.done (Sum.inr (false,x.2.1))) else j' () else Comp.pure (Comp.Step.done (Sum.inl ()))).val=some (scS (enG j.1 j.2.1 C i) i):=by
   intro i hi;obtain⟨c,hc⟩:=zO (xs:=j.1.2.1) (k:=i) (by omega)
   obtain⟨wv,oK⟩:=zO (xs:=j.1.2.2.1) (k:=i) (by omega)
   obtain⟨sv,hsv⟩:=zO (xs:=j.2.1.1) (k:=i) (by omega)
   have ew:wt j.1 i=wv:=by grind [wt,je]
   have ec:cl j.1 i=c:=by grind [cl,je]
   have es:j.2.1.1.getD i false=sv:=je hsv;have hnx:zH .i64 (i:Int) 1=((i+1:Nat):Int):=zN (by omega)
   rw[zMq (by grind),vV,zA,zI hc,zMO,zA,zI oK,zMO,zA,hnx]
   unfold enG;rw[ew,ec,es];by_cases hw2:wv=2
   ·have e1:neI wv 2=false:=by grind
    rw[e1];show Option.bind (idx j.2.1.1 (i:Int)).val _=_
    rw[zI hsv,zMO]
    cases sv with
    |true=>rw[zMq (by rfl),Comp.zB,zMq (.inr rfl)];rfl
    |false =>
     rw[zMr (by grind),zMr (by grind),zA,hcl0 (by omega),zMO,zA]
     have hd:(zn C fun (z:Cell×Unit)=>yy z.1 c).val=some (nr C c) :=
      Hg (z:=([]:Cell)) (f:=fun z=>yy z.1 c) (p:=fun q=>apa q c) (by omega) fun q _=>by
       simp[yy,zA,gy]
     rw[hd,zMO,zA,qH,zMO];dsimp only
     cases hcv:(cov (nr C c) c).1 with
     |true=>rw[zMr (by grind),Comp.zB,zMq rfl];rfl
     |false=>rw[zMq (by rfl),Comp.zB,zMr (by simp)];rfl
   ·have e1:neI wv 2=true:=by grind
    rw[e1];show Option.bind (Comp.pure false).val _=_
    rw[Comp.zB,zMO,zMq (by rfl),Comp.zB,zMq (.inl hw2)];rfl
  refine⟨enO (enq j s),?_,?_⟩
  ·have e:enO (enq j s)=scan (enG j.1 j.2.1 C) (.inl ()) 0 j.1.2.1.length:=by unfold enq;grind [CS]
   rw[e];show (Comp.loop _ ((0:Nat):Int)).val=_
   refine BP _ _ _ (fun i _ hi=>h2 i (by omega)) ?_
   simp[zj,zR]
  ·cases hq:enq j s with
   |mk b e =>
    have:=@GC j.1 j.2.1 (ctS j s) j.1.2.1.length 0
    change (enq j s).1=true->(enq j s).2=0 at this
    rw[hq]at this
    cases b with
    |true=>have he:e=0:=this rfl;subst he;exact(Ok.pure (P:=fun x=>x=(true,(0:Int),()))).2 rfl
    |false=>exact(Ok.pure (P:=fun x=>x=(false,e,()))).2 rfl
def kp(p:Part):List Cell:=((List.range p.2.1.length).filter fun i=>decide (wt p i=1)).map (cl p)
def spk(K:List Cell)(e:Eff):Bool:=(e.1.any fun c=>!sap c K) || e.2.1.any fun c=>!sap c K
def bgn(j:Job):List Bool:=m8 fun k=>decide (k<j.2.2.1.length) && spk (kp j.1) (opn j.2.2.1 (k:Int))
theorem wZ{j:Job}(hw:j.1.2.2.1.length=j.1.2.1.length)(xM:j.1.2.1.length<=1000)(hn:j.2.2.1.length<=8)(bM:∀x∈j.2.2.1,x.1.length<=100000/\x.2.1.length<=100000):(kV j).val=some ((j,bgn j,()),()):=by
 unfold kV;refine Ok.val ?_;rw[Ok.bind];refine(Ok.count j.1.2.1.length (fun i (x:Int×List Cell)=>x.1=(i:Int)/\x.2=((List.range i).filter fun i=>decide (wt j.1 i=1)).map (cl j.1)) (P:=fun r=>r=kp j.1) ⟨rfl,rfl⟩ ?_ ?_).mono fun K hK=>?_
 ·rintro i ⟨n,s⟩ hi ⟨h1,h2⟩
  dsimp only at h1 h2;subst h1 h2;obtain⟨c,hc⟩:=zO (xs:=j.1.2.1) (k:=i) hi;obtain⟨wv,oK⟩:=zO (xs:=j.1.2.2.1) (k:=i) (by omega)
  have ew:wt j.1 i=wv:=by grind [wt]
  have ec:cl j.1 i=c:=by grind [cl]
  have fH:=List.length_filter_le (fun i=>decide (wt j.1 i=1)) (List.range i)
  rw[List.length_range]at fH;have hr:((List.range (i+1)).filter fun i=>decide (wt j.1 i=1)).map (cl j.1)=((List.range i).filter fun i=>decide (wt j.1 i=1)).map (cl j.1)++if wv=1 then [c] else []:=by
   grind [List.range_succ]
  rw[zMq (by grind),Ok.bind,Ok.XA hc,Ok.bind,Ok.XA oK]
  refine jN (fun y=>y=((List.range (i+1)).filter fun i=>decide (wt j.1 i=1)).map (cl j.1)) (fun j' hj=>?_) fun y hy=>?_
  ·split
   ·rename_i hb
    rw[Jl]at hb;refine vq (by grind) (hj _ ?_)
    grind
   grind
  grind [Ok.pure]
 ·rintro⟨n,s⟩ ⟨h1,h2⟩
  dsimp only at h1 h2;subst h1 h2;rw[zMr (by grind),Ok.pure];rfl
 ·subst hK
  have cI:(kp j.1).length<=1000:=by
   grind [kp]
  have hm:∀c:Cell,(vy c (kp j.1)).val=some (!sap c (kp j.1),()):=fun c=>by
   grind [vy,zA,kK,Comp.zB]
  have hcf:∀l:List Cell,l.length<=100000->(zG l fun (z:Cell×Unit)=>vy z.1 (kp j.1)).val=some (l.any fun c=>!sap c (kp j.1),()):=fun l hl=>Zu (xs:=l) (f:=fun z=>vy z.1 (kp j.1)) (p:=fun c=>!sap c (kp j.1)) (by omega) fun c _=>hm c
  rw[Ok.bind];refine(Ok.count j.2.2.1.length (fun i (x:Int×Job×List Bool×Unit)=>x=((i:Int),j,(m8 fun k=>decide (k<i) && spk (kp j.1) (opn j.2.2.1 (k:Int))),())) (P:=fun r=>r=(j,bgn j,())) rfl ?_ ?_).mono fun r hr=>by rw[Ok.pure,hr]
  ·rintro i x hi rfl
   dsimp only;obtain⟨e,he⟩:=zO (xs:=j.2.2.1) (k:=i) hi;have heo:opn j.2.2.1 (i:Int)=e:=by unfold opn;exact je he
   obtain⟨s1,s2⟩:=bM e (zMV he);rw[zMq (by grind),Ok.bind,Ok.XA he,Ok.zK (hcf e.1 s1),Ok.bind]
   dsimp only;have hg:Ok (Comp.gd (ntB (e.1.any fun c=>!sap c (kp j.1))) (zG e.2.1 fun (z:Cell×Unit)=>vy z.1 (kp j.1)) (false,())) fun b=>sel (e.1.any fun c=>!sap c (kp j.1)) true b.1=spk (kp j.1) e:=by
    unfold spk
    cases hb:(e.1.any fun c=>!sap c (kp j.1)) with
    |true=>exact Ok.kD (fun h=>nomatch h) fun _=>rfl
    |false=>exact Ok.kD (fun _=>(Ok.yN (hcf e.2.1 s2)).2 rfl) fun h=>nomatch h
   refine hg.mono fun b hb=>?_
   rw[Ok.zK (ga ⟨by omega,by omega⟩),Ok.pure]
   show _=_
   rw[hb,ZF,<-heo,E5 (g:=fun k=>spk (kp j.1) (opn j.2.2.1 (k:Int))) (by omega),zN (by omega)]
  ·rintro x rfl
   dsimp only;rw[zMr (by grind),Ok.pure];rfl
structure PlOk(j:Job):Prop where
 w:j.1.2.2.1.length=j.1.2.1.length
 x:j.2.1.1.length=j.1.2.1.length
 pc:j.2.1.2.2.1.length<=1000
 sm:∀x∈j.2.2.1,x.1.length<=100000/\x.2.1.length<=100000
 cl:j.1.2.1.length<=1000
 n:j.2.2.1.length<=8
 nd:zBA j.2.2.1
 ns:∀k:Nat,(opn j.2.2.1 (k:Int)).2.2.2.1.length<9223372036854775807
 cs:zIy j.2.2.1
def Bel(s:List Bool)(k:Nat):Prop:=s.length=8/\∀i,B8 s i=true->i<k
theorem Bel.set{s:List Bool}{k:Nat}(h:Bel s k)(hk:k<8):Bel (s.set k true) (k+1):=⟨by simp[h.1],fun i hi=>by
 rw[Yn h.1 hk]at hi;split at hi
 ·omega
 ·have:=h.2 i hi;omega⟩
theorem Bel.le{s:List Bool}{k m:Nat}(h:Bel s k)(hm:k<=m):Bel s m:=⟨h.1,fun i hi=>zMd (h.2 i hi) hm⟩
theorem RestOk.bel{L:List Eff}{sp out s:List Bool}(h:RestOk L sp out s):Bel s L.length:=⟨h.len,fun i hi=>(UF (h.sub i hi)).1⟩
def tz:Nat->Nat
 |0=>1
 |d+1=>2 * tz d+1
theorem RH:∀d,1<=tz d
 |0=>zMS _
 |d+1=>by grind [tz]
theorem qq:Bel z8 0:=⟨rfl,fun i hi=>by
 by_cases h8:i<8
 ·rw[Ss (g:=fun _=>true),JH h8]at hi;grind
 ·rw[XI rfl (by omega)]at hi;cases hi⟩
section
variable {j:Job} (hj:PlOk j)
include hj
theorem PlOk.GB{sp s:List Bool}(hs:Bel s j.2.2.1.length):(vJ (j,sp,()) s).val=some ((enq j s).1,(enq j s).2,()) :=
 D4 hs.1 hs.2 hj.w hj.x hj.pc (fun x hx=>(hj.sm x hx).1) hj.cl
end
theorem AX{k:α->Comp β}{b:(α->Comp β)->Comp β}{P:β->Prop}(h:Ok (b k) P):Ok (jn k b) P:=h
def Fnd(j:Job)(sp:List Bool)(b:Int)(f:List Bool):Prop:=b = -1\/(Bel f j.2.2.1.length/\alw j.2.2.1 sp f=true/\(enq j f).1=true/\b=cst j.2.2.1 (sl f))
def Bst(j:Job)(sp:List Bool)(b:Int)(T:List Bool->Prop):Prop:=∀t,Bel t j.2.2.1.length->alw j.2.2.1 sp t=true->T t->(enq j t).2=0/\((enq j t).1=true->0<=b/\b<=cst j.2.2.1 (sl t))
def Uj(j:Job)(sp:List Bool)(e:Int):Prop:=e≠0/\∃t,Bel t j.2.2.1.length/\alw j.2.2.1 sp t=true/\e=(enq j t).2
def Agr(s t:List Bool)(k:Nat):Prop:=∀i,i<k->B8 t i=B8 s i
structure Vst(j:Job)(sp:List Bool)(b:Int)(T:List Bool->Prop)(b':Int)(f':List Bool):Prop where
 fnd:Fnd j sp b' f'
 dn:0<=b->0<=b'/\b'<=b
 bst:Bst j sp b' T
section
variable {j:Job} (hj:PlOk j)
include hj
theorem PlOk.zMC{s:List Bool}(hs:Bel s j.2.2.1.length):0<=cst j.2.2.1 (sl s):=(GG (m:=1048576) fun k hk=>hj.cs k (hs.2 k (Zp.1 hk).2)).1
theorem PlOk.visit{sp:List Bool}(aP:sp.length=8):∀(m k:Nat) (s:List Bool) (b:Int) (f:List Bool),j.2.2.1.length-k<m->k<=j.2.2.1.length->Bel s k->Fnd j sp b f->Ok (YF m (k:Int) s (j,sp,()) b f) fun r=>match r with|.inl e=>Uj j sp e|.inr y=>Vst j sp b (fun t=>Agr s t k) y.1 y.2.1:=by
 intro m
 induction m with
 |zero=>omega
 |succ m ih =>
  intro k s b f hm hk hs hf;show Ok (YV (YF m) (k:Int) s (j,sp,()) b f) _
  have hn:=hj.n;have dZ:=hs.le hk
  unfold YV;rw[Ok.zK (uD aP hs.1 hj.n hj.nd hj.ns)];dsimp only;refine jN (fun x:Int×List Bool=>Vst j sp b (fun t=>t=s) x.1 x.2) (fun j' hj'=>?_) ?_
  ·by_cases ha:alw j.2.2.1 sp s=true
   ·rw[zMq ha,Ok.zK (hj.GB dZ)]
    dsimp only;by_cases he:(enq j s).2=0
    ·rw[zMr (by grind),Ok.zK (ql hs.1 (fun i h=>dZ.2 i h) hj.cs)]
     dsimp only;have h0:=hj.zMC dZ
     refine jN (fun x:Int×List Bool=>Vst j sp b (fun t=>t=s) x.1 x.2) (fun j2 iJ=>?_) fun x hx=>hj' _ hx
     cases hq:(enq j s).1 with
     |false =>
      rw[zMr (by grind)]
      exact iJ _ ⟨hf,fun h=>⟨h,Int.le_refl _⟩,fun t _ _ ht=>by grind⟩
     |true =>
      by_cases gF:b<0\/cst j.2.2.1 (sl s)<b
      ·rw[zMq (by
        grind)]
       exact iJ _ ⟨.inr ⟨dZ,ha,hq,rfl⟩,fun h=>⟨h0,by omega⟩,fun t _ _ ht=>by grind⟩
      ·rw[zMr (by
        grind)]
       exact iJ _ ⟨hf,fun h=>⟨h,Int.le_refl _⟩,fun t _ _ ht=>by grind⟩
    ·rw[zMq (by grind),Ok.pure];exact⟨he,s,dZ,ha,rfl⟩
   ·rw[zMr ha]
    exact hj' _ ⟨hf,fun h=>⟨h,Int.le_refl _⟩,fun t _ h2 ht=>by grind⟩
  ·rintro⟨b1,f1⟩ h1
   dsimp only at h1;rw[Ok.bind];refine(Ok.count (j.2.2.1.length-k) (fun i (x:Int×Int×List Bool)=>x.1=((k+i:Nat):Int)/\Vst j sp b (fun t=>t=s\/Agr s t k/\∃q,k<=q/\q<k+i/\B8 t q=true) x.2.1 x.2.2) (P:=fun r:Int×List Bool⊕Int=>match r with|.inl y=>Vst j sp b (fun t=>Agr s t k) y.1 y.2|.inr e=>Uj j sp e) ?_ ?_ ?_).mono ?_
   ·grind
   ·rintro i ⟨n,b2,f2⟩ hi ⟨e1,h2⟩
    dsimp only at e1 h2;subst e1;rw[zMq (by grind),Ok.zK (ga ⟨by omega,by omega⟩),zN (by omega),ZF,Ok.bind]
    refine(ih (k+i+1) (s.set (k+i) true) b2 f2 (by omega) (by omega) ((hs.le (by omega)).set (by omega)) h2.fnd).mono ?_
    rintro(e|⟨b3,f3,u⟩) hr
    ·grind [Ok.pure]
    ·dsimp only at hr |-
     rw[Ok.pure];have hd:∀c:Int,0<=b2/\b2<=c->0<=b3/\b3<=c:=fun c h=>by have:=hr.dn h.1;omega
     refine⟨by omega,hr.fnd,fun h=>hd _ (h2.dn h),fun t g1 g2 g3=>?_⟩
     by_cases mM:t=s\/Agr s t k/\∃q,k<=q/\q<k+i/\B8 t q=true
     ·obtain⟨c1,c2⟩:=h2.bst t g1 g2 mM
      grind
     ·refine hr.bst t g1 g2 ?_
      rcases g3 with g|⟨g,q,q1,q2,q3⟩
      ·grind
      ·have hq:q=k+i:=by
        grind
       subst hq;intro p hp;rw[Yn hs.1 (by omega)]
       split
       ·grind
       ·by_cases iM:p<k
        ·exact g p iM
        ·have c1:B8 s p=false:=by
          cases h:B8 s p with
          |false=>rfl
          |true=>have:=hs.2 p h;omega
         grind
   ·rintro⟨n,b2,f2⟩ ⟨e1,h2⟩
    dsimp only at e1 h2;subst e1;rw[zMr (by grind),Ok.pure]
    refine⟨h2.fnd,h2.dn,fun t g1 g2 g3=>h2.bst t g1 g2 ?_⟩
    by_cases h:∃q,k<=q/\B8 t q=true
    ·obtain⟨q,q1,q2⟩:=h
     have:=g1.2 q q2;grind
    ·refine .inl (Uz g1.1 hs.1 fun p hp=>?_)
     by_cases iM:p<k
     ·exact g3 p iM
     ·have c1:B8 s p=false:=by
       cases h:B8 s p with
       |false=>rfl
       |true=>have:=hs.2 p h;omega
      grind
   grind [Ok.pure]
end
structure SmB(j:Job):Prop where
 s:SmJ j
 c:j.1.2.1.length<=1000
theorem Sc{n:Nat}:∀ {L:List Eff} {k:Nat},efs n L k=0->∀x∈L,∀q∈x.2.2.2.1,0<=q/\q<n
 | [],_,_,x,hx=>by cases hx
 |y::L,k,h,x,hx=>by
  unfold efs at h;split at h
  ·rename_i h1
   rcases zMU.1 hx with e|e
   ·grind [eE,rz]
   ·exact Sc h x e
  omega
theorem mb{L:List Eff}{k:Nat}:opn L (k:Int)∈L\/opn L (k:Int)=([],[],0,[],()):=by
 unfold opn;grind
theorem Qt{j:Job}(h:ckJ j=0):fit j.1 j.2.1=0/\j.2.2.1.length<=8/\zBA j.2.2.1:=by
 unfold ckJ at h;split at h
 ·rename_i hf
  split at h
  ·cases h
  ·rename_i h8
   split at h
   ·rename_i h1
    refine⟨hf,by omega,fun k q hq=>?_⟩
    rcases mb (L:=j.2.2.1) (k:=k) with h2|h2
    ·exact Sc h1 _ h2 q hq
    grind
   omega
 omega
theorem SmB.pl{j:Job}(h:SmB j)(hc:ckJ j=0):PlOk j:=by
 have eR:=Qu hc;obtain⟨hf,h8,sC⟩:=Qt hc;obtain⟨_,_,f1,f2,f3,f4,f5,f6⟩:=Xs hf;refine⟨f6,f1,by omega,fun x hx=>⟨(h.s.e x hx).1,(h.s.e x hx).2.1⟩,h.c,h8,sC,fun k=>?_,fun k hk=>?_⟩
 ·rcases mb (L:=j.2.2.1) (k:=k) with h2|h2
  ·have:=(h.s.e _ h2).2.2;omega
  grind
 grind [opn]
def zBz(j:Job)(l:List Int)(c:Int):Prop:=∃t,l=slI t/\c=cst j.2.2.1 (sl t)/\Bel t j.2.2.1.length/\alw j.2.2.1 (bgn j) t=true/\(enq j t).1=true/\∀u,Bel u j.2.2.1.length->alw j.2.2.1 (bgn j) u=true->(enq j u).2=0/\((enq j u).1=true->cst j.2.2.1 (sl t)<=cst j.2.2.1 (sl u))
def zIx(j:Job):Prop:=∀u,Bel u j.2.2.1.length->alw j.2.2.1 (bgn j) u=true->(enq j u).2=0/\(enq j u).1=false
inductive BestR(j:Job):List Int->Int->Int->Prop
 |bad:ckJ j≠0->BestR j [] 0 (ckJ j)
 |err {e}:ckJ j=0->Uj j (bgn j) e->BestR j [] 0 e
 |non:ckJ j=0->zIx j->BestR j [] 0 60
 |ok {l c}:ckJ j=0->zBz j l c->BestR j l c 0
theorem zCK{L:List Eff}{s:List Bool}(hc:∀k∈sl s,1<=(opn L (k:Int)).2.2.1)(h:cst L (sl s)=0):sl s=[]:=by
 cases he:sl s with
 |nil=>rfl
 |cons k l =>
  exfalso;rw[he]at h hc;have h1:∀m:List Nat,(∀i∈m,1<=(opn L (i:Int)).2.2.1)->0<=cst L m:=fun m=>by
   induction m with
   |nil=>intro _;exact Int.le_refl _
   |cons a m ih =>
    intro hm;have:=ih fun i hi=>hm i (zMa _ hi)
    grind [cst]
  have h2:=h1 l fun i hi=>hc i (zMa _ hi)
  grind [cst]
def NC(e:Int):Prop:=e=0\/e=9\/e=2
theorem zGO{pcs:List Cell}{q:Cell}:(wth pcs q).2=0\/(wth pcs q).2=9:=by
 unfold wth;grind
theorem HH:∀ {s pcs:List Cell},(ZQ pcs s).2=0\/(ZQ pcs s).2=9
 | [],_=>.inl rfl
 |q::s,pcs=>by
  unfold ZQ;split
  ·exact HH
  ·exact zGO
theorem zHr{s:List Cell}{c:Cell}(hc:chk c=0)(hs:∀q∈s,chk q=0):NC (cov s c).2:=by
 show NC (mns c s).2
 unfold mns;rw[zMq hc];split
 ·split
  ·rcases HH (s:=s) (pcs:=[ln c]) with h|h
   ·exact .inl h
   ·exact .inr (.inl h)
  ·exact .inl rfl
 ·unfold sck
  split
  ·exact .inr (.inr rfl)
  ·exact .inl (kR.2 hs)
theorem Cm:∀ {l seen:List Cell},KP seen l=true->∀c∈l,chk c=0
 | [],_,_,c,hc=>by cases hc
 |d::l,seen,h,c,hc=>by
  unfold KP at h;simp only[zMQ]at h;rcases zMU.1 hc with e|e
  ·simp_all [ful]
  ·exact Cm h.2.2 c e
theorem W5{p:Part}(h:ckP p=0):∀c∈p.2.1,chk c=0:=by
 grind [ckP,Cm]
theorem pg{n:Nat}:∀ {L:List Eff} {k:Nat},efs n L k=0->∀x∈L,∀c∈x.1++x.2.1,chk c=0
 | [],_,_,x,hx=>by cases hx
 |y::L,k,h,x,hx=>by
  unfold efs at h;split at h
  ·rename_i h1
   rcases zMU.1 hx with e|e
   ·grind [eE,kR]
   ·exact pg h x e
  omega
theorem Hi{j:Job}(h:ckJ j=0):fit j.1 j.2.1=0/\∀x∈j.2.2.1,∀c∈x.1++x.2.1,chk c=0:=by
 grind [ckJ,pg]
def EOk(e:Int):Prop:=e≠35/\e≠30/\e≠60
theorem EOk.of{e:Int}(h:e=0\/e=1\/e=2\/e=3\/e=4\/e=7\/e=9\/e=12\/e=13):EOk e:=by unfold EOk;omega
theorem zHt{c:Cell}:EOk (chk c):=by
 unfold chk;split
 ·exact .of (by omega)
 ·cases c.all okP<;>exact .of (by simp)
theorem SG:∀ {s:List Cell},EOk (jD s)
 | []=>.of (.inl rfl)
 |c::s=>by
  rw[JR];split
  ·exact SG
  ·exact zHt
theorem zHs{p:Part}:EOk (ckP p):=by
 unfold ckP;split
 ·exact .of (by omega)
 ·split
  ·exact .of (by omega)
  ·cases KP [] p.2.1<;>exact .of (by simp)
theorem zHg{p:Part}{x:zu}:EOk (fit p x):=by
 unfold fit;split
 ·cases ZS p x<;>exact .of (by simp)
 ·exact zHs
theorem zMA{n k:Nat}{x:Eff}:EOk (eE n k x):=by
 unfold eE;split
 ·split
  ·exact .of (by omega)
  ·cases x.2.2.2.1.any (rz n k)<;>cases lj x.2.2.2.1<;>exact .of (by simp)
 ·exact SG
theorem zBv{n:Nat}:∀ {L:List Eff} {k:Nat},EOk (efs n L k)
 | [],_=>by unfold efs;exact .of (by omega)
 |x::L,k=>by
  unfold efs;split
  ·exact zBv
  ·exact zMA
theorem Uc{j:Job}:EOk (ckJ j):=by
 unfold ckJ;split
 ·split
  ·exact .of (by omega)
  ·split
   ·split<;>exact .of (by omega)
   ·exact zBv
 ·exact zHg
theorem NC.e{e:Int}(h:NC e):EOk e:=by
 rcases h with h|h|h<;>exact .of (by omega)
theorem zBu{p:Part}{x:zu}{cuts:List Cell}(hp:∀c∈p.2.1,chk c=0)(hc:∀c∈cuts,chk c=0):∀ {m i:Nat},i+m<=p.2.1.length->NC (enR p x cuts i m).2
 |0,_,_=>.inl rfl
 |m+1,i,h=>by
  have ih:=zBu (x:=x) hp hc (m:=m) (i:=i+1) (by omega)
  unfold enR;split
  ·exact ih
  ·split
   ·exact ih
   ·exact zHr (hp _ (Sf (by omega))) fun q hq=>hc q (List.mem_filter.1 hq).1
theorem Wv{j:Job}{s:List Bool}(hc:ckJ j=0):∀c∈ctS j s,chk c=0:=by
 obtain⟨hf,hce⟩:=Hi hc;obtain⟨_,_,_,_,_,f4,_,_⟩:=Xs hf;grind [ctS,kR,mb]
theorem UY{j:Job}{s:List Bool}(hc:ckJ j=0):NC (enq j s).2:=by
 obtain⟨hf,hce⟩:=Hi hc;exact zBu (W5 (Xs hf).1) (Wv hc) (by omega)
theorem BestR.e{j:Job}{l:List Int}{c e:Int}(h:BestR j l c e):e≠35/\e≠30:=by
 cases h with
 |bad h=>exact⟨Uc.1,Uc.2.1⟩
 |err h h' =>
  obtain⟨_,t,_,_,rfl⟩:=h';exact⟨(UY h).e.1,(UY h).e.2.1⟩
 |non h h'=>decide
 |ok h h'=>decide
def car(p:Part)(L:List Eff):zu->List Int->zu×Int
 |x,[]=>(x,0)
 |x,k::l=>if k<0\/(L.length:Int)<=k then (zP,1) else if (apl p x (opn L k).1 (opn L k).2.1).2=0 then car p L (apl p x (opn L k).1 (opn L k).2.1).1 l else (zP,(apl p x (opn L k).1 (opn L k).2.1).2)
structure CarOk(p:Part)(L:List Eff)(x:zu)(l:List Int)(y:zu):Prop where
 v:PcV p y
 c:y.2.2.1=x.2.2.1++l.flatMap fun k=>(opn L k).1
 s:∀i,i<p.2.1.length->x.1.getD i false=true->y.1.getD i false=true
 t:∀i,i<p.2.1.length->y.2.1.getD i false=true->x.2.1.getD i false=true\/∃k∈l,sap (cl p i) (opn L k).1=false\/sap (cl p i) (opn L k).2.1=false
 u:∀i,i<p.2.1.length->y.1.getD i false=true->x.1.getD i false=true\/∃A:List Cell,(∀q∈A,q∈nr y.2.2.1 (cl p i))/\(cov A (cl p i)).1=true
 r:∀i,i<p.2.1.length->x.2.1.getD i false=true->y.2.1.getD i false=true
theorem zAG{p:Part}{x:zu}{C T:List Cell}(h:(apl p x C T).2=0):(∀i,i<p.2.1.length->x.1.getD i false=true->(apl p x C T).1.1.getD i false=true)/\∀i,i<p.2.1.length->(apl p x C T).1.2.1.getD i false=true->x.2.1.getD i false=true\/sap (cl p i) C=false\/sap (cl p i) T=false:=by
 obtain⟨_,⟨hf,_⟩,he⟩:=AW h;obtain⟨_,_,f1,f2,_⟩:=Xs hf;rw[he];dsimp only;refine⟨fun i hi hs=>?_,fun i hi ht=>?_⟩
 ·grind [apS,sur]
 ·obtain⟨c,hc⟩:=zO hi
  obtain⟨v,hv⟩:=zO (xs:=x.2.1) (k:=i) (by omega)
  have hz:(apT C T p.2.1 x.2.1)[i]?=some (tch C T c v):=Jc hc hv;rw[je hz]at ht;rw[je hv,show cl p i=c from je hc]
  unfold tch at ht;grind
theorem Q4{p:Part}{x:zu}{C T:List Cell}(h:(apl p x C T).2=0):(∀i,i<p.2.1.length->(apl p x C T).1.1.getD i false=true->x.1.getD i false=true\/(cov (nr (x.2.2.1++C) (cl p i)) (cl p i)).1=true)/\∀i,i<p.2.1.length->x.2.1.getD i false=true->(apl p x C T).1.2.1.getD i false=true:=by
 obtain⟨_,⟨hf,_⟩,he⟩:=AW h;obtain⟨_,_,f1,f2,_⟩:=Xs hf;rw[he];dsimp only;refine⟨fun i hi hs=>?_,fun i hi ht=>?_⟩
 ·obtain⟨c,hc⟩:=zO hi
  obtain⟨v,hv⟩:=zO (xs:=x.1) (k:=i) (by omega)
  have hz:(apS (x.2.2.1++C) p.2.1 x.1)[i]?=some (sur (x.2.2.1++C) c v):=Jc hc hv;rw[je hz]at hs;rw[je hv,show cl p i=c from je hc]
  cases v with
  |true=>grind
  |false=>exact .inr hs
 grind [apT,tch]
theorem R3{s t:List Cell}{c:Cell}(h:∀q∈s,q∈t):∀q∈nr s c,q∈nr t c:=fun q hq=>by
 grind [nr]
theorem GK{p:Part}{L:List Eff}:∀ {l:List Int} {x:zu},PcV p x->(car p L x l).2=0->CarOk p L x l (car p L x l).1
 | [],x,hx,_=>⟨hx,by simp[car],fun _ _ h=>h,fun _ _ h=>.inl h,fun _ _ h=>.inl h,fun _ _ h=>h⟩
 |k::l,x,hx,h=>by
  unfold car at h |-;split at h
  ·cases h
  ·rename_i hk
   rw[zMr hk];split at h
   ·rename_i ha
    rw[zMq ha];obtain⟨g1,_,g3⟩:=AW ha;obtain⟨g4,g5⟩:=zAG ha;obtain⟨g6,g7⟩:=Q4 ha;have ih:=GK g1 h
    refine⟨ih.v,?_,fun i hi hs=>ih.s i hi (g4 i hi hs),fun i hi ht=>?_,fun i hi hs=>?_,fun i hi ht=>ih.r i hi (g7 i hi ht)⟩
    ·rw[ih.c,g3]
     grind
    ·rcases ih.t i hi ht with h1|⟨q,hq,h1⟩
     ·grind
     grind
    ·rcases ih.u i hi hs with h1|h1
     ·rcases g6 i hi h1 with h2|h2
      ·grind
      ·refine .inr ⟨_,R3 fun q hq=>?_,h2⟩
       rw[ih.c,g3];grind
     grind
   omega
theorem PcV.fit{p:Part}{x:zu}(h:PcV p x):fit p x=0:=by
 unfold Go.Geo.fit;rw[zMq h.c,h.f];rfl
def upB(n:Nat):Int->List Int->Bool
 |_,[]=>true
 |b,k::l=>(decide (b<k) && decide (k<n)) && upB n k l
theorem YJ{n:Nat}:∀ {l:List Int} {b:Int},upB n b l=true->∀k∈l,b<k/\k<n
 | [],_,_,_,h=>by cases h
 |q::l,b,hu,k,h=>by
  unfold upB at hu;simp only[zMQ,zMi]at hu;rcases zMU.1 h with e|e
  ·omega
  ·have:=YJ hu.2 k e
   omega
theorem VZ{p:Part}{e:Eff}(h:spk (kp p) e=false){i:Nat}(hi:i<p.2.1.length)(hw:wt p i=1):sap (cl p i) e.1=true/\sap (cl p i) e.2.1=true:=by
 have hk:cl p i∈kp p:=by
  unfold kp;grind
 unfold spk at h;rw[Bool.or_eq_false_iff]at h;have key:∀l:List Cell,(l.any fun c=>!sap c (kp p))=false->sap (cl p i) l=true:=fun l hl=>by
  simp_all [sap,Ce]
 grind
theorem Hb{p:Part}{x:zu}{cuts:List Cell}:∀ {m i:Nat},(enR p x cuts i m).1=true->∀q,i<=q->q<i+m->wt p q=2->x.1.getD q false=true\/(cov (nr cuts (cl p q)) (cl p q)).1=true
 |0,_,_,q,h1,h2,_=>by omega
 |m+1,i,h,q,h1,h2,hw=>by
  unfold enR at h;by_cases hq:q=i
  ·grind
  ·have:(enR p x cuts (i+1) m).1=true:=by
    grind
   exact Hb this q (by omega) (by omega) hw
theorem Wu{j:Job}{t:List Bool}:ctS j t=j.2.1.2.2.1++(slI t).flatMap fun k=>(opn j.2.2.1 k).1:=by
 unfold ctS slI;rw[List.flatMap_map]
theorem zAK{j:Job}{t:List Bool}(ht:t.length=8)(h:alw j.2.2.1 (bgn j) t=true):∀k∈slI t,spk (kp j.1) (opn j.2.2.1 k)=false:=by
 intro k hk;obtain⟨q,hq,rfl⟩:=List.mem_map.1 hk;grind [lU,Zp,bgn,JH]
theorem RF{n:Nat}:∀ {l:List Nat} {b:Int},l.Pairwise (· < ·)->(∀k∈l,b<(k:Int)/\k<n)->upB n b (l.map fun k:Nat=>(k:Int))=true
 | [],_,_,_=>rfl
 |k::l,b,hp,h=>by
  rw[List.map_cons];unfold upB;rw[zMt (h k (by simp)).1,zMt (by grind)]
  rw[List.pairwise_cons]at hp;rw[RF hp.2 fun q hq=>⟨by grind,(h q (by grind)).2⟩];rfl
theorem Ir{n m:Nat}{g:Nat->Bool}(h:m<=n):upB n (-1) (((List.range m).filter g).map fun k:Nat=>(k:Int))=true:=by
 grind [RF,List.pairwise_lt_range]
def bt(b:Int)(k:Nat):Bool:=b.toNat.testBit k
def btL(b:Int)(n:Nat):List Int:=((List.range (min n 8)).filter (bt b)).map fun k:Nat=>(k:Int)
theorem W8{b:Int}{n i:Nat}:(i:Int)∈btL b n↔(i<n/\i<8)/\bt b i=true:=by
 unfold btL;grind
theorem rD{b:Int}{n:Nat}:upB n (-1) (btL b n)=true:=Ir (Nat.min_le_left _ _)
theorem W9{b:Int}{n:Nat}:(btL b n).length<=8:=by
 grind [btL]
theorem RQ:∀ {a b:List Nat},a.Pairwise (· < ·)->b.Pairwise (· < ·)->(∀x,x∈a↔x∈b)->a=b
 | [],[],_,_,_=>rfl
 | [],y::b,_,_,h=>zMg ((h y).2 (by simp)) (by simp)
 |x::a,[],_,_,h=>zMg ((h x).1 (by simp)) (by simp)
 |x::a,y::b,ha,hb,h=>by
  rw[List.pairwise_cons]at ha hb;have e:x=y:=by
   have h1:=(h x).1 (by simp)
   have h2:=(h y).2 (by simp)
   grind
  subst e;rw[RQ ha.2 hb.2 fun z=>?_]
  grind
def stO(l:List Int):List Bool:=m8 fun k=>decide ((k:Int)∈l)
theorem Kp{l:List Int}:(stO l).length=8:=jA _
theorem mF{n:Nat}:∀ {l:List Int} {b:Int}, -1<=b->upB n b l=true->(l.map Int.toNat).Pairwise (· < ·)
 | [],_,_,_=>List.Pairwise.nil
 |k::l,b,hb,h=>by
  have h0:=YJ h;unfold upB at h;simp only[zMQ,zMi]at h;rw[List.map_cons,List.pairwise_cons];refine⟨fun q hq=>?_,mF (by omega) h.2⟩
  obtain⟨r,hr,rfl⟩:=List.mem_map.1 hq;have:=YJ h.2 r hr
  omega
theorem S8{n:Nat}(hn:n<=8){l:List Int}(h:upB n (-1) l=true){k:Nat}:B8 (stO l) k=true↔(k:Int)∈l:=by
 by_cases h8:k<8
 ·unfold stO;rw[JH h8,decide_eq_true_iff]
 ·rw[XI Kp (by omega)]
  refine⟨fun h=>(nomatch h),fun hm=>?_⟩
  have:=YJ h _ hm;omega
theorem Gg{n:Nat}(hn:n<=8){l:List Int}(h:upB n (-1) l=true):Bel (stO l) n:=⟨Kp,fun i hi=>by
 have:=YJ h _ ((S8 hn h).1 hi);omega⟩
theorem Gk{n:Nat}(hn:n<=8){l:List Int}(h:upB n (-1) l=true):slI (stO l)=l:=by
 have h1:sl (stO l)=l.map Int.toNat:=by
  refine RQ ?_ (mF (by omega) h) fun x=>?_
  ·unfold sl;exact List.Pairwise.filter _ List.pairwise_lt_range
  ·rw[Zp,S8 hn h,List.mem_map]
   constructor
   ·grind
   ·rintro⟨y,hy,rfl⟩
    have:=YJ h y hy;grind
 unfold slI;rw[h1,List.map_map];refine(List.map_congr_left fun y hy=>?_).trans (List.map_id l)
 have:=YJ h y hy;grind
theorem NO{n:Nat}{l:List Int}(h:upB n (-1) l=true):lj l=true:=by
 unfold lj;rw[Bool.not_eq_true'];unfold zAv;rw[List.any_eq_false];intro k hk;rw[List.mem_range']at hk;obtain⟨i,hi,rfl⟩:=hk;have hp:=mF (by omega) h
 rw[List.pairwise_iff_getElem]at hp;grind
theorem VS{n:Nat}{l:List Int}(h:upB n (-1) l=true)(hn:n<=8):l.length<=8:=by
 rw[<-Gk hn h];exact Ks _
theorem Bn{j:Job}(hn:j.2.2.1.length<=8){l:List Int}(hl:upB j.2.2.1.length (-1) l=true):(YN j l).val=some (stO l,true,()):=by
 refine Ok.val ?_;have eP:=VS hl hn
 unfold YN;rw[Ok.bind];refine(Ok.count l.length (fun i (s:Int×List Bool)=>s.1=(i:Int)/\s.2=m8 fun k=>decide ((k:Int)∈l.take i)) (P:=fun r=>r=.inl (stO l)) ⟨rfl,?_⟩ ?_ ?_).mono fun r hr=>?_
 ·show z8=_
  refine Uz rfl (jA _) fun k hk=>?_
  rw[JH hk,Ss (g:=fun _=>true),JH hk];simp
 ·rintro i ⟨n,s⟩ hi ⟨h1,h2⟩
  dsimp only at h1 h2;subst h1 h2;obtain⟨k,hk⟩:=zO hi;have dK:=YJ hl k (zMV hk)
  dsimp only;have e1:¬sel (ltI k 0) true (geI k (zD j.2.2.1))=true:=by grind
  rw[zMq (by grind),Ok.bind,Ok.XA hk,zMr e1,Ok.zK (ga ⟨by omega,by omega⟩),Ok.pure]
  refine⟨zN (by omega),?_⟩
  dsimp only;have ek:k=((k.toNat:Nat):Int):=by omega
  have ht:l.take (i+1)=l.take i++[k]:=by grind [List.take_add_one]
  rw[ek,ZF];refine Uz (by simp[jA]) (jA _) fun q hq=>?_
  rw[Yn (jA _) (by omega),JH hq,JH hq,ht,Bool.eq_iff_iff]
  grind
 ·rintro⟨n,s⟩ ⟨h1,h2⟩
  dsimp only at h1 h2;subst h1 h2;dsimp only;rw[zMr (by grind),Ok.pure,List.take_length];rfl
 grind [Ok.zK,ky,NO,Ok.pure]
theorem CP{j:Job}(h:SmB j)(hc:ckJ j=0){l:List Int}(hl:upB j.2.2.1.length (-1) l=true):(yF j l).val=some ((enq j (stO l)).1,(enq j (stO l)).2,()):=by
 have hj:=h.pl hc;refine Ok.val ?_;unfold yF;rw[Ok.zK (vY h.s.w h.s.e)];dsimp only;rw[zMr (by grind),Ok.zK (Bn hj.n hl)]
 dsimp only;rw[zMr (by decide)]
 have he:=hj.GB (sp:=z8) (Gg hj.n hl);rw[Ok.bind,show ([false,false,false,false,false,false,false,false]:List Bool)=z8 from rfl,Ok.yN he,Ok.pure]
theorem p7{j:Job}(h:SmB j)(hc:ckJ j=0){l:List Int}(hl:upB j.2.2.1.length (-1) l=true):(zU j l).val=some (alw j.2.2.1 (bgn j) (stO l),()):=by
 have hj:=h.pl hc;refine Ok.val ?_;unfold zU;rw[Ok.zK (vY h.s.w h.s.e)];dsimp only;rw[zMr (by grind),Ok.zK (Bn hj.n hl),Ok.bind]
 show Ok (kV j) _
 rw[Ok.yN (wZ hj.w hj.cl hj.n hj.sm),Ok.bind];show Ok (vZ (j,bgn j,()) (stO l)) _
 rw[Ok.yN (uD (show (bgn j).length=8 from jA _) Kp hj.n hj.nd hj.ns),Ok.pure];rfl
theorem qE{j:Job}(h:SmB j)(hc:ckJ j≠0){l:List Int}:(yF j l).val=some (false,ckJ j,()):=by
 refine Ok.val ?_;unfold yF;rw[Ok.zK (vY h.s.w h.s.e)];simp_all [gJ,Ok.pure]
theorem Ay{j:Job}(h:SmB j)(hc:ckJ j≠0){l:List Int}:(zU j l).val=some (false,()):=by
 refine Ok.val ?_;unfold zU;rw[Ok.zK (vY h.s.w h.s.e)];simp_all [gJ,Ok.pure]
def clS(L:List Eff)(s:List Bool):List Bool:=m8 fun k=>B8 s k && (opn L (k:Int)).2.2.2.1.all fun q=>B8 s q.toNat
def itS(L:List Eff):Nat->List Bool->List Bool
 |0,s=>s
 |m+1,s=>itS L m (clS L s)
def Mx(L:List Eff)(sp out:List Bool):List Bool:=itS L 8 (rs L.length sp out)
theorem lI{L:List Eff}{s:List Bool}(hs:s.length=8):jc (clS L s) s:=fun k hk=>by
 by_cases h8:k<8
 ·simp_all [clS,JH]
 grind [XI,clS,jA]
theorem Qs{L:List Eff}{s t:List Bool}(ht:t.length=8)(h:jc t s)(hc:XD L t):jc t (clS L s):=fun k hk=>by
 by_cases h8:k<8
 ·unfold clS
  rw[JH h8,h k hk,Bool.true_and,zMv];exact fun q hq=>h _ (hc k hk q hq)
 grind [XI]
theorem W2{L:List Eff}{s:List Bool}(h:clS L s=s):XD L s:=fun k hk q hq=>by
 by_cases h8:k<8
 ·have h1:=hk
  rw[<-h]at h1;unfold clS at h1;simp_all [JH]
 ·have hl:s.length=8:=by rw[<-h];exact jA _
  grind [XI]
theorem Bx{L:List Eff}{s:List Bool}(h:clS L s=s):∀m,itS L m s=s
 |0=>rfl
 |m+1=>by show itS L m (clS L s)=s;rw[h];exact Bx h m
theorem SC{L:List Eff}:∀(m:Nat) (s:List Bool),s.length=8->(sl s).length<=m->((itS L m s).length=8/\jc (itS L m s) s)/\clS L (itS L m s)=itS L m s/\∀t,t.length=8->jc t s->XD L t->jc t (itS L m s)
 |0,s,hs,h=>by
  refine⟨⟨hs,jc.refl _⟩,jc.eq (jA _) hs (lI hs) fun k hk=>?_,fun t _ h _=>h⟩
  exfalso;have hk:B8 s k=true:=hk
  have h8:k<8:=by
   grind [XI]
  simp_all [sl]
 |m+1,s,hs,h=>by
  by_cases he:clS L s=s
  ·grind [Bx,jc.refl]
  ·have hl:(clS L s).length=8:=jA _
   have gF:=Gj hl hs (lI hs) he;obtain⟨⟨a1,a2⟩,a3,a4⟩:=SC m (clS L s) hl (by omega)
   exact⟨⟨a1,a2.trans (lI hs)⟩,a3,fun t ht h hc=>a4 t ht (Qs ht h hc) hc⟩
theorem Gv{L:List Eff}{sp out:List Bool}:(Mx L sp out).length=8/\RestOk L sp out (Mx L sp out):=by
 have hl:(rs L.length sp out).length=8:=jA _;obtain⟨⟨a1,a2⟩,a3,a4⟩:=SC (L:=L) 8 (rs L.length sp out) hl (Ei _);refine⟨a1,a1,a2,W2 a3,fun t h hc k hk=>?_⟩
 have bE:jc (m8 (B8 t)) t/\jc t (m8 (B8 t)):=by
  refine⟨fun i hi=>?_,fun i hi=>?_⟩
  ·grind [JH,XI,jA]
  ·have h8:i<8:=by
    by_cases h8:i<8
    ·exact h8
    ·have:=h i hi
     grind [XI]
   grind [JH]
 exact a4 (m8 (B8 t)) (jA _) (bE.1.trans h) (fun i hi q hq=>bE.2 _ (hc i (bE.1 i hi) q hq)) k (bE.2 k hk)
theorem RestOk.is{L:List Eff}{sp out s:List Bool}(h:RestOk L sp out s):s=Mx L sp out:=by
 obtain⟨h1,h2⟩:=Gv (L:=L) (sp:=sp) (out:=out);exact jc.eq h.len h1 (h2.most s h.sub h.cl) (h.most _ h2.sub h2.cl)
def shQ(q:List Bool->Bool×Int)(L:List Eff)(sp inn out:List Bool):Bool:=((sl inn).any fun k=>!B8 (Mx L sp out) k) || (decide ((q (Mx L sp out)).2=0) && !(q (Mx L sp out)).1)
theorem zCM{s:List Bool}{i:Nat}{y:Int}(h:(slI s)[i]?=some y):∃k:Nat,(sl s)[i]?=some k/\y=(k:Int):=by
 unfold slI at h;grind
section
variable {j:Job} (hj:PlOk j)
include hj
theorem PlOk.pF{sp inn out:List Bool}(aP:sp.length=8)(hi:inn.length=8)(ho:out.length=8):(gK (j,sp,()) inn out).val=some (shQ (enq j) j.2.2.1 sp inn out,()):=by
 refine Ok.val ?_;unfold gK;rw[Ok.bind];refine(Gw aP ho hj.n hj.nd hj.ns).mono ?_;rintro⟨r,u⟩ hr;dsimp only at hr;have bE:=hr.bel
 have fA:=hr.len;have er:=hr.is
 rw[Ok.zK (JA hi)];dsimp only;rw[Ok.bind];unfold shQ;rw[<-er];have hln:=Ks inn
 have e0:(slI inn).length=(sl inn).length:=by unfold slI;grind
 refine(Ok.count (slI inn).length (fun i (x:Int)=>x=(i:Int)/\((sl inn).take i).any (fun k=>!B8 r k)=false) (P:=fun t:Unit⊕Bool=>match t with|.inl _=>(sl inn).any (fun k=>!B8 r k)=false|.inr b=>b=true/\(sl inn).any (fun k=>!B8 r k)=true) ⟨rfl,rfl⟩ ?_ ?_).mono ?_
 ·rintro i x hi' ⟨rfl,h2⟩
  obtain⟨y,hy⟩:=zO hi';obtain⟨k,hk,rfl⟩:=zCM hy;have hk8:=(Zp.1 (zMV hk)).1
  rw[zMq (by grind),Ok.bind,Ok.XA hy,Ok.bind,Ok.XA (XF fA hk8),yV]
  have ht:(sl inn).take (i+1)=(sl inn).take i++[k]:=by grind [List.take_add_one]
  cases hb:B8 r k with
  |true =>
   rw[zMr (by simp),Ok.pure]
   grind
  |false =>
   rw[zMq (by rfl),Ok.pure]
   grind
 ·rintro x ⟨rfl,h2⟩
  simp_all [zj,zR,Ok.pure]
 ·rintro(u'|b) hb
  ·dsimp only at hb |-
   rw[Ok.zK (hj.GB bE),Ok.pure,hb];grind
  ·obtain⟨rfl,hb⟩:=hb
   grind [Ok.pure]
end
abbrev Nd:=Int×Int×Unit
def trL(q:List Bool->Bool×Int)(L:List Eff)(sp:List Bool)(lim:Int):Nat->Nat->List Bool->List Bool->List Nd
 |0,_,inn,_=>if 0<lim/\lim<=cst L (sl inn) then [(2,0,())] else [(3,0,())]
 |d+1,k,inn,out=>if 0<lim/\lim<=cst L (sl inn) then [(2,0,())] else if shQ q L sp inn out=true then [(3,0,())] else (1,(k:Int),())::(trL q L sp lim d (k+1) (inn.set k true) out++trL q L sp lim d (k+1) inn (out.set k true))
theorem uf{q:List Bool->Bool×Int}{L:List Eff}{sp:List Bool}{lim:Int}:∀(d k:Nat) (inn out:List Bool),(trL q L sp lim d k inn out).length<=tz d
 |0,_,_,_=>by unfold trL;split<;>exact zMS _
 |d+1,k,inn,out=>by
  have h1:=uf (q:=q) (L:=L) (sp:=sp) (lim:=lim) d (k+1) (inn.set k true) out;have h2:=uf (q:=q) (L:=L) (sp:=sp) (lim:=lim) d (k+1) inn (out.set k true)
  have h3:=RH d;have e:tz (d+1)=2 * tz d+1:=rfl
  grind [trL]
theorem tz8:∀d,d<=8->tz d<=511:=fun d hd=>by
 match d,hd with
 |0,_|1,_|2,_|3,_|4,_|5,_|6,_|7,_|8,_=>decide
section
variable {j:Job} (hj:PlOk j)
include hj
theorem PlOk.NR{sp:List Bool}(aP:sp.length=8){lim:Int}:∀(m k:Nat) (inn out:List Bool) (y:List Nd),j.2.2.1.length-k<m->k<=j.2.2.1.length->Bel inn k->Bel out k->y.length+tz (j.2.2.1.length-k)<=1000 ->
  Ok (jX m (k:Int) inn out lim (j,sp,()) y) fun r=>r=.inr (y++trL (enq j) j.2.2.1 sp lim (j.2.2.1.length-k) k inn out,()):=by
 intro m
 induction m with
 |zero=>omega
 |succ m ih =>
  intro k inn out y hm hk hi ho hy;show Ok (j7 (jX m) (k:Int) inn out lim (j,sp,()) y) _
  have hn:=hj.n;have htp:=RH (j.2.2.1.length-k)
  unfold j7;rw[Ok.bind];have bS:=ql (sp:=sp) hi.1 (fun i h=>zMd (hi.2 i h) hk) hj.cs
  have eR:Ok (Comp.gd (gtI lim 0) (vX (j,sp,()) inn) (0,())) fun c=>sel (gtI lim 0) (geI c.1 lim) false=decide (0<lim/\lim<=cst j.2.2.1 (sl inn)):=by
   by_cases h:0<lim
   ·have e1:gtI lim 0=true:=by grind
    rw[e1];refine Ok.kD (fun _=>(Ok.yN bS).2 ?_) fun h=>nomatch h
    grind
   ·have e1:gtI lim 0=false:=by grind
    grind [Ok.kD]
  refine eR.mono fun c hc=>?_
  rw[hc];generalize hT:trL (enq j) j.2.2.1 sp lim (j.2.2.1.length-k) k inn out=T;refine jN (fun y'=>y'=y++T) (fun j' hj'=>?_) fun y' hy'=>by rw[Ok.pure,hy']
  by_cases hl:0<lim/\lim<=cst j.2.2.1 (sl inn)
  ·rw[zMq (by grind)]
   refine vq (by grind) (hj' _ ?_)
   rw[<-hT];cases j.2.2.1.length-k<;>(unfold trL;grind)
  ·rw[zMr (by grind),Ok.bind]
   have fA:zD (j,sp,()).1.2.2.1=(j.2.2.1.length:Int):=rfl;by_cases hkn:k<j.2.2.1.length
   ·have hd:j.2.2.1.length-k=(j.2.2.1.length-(k+1))+1:=by omega
    have e1:geI (k:Int) (zD (j,sp,()).1.2.2.1)=false:=by grind
    rw[e1];refine Ok.kD (fun _=>(Ok.yN (hj.pF aP hi.1 ho.1)).2 ?_) fun h=>nomatch h
    rw[hd]at hT;unfold trL at hT;rw[zMr hl]at hT;refine jN (fun y'=>y'=y++T) (fun j2 iJ=>?_) fun y' hy'=>hj' _ hy'
    by_cases hs:shQ (enq j) j.2.2.1 sp inn out=true
    ·rw[zMq hs]at hT
     rw[zMq (by grind)]
     grind [vq]
    ·rw[zMr hs]at hT
     rw[zMr (show ¬sel false true (shQ (enq j) j.2.2.1 sp inn out)=true from hs)]
     have htz:tz (j.2.2.1.length-k)=2 * tz (j.2.2.1.length-(k+1))+1:=by rw[hd];rfl
     refine vq (by grind) ?_
     rw[Ok.zK (ga ⟨by omega,by omega⟩),Ok.zK (ga ⟨by omega,by omega⟩),zN (by omega),ZF,ZF,Ok.bind]
     have e2:(y++[(1,(k:Int),())]).length=y.length+1:=by simp
     refine(ih (k+1) (inn.set k true) out _ (by omega) (by omega) (hi.set (by omega)) (ho.le (by omega)) (by omega)).mono ?_
     rintro r rfl;dsimp only;rw[Ok.bind];have h3:=uf (q:=enq j) (L:=j.2.2.1) (sp:=sp) (lim:=lim) (j.2.2.1.length-(k+1)) (k+1) (inn.set k true) out
     refine(ih (k+1) inn (out.set k true) _ (by omega) (by omega) (hi.le (by omega)) (ho.set (by omega)) (by grind)).mono ?_
     grind
   ·have hd:j.2.2.1.length-k=0:=by omega
    have e1:geI (k:Int) (zD (j,sp,()).1.2.2.1)=true:=by grind
    rw[e1];refine Ok.kD (fun h=>nomatch h) fun _=>?_
    rw[hd]at hT;unfold trL at hT;rw[zMr hl]at hT;refine jN (fun y'=>y'=y++T) (fun j2 iJ=>?_) fun y' hy'=>hj' _ hy'
    rw[zMq (by rfl)]
    grind [vq]
theorem PlOk.zBF{sp:List Bool}(aP:sp.length=8)(lim:Int):Ok (jk (j,sp,()) lim) fun r=>r.1=trL (enq j) j.2.2.1 sp lim j.2.2.1.length 0 z8 z8:=by
 unfold jk;rw[Ok.bind];have hn:=hj.n
 refine(hj.NR aP 40 0 z8 z8 [] (by omega) (by omega) qq qq (by grind [tz8])).mono ?_
 rintro r rfl;grind [Ok.pure]
end
end Go.Geo
end
section
namespace Go.Cvx
abbrev Q3:=Rat×Rat×Rat
abbrev Hs:=Q3×Rat
def dot(a b:Q3):Rat:=a.1 * b.1+a.2.1 * b.2.1+a.2.2 * b.2.2
def jH(a b:Q3):Q3:=(a.2.1 * b.2.2-a.2.2 * b.2.1,a.2.2 * b.1-a.1 * b.2.2,a.1 * b.2.1-a.2.1 * b.1)
def sl(h:Hs)(x:Q3):Rat:=h.2-dot h.1 x
def mv(x d:Q3)(t:Rat):Q3:=(x.1+t * d.1,x.2.1+t * d.2.1,x.2.2+t * d.2.2)
def ng(d:Q3):Q3:=(-d.1, -d.2.1, -d.2.2)
abbrev Z3:Q3:=(0,0,0)
theorem rB(g x d:Q3)(t:Rat):dot g (mv x d t)=dot g x+t * dot g d:=by unfold dot mv;grind
theorem Xf(h:Hs)(x d:Q3)(t:Rat):sl h (mv x d t)=sl h x-t * dot h.1 d:=by grind [sl,rB]
theorem rA(g d:Q3):dot g (ng d) = - dot g d:=by unfold dot ng;grind
theorem GE{a b:Rat}(ha:0<=a)(hb:0<b):0<=a / b:=by
 by_cases h:0<=a / b
 ·exact h
 ·have h1:=Rat.mul_pos (a := -(a / b)) (b:=b) (by grind) hb
  have h2:a / b * b=a:=by grind
  grind
theorem zFG{a b:Rat}(ha:0<a)(hb:0<b):0<a / b:=by
 have h:=GE (show 0<=a by grind) hb
 have h2:a / b * b=a:=by grind
 by_cases h3:a / b=0
 ·grind
 ·grind
theorem zAl{a b:Q3}(h1:a.1=b.1)(h2:a.2.1=b.2.1)(h3:a.2.2=b.2.2):a=b:=Prod.ext h1 (Prod.ext h2 h3)
theorem IB(a:Rat):0<=a * a:=by
 rcases Rat.le_total (a:=0) (b:=a) with h|h
 ·exact Rat.mul_nonneg h h
 ·have:=Rat.mul_nonneg (a := -a) (b := -a) (by grind) (by grind);grind
theorem sq_pos{a:Rat}(h:a≠0):0<a * a:=by
 have:=IB a;grind [Rat.mul_eq_zero]
theorem Hd{d:Q3}(h:d≠Z3):0<dot d d:=by
 have h1:=IB d.1;have h2:=IB d.2.1
 have h3:=IB d.2.2;unfold dot;by_cases e1:d.1=0
 ·by_cases e2:d.2.1=0
  ·by_cases e3:d.2.2=0
   ·grind
   ·have:=sq_pos e3;grind
  ·have:=sq_pos e2;grind
 ·have:=sq_pos e1;grind
theorem zBc{d:Q3}(h:d≠Z3):ng d≠Z3:=fun e=>h (by
 have e1 : -d.1=0:=zMh (·.1) e
 have e2 : -d.2.1=0:=zMh (·.2.1) e
 have e3 : -d.2.2=0:=zMh (·.2.2) e
 grind)
theorem ray{y d:Q3}:∀(r:List Hs),(∀h∈r,0<=sl h y)->(∀h∈r,dot h.1 d<=0)\/∃t,0<=t/\(∃q∈r,0<dot q.1 d/\sl q (mv y d t)=0)/\∀h∈r,0<=sl h (mv y d t)
 | [],_=>.inl fun _ h=>nomatch h
 |h::r,hy=>by
  have hs:=hy h (by simp)
  have key:∀ {t:Rat} {q:Hs},0<=t->0<=sl q y->dot q.1 d<=0->0<=sl q (mv y d t):=fun {t q} h1 h2 h3=>by
   rw[Xf];have:=Rat.mul_nonneg h1 (b := -dot q.1 d) (by grind)
   grind
  have key2:∀ {t u:Rat} {q:Hs},t<=u->0<=sl q (mv y d u)->0<=t->0<=sl q y->0<=sl q (mv y d t):=fun {t u q} h1 h2 h0 h3=>by
   by_cases h4:dot q.1 d<=0
   ·grind
   ·rw[Xf]at h2 |-
    have:=Rat.mul_nonneg (a:=u-t) (b:=dot q.1 d) (by grind) (by grind)
    grind
  rcases ray (y:=y) (d:=d) r fun q hq=>hy q (zMa _ hq) with ih|⟨t,h0,⟨q,hq,oF,dL⟩,ih⟩
  ·by_cases hd:dot h.1 d<=0
   ·grind
   ·have iB:0<dot h.1 d:=by grind
    have ht:0<=sl h y / dot h.1 d:=GE hs (by grind)
    have he:sl h (mv y d (sl h y / dot h.1 d))=0:=by rw[Xf];grind
    refine .inr ⟨sl h y / dot h.1 d,ht,⟨h,by simp,iB,he⟩,fun q hq=>?_⟩
    grind
  ·by_cases hc:0<=sl h (mv y d t)
   ·refine .inr ⟨t,h0,⟨q,by grind,oF,dL⟩,fun p hp=>?_⟩
    grind
   ·have iB:0<dot h.1 d:=by
     grind
    have ht:0<=sl h y / dot h.1 d:=GE hs (by grind)
    have he:sl h (mv y d (sl h y / dot h.1 d))=0:=by rw[Xf];grind
    have fH:sl h y / dot h.1 d<=t:=by
     grind
    refine .inr ⟨sl h y / dot h.1 d,ht,⟨h,by simp,iB,he⟩,fun p hp=>?_⟩
    grind
theorem zFu{x d:Q3}:∀(A:List Hs),(∀h∈A,0<sl h x)->∃e,0<e/\∀t,0<=t->t<=e->∀h∈A,0<sl h (mv x d t)
 | [],_=>⟨1,by decide,fun _ _ _ _ h=>nomatch h⟩
 |h::A,hx=>by
  obtain⟨e,h0,ih⟩:=zFu (d:=d) A fun q hq=>hx q (zMa _ hq)
  have hs:=hx h (by simp)
  by_cases hd:dot h.1 d<=0
  ·refine⟨e,h0,fun t t0 t1 q hq=>?_⟩
   rcases zMU.1 hq with c|c
   ·subst c
    rw[Xf];have:=Rat.mul_nonneg t0 (b := -dot q.1 d) (by grind)
    grind
   grind
  ·have iB:0<dot h.1 d:=by grind
   have hp:0<sl h x / (2 * dot h.1 d):=zFG hs (by grind)
   have hl:∀t,0<=t->t<=sl h x / (2 * dot h.1 d)->0<sl h (mv x d t):=fun t t0 t1=>by
    rw[Xf];have h1:=Rat.mul_nonneg (a:=sl h x / (2 * dot h.1 d)-t) (b:=dot h.1 d) (by grind) (by grind)
    have h2:sl h x / (2 * dot h.1 d) * dot h.1 d=sl h x / 2:=by grind
    grind
   grind
def ngH(h:Hs):Hs:=(ng h.1, -h.2)
theorem zBH(h:Hs)(x:Q3):sl (ngH h) x = - sl h x:=by unfold sl ngH ng dot;grind
theorem gen:∀(G:List Hs) {A:List Hs} {x:Q3},(∀g∈G,g.1≠Z3)->(∀h∈A,0<sl h x)->∃z,(∀h∈A,0<sl h z)/\∀g∈G,sl g z≠0
 | [],A,x,_,hx=>⟨x,hx,fun _ h=>nomatch h⟩
 |g::G,A,x,hG,hx=>by
  have h1:∃z,(∀h∈A,0<sl h z)/\sl g z≠0:=by
   by_cases h:sl g x=0
   ·obtain⟨e,e0,he⟩:=zFu (d:=g.1) A hx
    refine⟨mv x g.1 e,he e (by grind) (by grind),?_⟩
    rw[Xf,h];have h2:=Hd (hG g (by simp))
    have:=Rat.mul_pos e0 h2;grind
   grind
  obtain⟨z,hz,hg⟩:=h1;have fin:∀g',(0<sl g' z/\∀w,0<sl g' w->sl g w≠0)->∃z,(∀h∈A,0<sl h z)/\∀g0∈g::G,sl g0 z≠0:=fun g' hg'=>by
   obtain⟨w,w1,w2⟩:=gen G (A:=g'::A) (x:=z) (fun q hq=>hG q (by grind)) (fun q hq=>by
    grind)
   refine⟨w,fun q hq=>w1 q (by grind),fun q hq=>?_⟩
   grind
  by_cases hp:0<sl g z
  ·exact fin g ⟨hp,fun w h=>by grind⟩
  ·exact fin (ngH g) ⟨by grind [zBH],fun w h=>by grind [zBH]⟩
theorem J1(a b:Q3):dot a (jH a b)=0:=by unfold dot jH;grind
theorem J0(a b:Q3):dot b (jH a b)=0:=by unfold dot jH;grind
theorem qj(a b:Q3):dot a b=dot b a:=by grind [dot]
theorem R5(g d:Q3):dot (ng g) d = - dot g d:=by grind [qj,rA]
theorem zBN{n:Q3}(h:n≠Z3):∃d,d≠Z3/\dot n d=0:=by
 by_cases h1:n.1=0/\n.2.1=0
 ·refine⟨(1,0,0),by decide,?_⟩
  grind [dot]
 ·refine⟨(n.2.1, -n.1,0),fun e=>h1 ?_,by grind [dot]⟩
  grind
theorem sgn(g:Q3){d:Q3}(h:d≠Z3):∃d',d'≠Z3/\(∀n,dot n d=0->dot n d'=0)/\(∀n,dot n d'≠0->dot n d≠0)/\0<=dot g d':=by
 by_cases h1:0<=dot g d
 ·grind
 ·refine⟨ng d,zBc h,fun n hn=>by grind [rA],fun n hn=>?_,by grind [rA]⟩
  grind [rA]
theorem bac{a b d:Q3}(h:jH a b=Z3):a.1 * dot b d=b.1 * dot a d/\a.2.1 * dot b d=b.2.1 * dot a d/\a.2.2 * dot b d=b.2.2 * dot a d:=by
 have e1:a.2.1 * b.2.2-a.2.2 * b.2.1=0:=zMh (·.1) h
 have e2:a.2.2 * b.1-a.1 * b.2.2=0:=zMh (·.2.1) h
 have e3:a.1 * b.2.1-a.2.1 * b.1=0:=zMh (·.2.2) h
 grind [dot]
theorem zGI{a b d:Q3}(h:jH a b=Z3)(ha:a≠Z3)(hd:dot a d=0):dot b d=0:=by
 grind [bac,dot,zAl,Rat.mul_eq_zero]
def Fe(r:List Hs)(y:Q3):Prop:=∀h∈r,0<=sl h y
def Bdd(r:List Hs):Prop:=∀d,d≠Z3->∃h∈r,0<dot h.1 d
theorem step{r:List Hs}(hb:Bdd r){y d:Q3}(hy:Fe r y)(hd:d≠Z3):∃t,0<=t/\(∃q∈r,0<dot q.1 d/\sl q (mv y d t)=0)/\Fe r (mv y d t):=by
 rcases ray (d:=d) r hy with h|h
 ·obtain⟨q,hq,h1⟩:=hb d hd
  grind
 ·exact h
structure Vx(r:List Hs)(q1 q2 q3:Hs)(v:Q3):Prop where
 fe:Fe r v
 m1:q1∈r
 m2:q2∈r
 m3:q3∈r
 t1:sl q1 v=0
 t2:sl q2 v=0
 t3:sl q3 v=0
 dt:dot q3.1 (jH q1.1 q2.1)≠0
theorem zBE{r:List Hs}(hb:Bdd r)(g:Q3){y:Q3}(hy:Fe r y){q1:Hs}(hq:q1∈r)(ht:sl q1 y=0)(hn:q1.1≠Z3):∃v q2 q3,Vx r q1 q2 q3 v/\dot g y<=dot g v:=by
 obtain⟨d0,h0,p0⟩:=zBN hn;obtain⟨d,hd,k1,_,hg⟩:=sgn g h0;have p:=k1 _ p0
 obtain⟨t,t0,⟨q2,m2,d2,s2⟩,f2⟩:=step hb hy hd;have s1:sl q1 (mv y d t)=0:=by grind [Xf]
 have g1:dot g y<=dot g (mv y d t):=by
  rw[rB];have:=Rat.mul_nonneg t0 hg
  grind
 generalize mv y d t=y1 at s1 s2 f2 g1;have hc:jH q1.1 q2.1≠Z3:=fun e=>by
  grind [zGI]
 obtain⟨e,he,k2,k3,iR⟩:=sgn g hc;have a1:=k2 _ (J1 q1.1 q2.1)
 have a2:=k2 _ (J0 q1.1 q2.1);obtain⟨u,u0,⟨q3,m3,d3,s3⟩,f3⟩:=step hb f2 he;refine⟨mv y1 e u,q2,q3,⟨f3,hq,m2,m3,by grind [Xf],by grind [Xf],s3,k3 _ (by grind)⟩,?_⟩
 rw[rB];have:=Rat.mul_nonneg u0 iR
 grind
theorem zGP{r:List Hs}(hb:Bdd r)(g:Q3){y:Q3}(hy:Fe r y):∃v q1 q2 q3,Vx r q1 q2 q3 v/\dot g y<=dot g v:=by
 obtain⟨d,hd,_,_,hg⟩:=sgn g (show ((1,0,0):Q3)≠Z3 by decide)
 obtain⟨t,t0,⟨q1,m1,d1,s1⟩,f1⟩:=step hb hy hd;have hn:q1.1≠Z3:=fun e=>by
  grind [dot]
 obtain⟨v,q2,q3,hv,h⟩:=zBE hb g f1 m1 s1 hn;refine⟨v,q1,q2,q3,hv,?_⟩;rw[rB]at h;have:=Rat.mul_nonneg t0 hg
 grind
theorem zHh{r:List Hs}(hb:Bdd r){y:Q3}(hy:Fe r y){q:Hs}(hq:q∈r)(ht:sl q y=0)(hn:q.1≠Z3)(ho:∀p∈r,sl p y=0->jH q.1 p.1=Z3){V:List Q3}(hV:∀v q2 q3,Vx r q q2 q3 v->v∈V):3<=V.length:=by
 have key:∀g,g≠Z3->dot q.1 g=0->∃v∈V,dot g y<dot g v:=fun g hg hp=>by
  obtain⟨e,e0,he⟩:=zFu (x:=y) (d:=g) (r.filter fun p=>decide (sl p y≠0)) fun p hp=>by
   rw[List.mem_filter,decide_eq_true_iff]at hp;have:=hy p hp.1
   grind
  have f1:Fe r (mv y g e):=fun p hpm=>by
   by_cases hz:sl p y=0
   ·grind [Xf,zGI]
   grind
  obtain⟨v,q2,q3,hv,h⟩:=zBE hb g f1 hq (by grind [Xf]) hn
  refine⟨v,hV v q2 q3 hv,?_⟩;rw[rB]at h;have:=Rat.mul_pos e0 (Hd hg)
  grind
 have no:∀g,g≠Z3->dot q.1 g=0->∀u,(∀v∈V,dot g v=u)->False:=fun g hg hp u hu=>by
  obtain⟨v,hv,h1⟩:=key g hg hp;obtain⟨w,hw,h2⟩:=key (ng g) (zBc hg) (by grind [rA])
  grind [R5]
 obtain⟨g0,hg0,n8⟩:=zBN hn
 match V,no with
 | [],no=>grind
 | [v1],no=>exact(no g0 hg0 n8 (dot g0 v1) fun v h=>by grind).elim
 | [v1,v2],no =>
  exfalso;have hd:∀g,dot g (v2.1-v1.1,v2.2.1-v1.2.1,v2.2.2-v1.2.2)=0->∀v∈[v1,v2],dot g v=dot g v1:=fun g h v hv=>by
   grind [List.mem_singleton,dot]
  by_cases hc:jH q.1 (v2.1-v1.1,v2.2.1-v1.2.1,v2.2.2-v1.2.2)=Z3
  ·refine no g0 hg0 n8 _ (hd g0 ?_)
   grind [qj,zGI]
  ·refine no _ hc (J1 _ _) _ (hd _ ?_)
   grind [qj,J0]
 |_::_::_::V,_=>simp
def lin(a b:Rat)(p q:Hs):Hs:=((a * q.1.1-b * p.1.1,a * q.1.2.1-b * p.1.2.1,a * q.1.2.2-b * p.1.2.2),a * q.2-b * p.2)
theorem zCL(a b:Rat)(p q:Hs)(z:Q3):sl (lin a b p q) z=a * sl q z-b * sl p z:=by unfold sl lin dot;grind
theorem MY{a b:Rat}{p q:Hs}(ha:a≠0)(h:(lin a b p q).1=Z3):jH p.1 q.1=Z3:=by
 have e1:a * q.1.1-b * p.1.1=0:=zMh (·.1) h
 have e2:a * q.1.2.1-b * p.1.2.1=0:=zMh (·.2.1) h
 have e3:a * q.1.2.2-b * p.1.2.2=0:=zMh (·.2.2) h
 have no:∀u,a * u=0->u=0:=fun u hu=>by
  grind
 refine zAl (no _ ?_) (no _ ?_) (no _ ?_)
 ·show a * (p.1.2.1 * q.1.2.2-p.1.2.2 * q.1.2.1)=0
  grind
 ·show a * (p.1.2.2 * q.1.1-p.1.1 * q.1.2.2)=0
  grind
 ·show a * (p.1.1 * q.1.2.1-p.1.2.1 * q.1.1)=0
  grind
theorem zHc{c B:List Hs}(hb:Bdd (c++B))(hn:∀p∈c,p.1≠Z3){x:Q3}(hxB:∀h∈B,0<sl h x)(hx:∃p∈c,sl p x<0)(hz:∃z,∀h∈c++B,0<sl h z) :
  ∃q∈c,sl q x<0/\∀V:List Q3,(∀v q2 q3,Vx (c++B) q q2 q3 v->v∈V)->3<=V.length:=by
 obtain⟨z0,aA⟩:=hz;obtain⟨p0,n8,bJ⟩:=hx;obtain⟨z,hz,hg⟩:=gen ((c.flatMap fun p=>c.map fun q=>lin (sl p x) (sl q x) p q).filter fun g=>decide (g.1≠Z3)) (fun g hg=>by grind) aA
 have hgen:∀p∈c,∀q∈c,sl (lin (sl p x) (sl q x) p q) z=0->(lin (sl p x) (sl q x) p q).1=Z3:=fun p hp q hq h=>by
  grind
 have aK:Fe (c++B) z:=fun h hm=>by grind
 have hsx:∀h:Hs,sl h x=sl h z-dot h.1 (x.1-z.1,x.2.1-z.2.1,x.2.2-z.2.2):=fun h=>by unfold sl dot;grind
 generalize (x.1-z.1,x.2.1-z.2.1,x.2.2-z.2.2)=d at hsx;have hd:d≠Z3:=fun e=>by
  have h1:=hsx p0;rw[e]at h1;have h2:=hz p0 (by grind)
  have h3:dot p0.1 Z3=0:=by grind [dot]
  grind
 obtain⟨t,t0,⟨q,hq,oF,dL⟩,hf⟩:=step hb aK hd;have dJ:∀h:Hs,sl h (mv z d t)=(1-t) * sl h z+t * sl h x:=fun h=>by grind [Xf]
 generalize mv z d t=y at dL hf dJ;have ht:t<1:=by
  by_cases h:t<1
  ·exact h
  ·exfalso
   have h1:=hf p0 (by grind)
   rw[dJ]at h1;have h2:=Rat.mul_nonneg (a:=t-1) (b:=sl p0 z) (by grind) (by grind)
   have h3:=Rat.mul_pos (a:=t) (b := - sl p0 x) (by grind) (by grind)
   grind
 have tight:∀p∈c++B,sl p y=0->p∈c/\sl p x<0:=fun p hp h=>by
  rw[dJ]at h;have h1:=Rat.mul_pos (a:=1-t) (b:=sl p z) (by grind) (hz p hp)
  have h2:sl p x<0:=by
   by_cases h3:sl p x<0
   ·exact h3
   ·have:=Rat.mul_nonneg t0 (b:=sl p x) (by grind)
    grind
  grind
 obtain⟨hqc,hqx⟩:=tight q hq dL;refine⟨q,hqc,hqx,fun V hV=>zHh hb hf hq dL (hn q hqc) (fun p hp h=>?_) hV⟩
 obtain⟨hpc,hpx⟩:=tight p hp h;refine MY (a:=sl q x) (b:=sl p x) (by grind) (hgen q hqc p hpc ?_)
 grind [zCL,sl,Rat.mul_eq_zero]
theorem inner{r:List Hs}:∀(A:List Hs),(∃y,Fe r y)->(∀h∈A,h∈r/\∃v,Fe r v/\0<sl h v)->∃z,Fe r z/\∀h∈A,0<sl h z
 | [],⟨y,hy⟩,_=>⟨y,hy,fun _ h=>nomatch h⟩
 |h::A,hy,hA=>by
  obtain⟨z,z1,z2⟩:=inner A hy fun q hq=>hA q (by grind)
  obtain⟨hr,v,v1,v2⟩:=hA h (by simp)
  have hm:∀q:Hs,sl q ((z.1+v.1) / 2,(z.2.1+v.2.1) / 2,(z.2.2+v.2.2) / 2)=(sl q z+sl q v) / 2:=fun q=>by unfold sl dot;grind
  refine⟨_,fun q hq=>by rw[hm];have:=z1 q hq;have:=v1 q hq;grind,fun q hq=>?_⟩
  rw[hm];rcases zMU.1 hq with e|e
  ·subst e;have:=z1 q hr;grind
  ·have:=z2 q e
   have:=v1 q (hA q hq).1;grind
end Go.Cvx
end
section
namespace Go.Geo
open Go Go.Eng Go.Lift Go.Den Go.F
variable {α β γ δ ε σ τ:Type}
theorem MR{p q r p' q' r':Pln}(h:[p,q,r].Perm [p',q',r']):mt p q r=mt p' q' r':=Bq h
theorem lnm{l:List Pln}{x:Pln}:x∈cpc (Jm l)↔x∈l:=((CV mT).2 x).trans KT
open Cvx
def hs(p:Pln):Hs:=(((p.1.1:Int),(p.1.2.1:Int),(p.1.2.2.1:Int)),(p.2.1:Int))
def pl(x:Pnt):Q3:=((x.1:Rat) / x.2.2.2.1,(x.2.1:Rat) / x.2.2.2.1,(x.2.2.1:Rat) / x.2.2.2.1)
theorem zBI{p:Pln}(hp:okB p){x:Pnt}(hx:Bd 300000000000000 (x.1,x.2.1,x.2.2.1,()))(h0:0<x.2.2.2.1)(h1:x.2.2.2.1<=600000000000):(rm p x:Rat)=x.2.2.2.1 * Cvx.sl (hs p) (pl x):=by
 obtain⟨⟨p1,p2,p3⟩,pB⟩:=hp;obtain⟨b1,b2,b3⟩:=hx;have m1:=vA p1 b1;have m2:=vA p2 b2;have m3:=vA p3 b3
 have m4:=vA (A:=2097152) (B:=600000000000) pB (b:=x.2.2.2.1) (by omega)
 dsimp only at m1 m2 m3;have e:rm p x=p.2.1 * x.2.2.2.1-(p.1.1 * x.1+p.1.2.1 * x.2.1+p.1.2.2.1 * x.2.2.1):=by
  grind [rm,dt,r9]
 rw[e];have hw:(x.2.2.2.1:Rat)≠0:=fun h=>by
  simp_all
 unfold Cvx.sl hs pl dot;grind
theorem zEi{v:V3}{w:Int}(h:w≠0):∃g k:Int,g≠0/\k≠0/\(mkP v w).1 * g=k * v.1/\(mkP v w).2.1 * g=k * v.2.1/\(mkP v w).2.2.1 * g=k * v.2.2.1/\(mkP v w).2.2.2.1 * g=k * w/\0<(mkP v w).2.2.2.1:=by
 have hg:=qe (v:=v) h;have d1:((km v w:Nat):Int) ∣ v.1:=Int.ofNat_dvd_left.2 (Nat.dvd_trans (Nat.gcd_dvd_left _ _) (Nat.gcd_dvd_left _ _))
 have d2:((km v w:Nat):Int) ∣ v.2.1:=Int.ofNat_dvd_left.2 (Nat.dvd_trans (Nat.gcd_dvd_left _ _) (Nat.gcd_dvd_right _ _));have d3:((km v w:Nat):Int) ∣ v.2.2.1:=Int.ofNat_dvd_left.2 (Nat.dvd_trans (Nat.gcd_dvd_right _ _) (Nat.gcd_dvd_left _ _))
 have d4:((km v w:Nat):Int) ∣ w:=Int.ofNat_dvd_left.2 (Nat.dvd_trans (Nat.gcd_dvd_right _ _) (Nat.gcd_dvd_right _ _));generalize hG:((km v w:Nat):Int)=g at d1 d2 d3 d4;have hg0:0<g:=by omega
 have key:∀u:Int,0<u->g ∣ u->0<u.tdiv g:=fun u hu hd=>by
  have h1:u.tdiv g * g=u:=Int.tdiv_mul_cancel hd;by_cases h2:0<u.tdiv g
  ·exact h2
  ·have:=Int.mul_nonneg (a := -(u.tdiv g)) (b:=g) (by omega) (by omega)
   grind
 unfold mkP;dsimp only;rw[hG];by_cases hw:w<0
 ·rw[zMq hw]
  refine⟨g, -1,by omega,by decide,?_,?_,?_,?_,?_⟩
  ·rw[Int.tdiv_mul_cancel (Int.dvd_neg.2 d1)];omega
  ·rw[Int.tdiv_mul_cancel (Int.dvd_neg.2 d2)];omega
  ·rw[Int.tdiv_mul_cancel (Int.dvd_neg.2 d3)];omega
  ·rw[Int.tdiv_mul_cancel (Int.dvd_neg.2 d4)];omega
  ·exact key _ (by omega) (Int.dvd_neg.2 d4)
 ·rw[zMr hw]
  refine⟨g,1,by omega,by decide,?_,?_,?_,?_,?_⟩
  ·grind [Int.tdiv_mul_cancel]
  ·grind [Int.tdiv_mul_cancel]
  ·grind [Int.tdiv_mul_cancel]
  ·grind [Int.tdiv_mul_cancel]
  grind
theorem He(p q r:Pln):(det p q r:Rat)=dot (hs r).1 (jH (hs p).1 (hs q).1):=by
 unfold det dt cr hs dot jH;grind
theorem zEe{p q r:Pln}{x:Pnt}(h:mt p q r=some x):det p q r≠0:=fun e=>by
 simp_all [mt]
theorem zBf{p q r:Pln}{x:Pnt}(h:mt p q r=some x):0<x.2.2.2.1/\∀v:Q3,(Cvx.sl (hs p) v=0/\Cvx.sl (hs q) v=0/\Cvx.sl (hs r) v=0)↔v=pl x:=by
 have hd:=zEe h;unfold mt at h;rw[zMr hd]at h;cases h;obtain⟨g,k,g0,k0,e1,e2,e3,e4,hp⟩:=zEi (v:=num p q r) hd;refine⟨hp,fun v=>?_⟩
 generalize mkP (num p q r) (det p q r)=x at e1 e2 e3 e4 hp;have c1:(x.1:Rat) * g=k * (num p q r).1:=by exact_mod_cast e1
 have c2:(x.2.1:Rat) * g=k * (num p q r).2.1:=by exact_mod_cast e2
 have c3:(x.2.2.1:Rat) * g=k * (num p q r).2.2.1:=by exact_mod_cast e3
 have c4:(x.2.2.2.1:Rat) * g=k * (det p q r):=by exact_mod_cast e4
 have g1:(g:Rat)≠0:=by exact_mod_cast g0
 have k1:(k:Rat)≠0:=by exact_mod_cast k0
 have w1:(x.2.2.2.1:Rat)≠0:=by exact_mod_cast (show x.2.2.2.1≠0 by omega)
 have D1:(det p q r:Rat)≠0:=by exact_mod_cast hd
 have a1:(x.1:Rat) / x.2.2.2.1 * det p q r=(num p q r).1:=by grind
 have a2:(x.2.1:Rat) / x.2.2.2.1 * det p q r=(num p q r).2.1:=by grind
 have a3:(x.2.2.1:Rat) / x.2.2.2.1 * det p q r=(num p q r).2.2.1:=by grind
 have cU:pl x=((x.1:Rat) / x.2.2.2.1,(x.2.1:Rat) / x.2.2.2.1,(x.2.2.1:Rat) / x.2.2.2.1):=rfl;rw[cU];generalize (x.1:Rat) / x.2.2.2.1=u1 at a1;generalize (x.2.1:Rat) / x.2.2.2.1=u2 at a2;generalize (x.2.2.1:Rat) / x.2.2.2.1=u3 at a3;clear cU c1 c2 c3 c4 e1 e2 e3 e4 hp w1 k1 g1
 have b1:((num p q r).1:Rat)=(p.2.1:Rat) * (jH (hs q).1 (hs r).1).1+(q.2.1:Rat) * (jH (hs r).1 (hs p).1).1+(r.2.1:Rat) * (jH (hs p).1 (hs q).1).1:=by
  unfold num ad sc cr jH hs;grind
 have b2:((num p q r).2.1:Rat)=(p.2.1:Rat) * (jH (hs q).1 (hs r).1).2.1+(q.2.1:Rat) * (jH (hs r).1 (hs p).1).2.1+(r.2.1:Rat) * (jH (hs p).1 (hs q).1).2.1:=by
  unfold num ad sc cr jH hs;grind
 have b3:((num p q r).2.2.1:Rat)=(p.2.1:Rat) * (jH (hs q).1 (hs r).1).2.2+(q.2.1:Rat) * (jH (hs r).1 (hs p).1).2.2+(r.2.1:Rat) * (jH (hs p).1 (hs q).1).2.2:=by
  unfold num ad sc cr jH hs;grind
 rw[b1]at a1;rw[b2]at a2;rw[b3]at a3;have hD:=He p q r
 rw[hD]at a1 a2 a3 D1;have fB:∀s:Pln,((s.2.1:Int):Rat)=(hs s).2:=fun s=>rfl
 rw[fB,fB,fB]at a1 a2 a3;generalize hs p=P at *;generalize hs q=Q at *;generalize hs r=R at *;unfold dot jH at a1 a2 a3 D1;unfold Cvx.sl dot;grind
theorem zFe{α:Type}[DecidableEq α]:∀(r l:List α),l.Nodup->(∀x∈l,x∈r)->∃l':List α,l'.Sublist r/\l'.Perm l
 | [],l,_,h=>⟨[],List.Sublist.refl _,by
  grind⟩
 |a::r,l,hn,h=>by
  by_cases ha:a∈l
  ·obtain⟨l',h1,h2⟩:=zFe r (l.erase a) (hn.erase a) fun x hx=>by
    grind
   exact⟨a::l',h1.cons_cons a,(h2.cons a).trans (List.perm_cons_erase ha).symm⟩
  ·obtain⟨l',h1,h2⟩:=zFe r l hn fun x hx=>by
    grind
   grind
theorem D7(a:Q3):jH a a=Z3:=zAl (by show _-_=(0:Rat);grind) (by show _-_=(0:Rat);grind) (by show _-_=(0:Rat);grind)
theorem GJ{r:List Pln}(hr:∀p∈r,okB p){x:Pnt}(h:x∈crn r):(∀p,okB p->(rm p x:Rat)=x.2.2.2.1 * Cvx.sl (hs p) (pl x))/\0<x.2.2.2.1/\Fe (r.map hs) (pl x):=by
 obtain⟨hi,t,ht,hm⟩:=Ji.1 h;obtain⟨t1,t2,t3⟩:=ud ht;obtain⟨b1,d1,d2⟩:=UO (hr _ t1) (hr _ t2) (hr _ t3) hm;obtain⟨w0,_⟩:=zBf hm;have key:∀p,okB p->(rm p x:Rat)=x.2.2.2.1 * Cvx.sl (hs p) (pl x):=fun p hp=>zBI hp b1 w0 d2
 refine⟨key,w0,fun s hs'=>?_⟩
 obtain⟨p,hp,rfl⟩:=List.mem_map.1 hs';unfold ins at hi;rw[zMv]at hi;have h0:=hi p hp
 rw[decide_eq_true_iff]at h0;have h1:(0:Rat)<=(rm p x:Rat):=by exact_mod_cast h0
 rw[key p (hr p hp)]at h1;have w1:(0:Rat)<(x.2.2.2.1:Rat):=by exact_mod_cast w0
 by_cases h2:0<=Cvx.sl (hs p) (pl x)
 ·exact h2
 ·have:=Rat.mul_pos w1 (b := - Cvx.sl (hs p) (pl x)) (by grind)
  grind
theorem RC{r:List Pln}(hr:∀p∈r,okB p){q1 q2 q3:Hs}{v:Q3}(h:Vx (r.map hs) q1 q2 q3 v):∃x∈crn r,pl x=v:=by
 obtain⟨fe,m1,m2,m3,t1,t2,t3,dt⟩:=h;obtain⟨p1,n1,rfl⟩:=List.mem_map.1 m1;obtain⟨p2,n2,rfl⟩:=List.mem_map.1 m2;obtain⟨p3,n3,rfl⟩:=List.mem_map.1 m3;have fE:([p1,p2,p3]:List Pln).Nodup:=by
  simp only[List.nodup_cons,zMU,List.not_mem_nil,or_false,not_or,not_false_eq_true,List.nodup_nil,and_true];refine⟨⟨?_,?_⟩,?_⟩
  ·rintro rfl;grind [D7,dot]
  ·rintro rfl;grind [J1]
  ·rintro rfl;grind [J0]
 obtain⟨l',h1,h2⟩:=zFe r [p1,p2,p3] fE fun x hx=>by
  grind
 have fA:=h2.length_eq
 match l',fA,h1,h2 with
 | [a,b,c],_,h1,h2 =>
  have hmt:mt a b c=mt p1 p2 p3:=MR h2;have hd:det p1 p2 p3≠0:=fun e=>by
   refine dt ?_;rw[<-He,e];rfl
  have hx:mt p1 p2 p3=some (mkP (num p1 p2 p3) (det p1 p2 p3)):=by unfold mt;grind
  generalize mkP (num p1 p2 p3) (det p1 p2 p3)=x at hx;obtain⟨w0,cU⟩:=zBf hx;have hv:=(cU v).1 ⟨t1,t2,t3⟩
  obtain⟨b1,d1,d2⟩:=UO (hr _ n1) (hr _ n2) (hr _ n3) hx;refine⟨x,Ji.2 ⟨?_,(a,b,c),mH.2 h1,hmt.trans hx⟩,hv.symm⟩;unfold ins;rw[zMv];intro p hp;rw[decide_eq_true_iff];have h3:=zBI (hr p hp) b1 w0 d2
  have h4:=fe (hs p) (List.mem_map.2 ⟨p,hp,rfl⟩);rw[hv]at h4;have w1:(0:Rat)<(x.2.2.2.1:Rat):=by exact_mod_cast w0
  have h5:=Rat.mul_nonneg (show (0:Rat)<=(x.2.2.2.1:Rat) by grind) h4
  rw[<-h3]at h5
  exact_mod_cast h5
theorem Hl{c:List Pln}:Bdd ((c++bx0).map hs):=by
 intro d hd;have key:∀p∈bx0,0<dot (hs p).1 d->∃h∈(c++bx0).map hs,0<dot h.1 d:=fun p hp h=>⟨hs p,List.mem_map.2 ⟨p,List.mem_append_right _ hp,rfl⟩,h⟩
 have ne:¬(d.1=0/\d.2.1=0/\d.2.2=0):=fun ⟨h1,h2,h3⟩=>hd (zAl h1 h2 h3)
 by_cases a1:0<d.1
 ·grind [bx0,hs,dot]
 by_cases a2:d.1<0
 ·exact key ((-1,0,0,()),24,()) (by simp[bx0]) (by unfold hs dot;grind)
 by_cases a3:0<d.2.1
 ·grind [bx0,hs,dot]
 by_cases a4:d.2.1<0
 ·exact key ((0, -1,0,()),24,()) (by simp[bx0]) (by unfold hs dot;grind)
 by_cases a5:0<d.2.2
 ·exact key ((0,0,1,()),24,()) (by simp[bx0]) (by grind [hs,dot])
 by_cases a6:d.2.2<0
 ·exact key ((0,0, -1,()),24,()) (by simp[bx0]) (by unfold hs dot;grind)
 grind
def St(c:List Pln)(x:Q3):Prop:=∀p∈c,0<Cvx.sl (hs p) x
theorem St.app{a b:List Pln}{x:Q3}:St (a++b) x↔St a x/\St b x:=⟨fun h=>⟨fun p hp=>h p (by grind),fun p hp=>h p (by grind)⟩,fun h p hp=>(zMZ.1 hp).elim (h.1 p) (h.2 p)⟩
theorem St.sub{a b:List Pln}{x:Q3}(h:St a x)(hs:∀p∈b,p∈a):St b x:=fun p hp=>h p (hs p hp)
theorem St.map{a:List Pln}{x:Q3}(h:St a x):∀p∈a.map hs,0<Cvx.sl p x:=fun p hp=>by obtain⟨q,hq,rfl⟩:=List.mem_map.1 hp;exact h q hq
theorem HR{c:List Pln}(hr:∀p∈c++bx0,okB p)(h:full (c++bx0)=true):∃z,St (c++bx0) z:=by
 unfold full at h;rw[zMv]at h;have hv:∀p∈c++bx0,∃v,Fe ((c++bx0).map hs) v/\0<Cvx.sl (hs p) v:=fun p hp=>by
  have h1:=h p hp;rw[List.any_eq_true]at h1;obtain⟨x,hx,h2⟩:=h1;rw[decide_eq_true_iff]at h2;obtain⟨k1,k2,k3⟩:=GJ hr hx;refine⟨pl x,k3,?_⟩;have h3:(0:Rat)<(rm p x:Rat):=by exact_mod_cast h2
  rw[k1 p (hr p hp)]at h3;have w1:(0:Rat)<(x.2.2.2.1:Rat):=by exact_mod_cast k2
  by_cases h4:0<Cvx.sl (hs p) (pl x)
  ·exact h4
  ·have:=Rat.mul_nonneg (show (0:Rat)<=(x.2.2.2.1:Rat) by grind) (b := - Cvx.sl (hs p) (pl x)) (by grind)
   grind
 obtain⟨z,_,hz⟩:=inner ((c++bx0).map hs) (by
  obtain⟨v,h1,_⟩:=hv ((1,0,0,()),24,()) (by simp[bx0])
  exact⟨v,h1⟩) fun q hq=>by
  grind
 exact⟨z,fun p hp=>hz _ (List.mem_map.2 ⟨p,hp,rfl⟩)⟩
theorem HS{c:List Pln}(hr:∀p∈c++bx0,okB p){z:Q3}(h:St (c++bx0) z):full (c++bx0)=true:=by
 unfold full;rw[zMv];intro p hp;rw[List.any_eq_true];have aK:Fe ((c++bx0).map hs) z:=fun q hq=>by have:=h.map q hq;grind
 obtain⟨v,q1,q2,q3,hv,hg⟩:=zGP Hl (ng (hs p).1) aK;obtain⟨x,hx,e⟩:=RC hr hv;obtain⟨k1,k2,k3⟩:=GJ hr hx;refine⟨x,hx,?_⟩;rw[decide_eq_true_iff];have h1:0<Cvx.sl (hs p) (pl x):=by
  rw[e];have:=h p hp
  grind [R5,Cvx.sl]
 have w1:(0:Rat)<(x.2.2.2.1:Rat):=by exact_mod_cast k2
 have h2:=Rat.mul_pos w1 h1;rw[<-k1 p (hr p hp)]at h2
 exact_mod_cast h2
theorem Y6{c:List Pln}(h:chk c=0):ful c=true↔∃z,St c z/\St bx0 z:=by
 have hr:∀p∈c++bx0,okB p:=fun p hp=>(zMZ.1 hp).elim ((kt h).2 p) (KB p)
 have e:ful c=full (c++bx0):=by grind [ful]
 rw[e];constructor
 ·grind [HR,St.app]
 ·rintro⟨z,h1,h2⟩
  exact HS hr (St.app.2 ⟨h1,h2⟩)
theorem AH{c:Cell}(hf:ful c=true){p:Pln}:p∈ln c↔p∈c/\3<=onn p (crn (c++bx0)):=by
 unfold ln;rw[hf];show p∈cpc (Jm (fac c))↔_
 simp[lnm,fac]
theorem E6{c:Cell}(hf:ful c=false):ln c=[]:=by grind [ln]
def Vd(c:List Pln):Prop:=∀p∈c,okP p=true
theorem Vd.chk{c:List Pln}(h:Vd c)(hl:c.length<=48):chk c=0:=AQ.2 ⟨hl,zMv.2 h⟩
theorem Vd.of{c:List Pln}(h:Go.Geo.chk c=0):Vd c:=fun p hp=>zMv.1 (AQ.1 h).2 p hp
theorem Vd.ln{c:List Pln}(h:Vd c):Vd (ln c):=fun p hp=>by
 cases hf:ful c with
 |true=>exact h p ((AH hf).1 hp).1
 |false=>grind [E6]
theorem R1{p:Pln}(h:okP p=true):(hs p).1≠Z3:=fun e=>by
 unfold okP at h;simp only[zMQ,zMi]at h;have e1:(p.1.1:Rat)=0:=zMh (·.1) e
 have e2:(p.1.2.1:Rat)=0:=zMh (·.2.1) e
 have e3:(p.1.2.2.1:Rat)=0:=zMh (·.2.2) e
 simp_all [K6]
def Gn(c:List Pln)(x:Q3):Prop:=∀p∈c,Cvx.sl (hs p) x≠0
theorem Gn.sub{a b:List Pln}{x:Q3}(h:Gn a x)(hs:∀p∈b,p∈a):Gn b x:=fun p hp=>h p (hs p hp)
theorem zBm{A U:List Pln}(hU:Vd U){x:Q3}(hx:St A x):∃z,St A z/\Gn U z:=by
 obtain⟨z,h1,h2⟩:=gen (U.map hs) (A:=A.map hs) (x:=x) (fun g hg=>by obtain⟨p,hp,rfl⟩:=List.mem_map.1 hg;exact R1 (hU p hp)) hx.map
 exact⟨z,fun p hp=>h1 _ (List.mem_map.2 ⟨p,hp,rfl⟩),fun p hp=>h2 _ (List.mem_map.2 ⟨p,hp,rfl⟩)⟩
theorem DA{c:Cell}(hc:chk c=0)(hf:ful c=true){x:Q3}(hb:St bx0 x)(hg:Gn c x):St (ln c) x↔St c x:=by
 refine⟨fun h=>?_,fun h=>h.sub fun p hp=>((AH hf).1 hp).1⟩
 by_cases hx:St c x
 ·exact hx
 ·exfalso
  have hr:∀p∈c++bx0,okB p:=fun p hp=>(zMZ.1 hp).elim ((kt hc).2 p) (KB p)
  have h1:∃p∈c.map hs,Cvx.sl p x<0:=by
   unfold St at hx;simp only[Classical.not_forall]at hx;obtain⟨p,hp,h2⟩:=hx;have:=hg p hp
   grind
  obtain⟨z,z1,z2⟩:=(Y6 hc).1 hf;have em:c.map hs++bx0.map hs=(c++bx0).map hs:=(List.map_append ..).symm
  obtain⟨q,hq,oF,dL⟩:=zHc (c:=c.map hs) (B:=bx0.map hs) (by grind [Hl]) (fun p hp=>by obtain⟨p',hp',rfl⟩:=List.mem_map.1 hp;exact R1 (Vd.of hc p' hp')) hb.map h1 ⟨z,fun p hp=>by
   rw[em]at hp;exact(St.app.2 ⟨z1,z2⟩).map p hp⟩
  obtain⟨p,hp,rfl⟩:=List.mem_map.1 hq;have h3:=dL (((crn (c++bx0)).filter fun x=>decide (rm p x=0)).map pl) fun v q2 q3 hv=>by
   rw[em]at hv;obtain⟨y,hy,e⟩:=RC hr hv;refine List.mem_map.2 ⟨y,?_,e⟩;rw[List.mem_filter,decide_eq_true_iff];refine⟨hy,?_⟩;obtain⟨k1,_,_⟩:=GJ hr hy;have h4:=k1 p ((kt hc).2 p hp)
   rw[e,hv.t1]at h4;have h5:(rm p y:Rat)=0:=by grind
   exact_mod_cast h5
  rw[List.length_map]at h3;have:=h p ((AH hf).2 ⟨hp,h3⟩)
  grind
theorem Kr(p:Pln)(x:Q3):Cvx.sl (hs (vp p)) x = - Cvx.sl (hs p) x:=by
 unfold Cvx.sl hs vp dot;grind
theorem Kd{p:Pln}(h:okP p=true):okP (vp p)=true:=by
 unfold okP okN okv K6 vp at *;grind
theorem HQ{rest:Cell}{p:Pln}{fs:List Pln}(h:gM (gp rest (p::fs))=false):rest.length<48/\gM (gp (ln (rest++[p])) fs)=false/\∀Y,some Y∈gp rest (p::fs)↔(Y=ln (rest++[vp p])/\Y≠[])\/some Y∈gp (ln (rest++[p])) fs:=by
 have e:gp rest (p::fs)=if 48<=rest.length then [none] else (bif decide (ln (rest++[vp p])=[]) then [] else [some (ln (rest++[vp p]))])++gp (ln (rest++[p])) fs:=by
  grind [gp]
 rw[e]at h |-;clear e;split at h
 ·cases h
 ·rename_i hl
  rw[zMr hl];by_cases he:ln (rest++[vp p])=[]
  ·grind
  ·rw[zMs he]at h |-
   refine⟨by omega,h,fun Y=>?_⟩
   grind
theorem Vd.snoc{c:List Pln}{p:Pln}(h:Vd c)(hp:okP p=true):Vd (c++[p]):=fun q hq=>(zMZ.1 hq).elim (h q) fun h=>by grind
theorem St.snoc{c:List Pln}{p:Pln}{x:Q3}:St (c++[p]) x↔St c x/\0<Cvx.sl (hs p) x:=by
 rw[St.app];exact⟨fun h=>⟨h.1,h.2 p (by simp)⟩,fun h=>⟨h.1,fun q hq=>by grind⟩⟩
theorem Gn.snoc{c:List Pln}{p:Pln}{x:Q3}(h:Gn c x)(hp:Cvx.sl (hs p) x≠0):Gn (c++[p]) x:=fun q hq=>(zMZ.1 hq).elim (h q) fun h=>by grind
theorem zEm{c:Cell}(h:ln c≠[]):ful c=true:=by
 grind [E6]
theorem Zy{c:Cell}(hf:ful c=true):∀p∈ln c,p∈c:=fun p hp=>((AH hf).1 hp).1
theorem zBk:∀(fs:List Pln) {rest:Cell},Vd rest->Vd fs->(∃u,St rest u/\St fs u/\St bx0 u)->gM (gp rest fs)=false->∀x,Gn rest x->Gn fs x->St bx0 x->St rest x->(∃p∈fs,Cvx.sl (hs p) x<0)->∃Y,some Y∈gp rest fs/\St Y x
 | [],_,_,_,_,_,_,_,_,_,_,⟨p,hp,_⟩=>nomatch hp
 |p::fs,rest,hr,hf,⟨u,u1,u2,u3⟩,hn,x,g1,g2,xb,xr,hx=>by
  obtain⟨hl,iW,hm⟩:=HQ hn;have hp:=hf p (by simp)
  have hup:=u2 p (by simp)
  have dI:=g2 p (by simp)
  have c1:chk (rest++[p])=0:=(hr.snoc hp).chk (by grind)
  have f1:ful (rest++[p])=true:=(Y6 c1).2 ⟨u,St.snoc.2 ⟨u1,hup⟩,u3⟩;by_cases h0:Cvx.sl (hs p) x<0
  ·have c2:chk (rest++[vp p])=0:=(hr.snoc (Kd hp)).chk (by grind)
   have hxf:St (rest++[vp p]) x:=St.snoc.2 ⟨xr,by grind [Kr]⟩
   have f2:ful (rest++[vp p])=true:=(Y6 c2).2 ⟨x,hxf,xb⟩;refine⟨_,(hm _).2 (.inl ⟨rfl,fun e=>?_⟩),hxf.sub (Zy f2)⟩
   obtain⟨w,w1,w2⟩:=zBm (A:=p::bx0) (U:=rest++[vp p]) (hr.snoc (Kd hp)) (x:=u) fun q hq=>by
    rcases zMU.1 hq with c|c
    ·grind
    ·exact u3 q c
   have hw:=(DA c2 f2 (fun q hq=>w1 q (by grind)) w2).1 (by rw[e];exact fun q hq=>nomatch hq)
   have h3:=(St.snoc.1 hw).2;rw[Kr]at h3;have:=w1 p (by simp)
   grind
  ·have dF:∃q∈fs,Cvx.sl (hs q) x<0:=by
    grind
   have hxp:St (rest++[p]) x:=St.snoc.2 ⟨xr,by grind⟩
   obtain⟨Y,hY,h⟩:=zBk fs (rest:=ln (rest++[p])) (hr.snoc hp).ln (fun q hq=>hf q (by grind)) ⟨u,(St.snoc.2 ⟨u1,hup⟩).sub (Zy f1),fun q hq=>u2 q (by grind),u3⟩ iW x ((g1.snoc dI).sub (Zy f1)) (fun q hq=>g2 q (by grind)) xb (hxp.sub (Zy f1)) dF
   grind
theorem SD:∀(fs:List Pln) {rest:Cell},Vd rest->Vd fs->(∃u,St rest u/\St fs u/\St bx0 u)->gM (gp rest fs)=false->∀Y,some Y∈gp rest fs->(chk Y=0/\∃z,St Y z/\St bx0 z)/\∀x,Gn rest x->Gn fs x->St bx0 x->St Y x->St rest x/\∃p∈fs,Cvx.sl (hs p) x<0
 | [],_,_,_,_,_,Y,h=>nomatch h
 |p::fs,rest,hr,hf,⟨u,u1,u2,u3⟩,hn,Y,hY=>by
  obtain⟨hl,iW,hm⟩:=HQ hn;have hp:=hf p (by simp)
  have hup:=u2 p (by simp)
  have c1:chk (rest++[p])=0:=(hr.snoc hp).chk (by grind)
  have f1:ful (rest++[p])=true:=(Y6 c1).2 ⟨u,St.snoc.2 ⟨u1,hup⟩,u3⟩;rcases(hm Y).1 hY with ⟨rfl,fE⟩|hY
  ·have c2:chk (rest++[vp p])=0:=(hr.snoc (Kd hp)).chk (by grind)
   have f2:=zEm fE;obtain⟨z,z1,z2⟩:=(Y6 c2).1 f2;refine⟨⟨(hr.snoc (Kd hp)).ln.chk zAc.1,z,z1.sub (Zy f2),z2⟩,fun x g1 g2 xb xy=>?_⟩
   have dI:=g2 p (by simp)
   have h:=St.snoc.1 ((DA c2 f2 xb (g1.snoc (by grind [Kr]))).1 xy)
   grind [Kr]
  ·obtain⟨h1,h2⟩:=SD fs (rest:=ln (rest++[p])) (hr.snoc hp).ln (fun q hq=>hf q (by grind)) ⟨u,(St.snoc.2 ⟨u1,hup⟩).sub (Zy f1),fun q hq=>u2 q (by grind),u3⟩ iW Y hY
   refine⟨h1,fun x g1 g2 xb xy=>?_⟩
   have dI:=g2 p (by simp)
   obtain⟨h3,q,hq,h4⟩:=h2 x ((g1.snoc dI).sub (Zy f1)) (fun q hq=>g2 q (by grind)) xb xy
   have h5:=(DA c1 f1 xb (g1.snoc dI)).1 h3;grind [St.snoc]
theorem Uf{X q:Cell}(hX:chk X=0)(hq:chk q=0):apa X q=false↔∃u,St X u/\St q u/\St bx0 u:=by
 have hr:∀p∈(X++q)++bx0,okB p:=fun p hp=>by
  rcases zMZ.1 hp with hp|hp
  ·rcases zMZ.1 hp with hp|hp
   ·exact(kt hX).2 p hp
   ·exact(kt hq).2 p hp
  ·exact KB p hp
 unfold apa;rw[zMt hX,zMt hq];show (!full ((X++q)++bx0))=false↔_
 rw[Bool.not_eq_false'];constructor
 ·grind [HR,St.app]
 ·rintro⟨u,h1,h2,h3⟩
  exact HS hr (St.app.2 ⟨St.app.2 ⟨h1,h2⟩,h3⟩)
def PO(Y:Cell):Prop:=chk Y=0/\∃z,St Y z/\St bx0 z
theorem JM{Y:α}:∀ {l:List (Option α)},Y∈yY l↔some Y∈l
 | []=>by simp[yY]
 |none::l=>by simp[yY,JM (l:=l)]
 |some x::l=>by simp[yY,JM (l:=l)]
def Gq(U:List Pln)(X:Cell):Prop:=∀x,Gn U x->Gn X x
theorem zBl{U:List Pln}:∀(fs:List Pln) {rest:Cell},Gq U rest->(∀p∈fs,p∈U)->∀Y,some Y∈gp rest fs->Gq U Y
 | [],_,_,_,Y,h=>nomatch h
 |p::fs,rest,hr,hf,Y,hY=>by
  have hp:∀x,Gn U x->Cvx.sl (hs p) x≠0:=fun x hx=>hx p (hf p (by simp))
  have key:∀ {c:Cell} {q:Pln},(∀x,Gn U x->Cvx.sl (hs q) x≠0)->Gq U (ln (rest++[q])):=fun {c q} hq x hx r cN=>by
   cases hf:ful (rest++[q]) with
   |true=>exact((hr x hx).snoc (hq x hx)) r (Zy hf r cN)
   |false=>grind [E6]
  have e:gp rest (p::fs)=if 48<=rest.length then [none] else (bif decide (ln (rest++[vp p])=[]) then [] else [some (ln (rest++[vp p]))])++gp (ln (rest++[p])) fs:=by
   grind [gp]
  rw[e]at hY;split at hY
  ·grind
  ·rcases zMZ.1 hY with h|h
   ·have:Y=ln (rest++[vp p]):=by
     grind
    rw[this];exact key (c:=Y) fun x hx=>by grind [Kr]
   ·exact zBl fs (key (c:=Y) hp) (fun q hq=>hf q (by grind)) Y h
theorem mD{q x:Cell}{xs out R:List Cell}(h:wo q (x::xs) out=some R):(apa x q=true/\wo q xs (out++[x])=some R)\/(apa x q=false/\gM (gp x (ln q))=false/\wo q xs (out++yY (gp x (ln q)))=some R):=by
 grind [wo]
theorem lx{q:Cell}:∀ {xs out R:List Cell},wo q xs out=some R->∀Y∈out,Y∈R
 | [],out,R,h,Y,hY=>by
  have:some out=some R:=h;grind
 |x::xs,out,R,h,Y,hY=>by
  rcases mD h with ⟨_,h2⟩|⟨_,_,h2⟩
  ·exact lx h2 Y (by grind)
  ·exact lx h2 Y (by grind)
section
variable {q:Cell} (hq:chk q=0) (hf:ful q=true) {U:List Pln} (hU:∀p∈q,p∈U)
include hq hf hU
theorem zFK{X:Cell}(hX:PO X)(hG:Gq U X)(ha:apa X q=false)(hn:gM (gp X (ln q))=false){x:Q3}(g:Gn U x)(xb:St bx0 x)(xX:St X x)(xq:¬St q x):∃Y,some Y∈gp X (ln q)/\St Y x:=by
 obtain⟨u,u1,u2,u3⟩:=(Uf hX.1 hq).1 ha;have gq:Gn q x:=g.sub hU
 refine zBk (ln q) (Vd.of hX.1) (Vd.of hq).ln ⟨u,u1,u2.sub (Zy hf),u3⟩ hn x (hG x g) (gq.sub (Zy hf)) xb xX ?_;have h1:¬St (ln q) x:=fun h=>xq ((DA hq hf xb gq).1 h)
 unfold St at h1;simp only[Classical.not_forall]at h1;obtain⟨p,hp,h2⟩:=h1;have:=gq p (Zy hf p hp)
 grind
theorem zBD{x:Q3}(g:Gn U x)(xb:St bx0 x)(xq:¬St q x):∀ {xs out R:List Cell},(∀X∈xs,PO X/\Gq U X)->wo q xs out=some R->(∃X∈xs,St X x)->∃Y∈R,St Y x
 | [],_,_,_,_,⟨X,hX,_⟩=>nomatch hX
 |y::xs,out,R,hs,h,⟨X,hX,hx⟩=>by
  have ih:∀ {out'},wo q xs out'=some R->(X∈xs->∃Y∈R,St Y x):=fun {out'} h2 xT=>zBD g xb xq (fun Z hZ=>hs Z (by grind)) h2 ⟨X,xT,hx⟩
  rcases mD h with ⟨h1,h2⟩|⟨h1,h3,h2⟩
  ·grind [lx]
  grind [zFK,lx,JM]
theorem EZ:∀ {xs out R:List Cell},(∀X∈xs,PO X/\Gq U X)->wo q xs out=some R->∀Y∈R,Y∈out\/(PO Y/\Gq U Y)/\∃X∈xs,∀x,Gn U x->St bx0 x->St Y x->St X x/\¬St q x
 | [],out,R,_,h,Y,hY=>by
  have:some out=some R:=h;grind
 |X::xs,out,R,hs,h,Y,hY=>by
  have up:(∃Z∈xs,∀x,Gn U x->St bx0 x->St Y x->St Z x/\¬St q x)->∃Z∈X::xs,∀x,Gn U x->St bx0 x->St Y x->St Z x/\¬St q x:=fun ⟨Z,h1,h2⟩=>⟨Z,by grind,h2⟩
  obtain⟨p1,p2⟩:=hs X (by simp)
  rcases mD h with ⟨h1,h2⟩|⟨h1,h3,h2⟩
  ·rcases EZ (fun Z hZ=>hs Z (by grind)) h2 Y hY with h4|⟨h4,h5⟩
   ·rcases zMZ.1 h4 with h4|h4
    ·grind
    ·rw[List.mem_singleton.1 h4]
     refine .inr ⟨⟨p1,p2⟩,X,by simp,fun x g xb xX=>⟨xX,fun xq=>?_⟩⟩
     have:=(Uf p1.1 hq).2 ⟨x,xX,xq,xb⟩;grind
   grind
  ·rcases EZ (fun Z hZ=>hs Z (by grind)) h2 Y hY with h4|⟨h4,h5⟩
   ·rcases zMZ.1 h4 with h4|h4
    ·grind
    ·have h4:=JM.1 h4
     obtain⟨u,u1,u2,u3⟩:=(Uf p1.1 hq).1 h1;obtain⟨g1,g2⟩:=SD (ln q) (Vd.of p1.1) (Vd.of hq).ln ⟨u,u1,u2.sub (Zy hf),u3⟩ h3 Y h4;refine .inr ⟨⟨g1,zBl (ln q) p2 (fun p hp=>hU p (Zy hf p hp)) Y h4⟩,X,by simp,fun x g xb xY=>?_⟩
     obtain⟨k1,p,hp,k2⟩:=g2 x (p2 x g) ((g.sub hU).sub (Zy hf)) xb xY;refine⟨k1,fun xq=>?_⟩
     have:=xq p (Zy hf p hp);grind
   grind
end
section
variable {U:List Pln}
theorem zCA{q:Cell}(hq:chk q=0)(hU:∀p∈q,p∈U){pcs:List Cell}(hs:∀X∈pcs,PO X/\Gq U X)(h:(wth pcs q).2=0):(∀Y∈(wth pcs q).1,(PO Y/\Gq U Y)/\∃X∈pcs,∀x,Gn U x->St bx0 x->St Y x->St X x/\¬St q x)/\∀x,Gn U x->St bx0 x->¬St q x->(∃X∈pcs,St X x)->∃Y∈(wth pcs q).1,St Y x:=by
 unfold wth at h |-
 cases hf:ful q with
 |false =>
  rw[zMr (by simp)]
  grind [Y6]
 |true =>
  rw[zMq hf]at h;rw[zMq rfl]
  cases hw:wo q pcs [] with
  |none=>grind
  |some R =>
   rw[hw]at h;dsimp only at h |-;split at h
   ·cases h
   ·rename_i hl
    rw[zMr hl];dsimp only;refine⟨fun Y hY=>?_,fun x g xb xq hx=>zBD hq hf hU g xb xq hs hw hx⟩
    rcases EZ hq hf hU hs hw Y hY with h1|h1
    ·cases h1
    ·exact h1
theorem Br:∀ {s pcs:List Cell},(∀q∈s,chk q=0/\∀p∈q,p∈U)->(∀X∈pcs,PO X/\Gq U X)->(ZQ pcs s).2=0->(∀Y∈(ZQ pcs s).1,(PO Y/\Gq U Y)/\∃X∈pcs,∀x,Gn U x->St bx0 x->St Y x->St X x/\∀q∈s,¬St q x)/\∀x,Gn U x->St bx0 x->(∀q∈s,¬St q x)->(∃X∈pcs,St X x)->∃Y∈(ZQ pcs s).1,St Y x
 | [],pcs,_,hp,_=>⟨fun Y hY=>⟨hp Y hY,Y,hY,fun x _ _ h=>⟨h,fun q hq=>nomatch hq⟩⟩,fun x _ _ _ h=>h⟩
 |q::s,pcs,hs,hp,h=>by
  have e:ZQ pcs (q::s)=if (wth pcs q).2=0 then ZQ (wth pcs q).1 s else ([],(wth pcs q).2):=by
   grind [ZQ]
  rw[e]at h |-;split at h
  ·rename_i h0
   rw[zMq h0];obtain⟨w1,w2⟩:=zCA (hs q (by simp)).1 (hs q (by simp)).2 hp h0
   obtain⟨m1,m2⟩:=Br (s:=s) (pcs:=(wth pcs q).1) (fun r hr=>hs r (by grind)) (fun X hX=>(w1 X hX).1) h
   grind
  omega
end
theorem WX{c:Cell}{s:List Cell}{U:List Pln}(hU:Vd U)(hcU:∀p∈c,p∈U)(hsU:∀q∈s,∀p∈q,p∈U)(h:(mns c s).2=0):(mns c s).1=[]↔∀x,Gn U x->St bx0 x->St c x->∃q∈s,St q x:=by
 unfold mns at h |-;split at h
 ·rename_i hc
  rw[zMq hc];split at h
  ·rename_i hk
   rw[zMq hk];have hs:∀q∈s,chk q=0:=by
    grind [sck,kR]
   cases hf:ful c with
   |false =>
    rw[zMr (by simp)]
    refine⟨fun _ x _ xb xc=>?_,fun _=>rfl⟩
    grind [Y6]
   |true =>
    rw[zMq hf]at h;rw[zMq rfl];obtain⟨z,z1,z2⟩:=(Y6 hc).1 hf;obtain⟨m1,m2⟩:=Br (U:=U) (s:=s) (pcs:=[ln c]) (fun q hq=>⟨hs q hq,hsU q hq⟩) (fun X hX=>by
     rw[List.mem_singleton.1 hX];exact⟨⟨(Vd.of hc).ln.chk zAc.1,z,z1.sub (Zy hf),z2⟩,fun x hx p hp=>hx p (hcU p (Zy hf p hp))⟩) h
    constructor
    ·intro he x g xb xc
     by_cases hq:∃q∈s,St q x
     ·exact hq
     ·obtain⟨Y,hY,_⟩:=m2 x g xb (fun q dL h3=>hq ⟨q,dL,h3⟩) ⟨ln c,by simp,xc.sub (Zy hf)⟩
      grind
    ·intro ha
     refine List.eq_nil_iff_forall_not_mem.2 fun Y hY=>?_
     obtain⟨⟨⟨_,y,y1,y2⟩,_⟩,X,hX,k⟩:=m1 Y hY;obtain⟨w,w1,w2⟩:=zBm (A:=Y++bx0) hU (St.app.2 ⟨y1,y2⟩);obtain⟨w3,w4⟩:=St.app.1 w1;obtain⟨k1,k2⟩:=k w w2 w4 w3;rw[List.mem_singleton.1 hX]at k1;obtain⟨q,hq,k3⟩:=ha w w2 w4 ((DA hc hf w4 (w2.sub hcU)).1 k1);grind
  omega
 omega
theorem CX{c:Cell}{s t:List Cell}(f8:∀q∈s,q∈t)(h:(cov s c).1=true)(he:(cov t c).2=0):(cov t c).1=true:=by
 unfold cov at h he |-;simp only[zMQ,zMi]at h he |-;obtain⟨h1,h2⟩:=h;refine⟨he,?_⟩;have hc:chk c=0:=by
  grind [mns]
 have ht:∀q∈t,chk q=0:=by
  unfold mns at he;rw[zMq hc]at he;grind [sck,kR]
 have hU:Vd (c++t.flatten):=fun p hp=>by
  rcases zMZ.1 hp with hp|hp
  ·exact Vd.of hc p hp
  ·obtain⟨q,hq,hp⟩:=List.mem_flatten.1 hp
   exact Vd.of (ht q hq) p hp
 grind [List.mem_flatten,WX]
theorem qh{p:Part}{x:zu}{A B:List Cell}(tU:∀q∈A,q∈B):∀ {m i:Nat},(enR p x A i m).1=true->(enR p x B i m).2=0->(enR p x B i m).1=true
 |0,_,_,_=>rfl
 |m+1,i,h,he=>by
  unfold enR at h he |-;split at h
  ·rename_i h1
   rw[zMq h1]at he |-;exact qh tU h he
  ·rename_i h1
   rw[zMr h1]at he |-;split at h
   ·rename_i h2
    split at he
    ·rename_i h3
     rw[zMq h3];exact qh tU h he
    grind [CX,R3]
   ·cases h
theorem Qk{j:Job}{s t:List Bool}(h:jc s t):∀q∈ctS j s,q∈ctS j t:=fun q hq=>by
 unfold ctS at hq |-;rcases zMZ.1 hq with h1|h1
 ·grind
 ·obtain⟨k,hk,h2⟩:=List.mem_flatMap.1 h1
  have:=Zp.1 hk;exact List.mem_append_right _ (List.mem_flatMap.2 ⟨k,Zp.2 ⟨this.1,h k this.2⟩,h2⟩)
theorem Qf{j:Job}{s t:List Bool}(h:jc s t)(h1:(enq j s).1=true)(h2:(enq j t).2=0):(enq j t).1=true:=qh (Qk h) h1 h2
theorem GD{p:Part}{x:zu}{A:List Cell}:∀ {m i:Nat},(enR p x A i m).1=false->∃q,(i<=q/\q<i+m)/\(wt p q=2/\x.1.getD q false=false)/\(cov (nr A (cl p q)) (cl p q)).1=false/\(enR p x A i m).2=(cov (nr A (cl p q)) (cl p q)).2
 |0,_,h=>by cases h
 |m+1,i,h=>by
  unfold enR at h |-;split at h
  ·rename_i h1
   rw[zMq h1];obtain⟨q,a,b⟩:=GD h;grind
  ·rename_i h1
   rw[zMr h1];split at h
   ·rename_i h2
    rw[zMq h2];obtain⟨q,a,b⟩:=GD h;grind
   grind
theorem QQ{j:Job}(hv:PcV j.1 j.2.1){t:List Bool}(he:(enq j t).2=0)(h:(car j.1 j.2.2.1 j.2.1 (slI t)).2=0):(enq j t).1=true↔∀i,i<j.1.2.1.length->wt j.1 i=2->(car j.1 j.2.2.1 j.2.1 (slI t)).1.1.getD i false=true:=by
 have co:=GK hv h;generalize (car j.1 j.2.2.1 j.2.1 (slI t)).1=y at co;have hc:y.2.2.1=ctS j t:=by rw[co.c,<-Wu]
 constructor
 ·intro h3 i hi hw
  rcases Hb h3 i (Nat.zero_le _) (by omega) hw with g|g
  ·exact co.s i hi g
  ·cases hs:y.1.getD i false with
   |true=>rfl
   |false =>
    have:=co.v.s i hi hs;grind
 ·intro ha
  cases hq:(enq j t).1 with
  |true=>rfl
  |false =>
   exfalso;obtain⟨i,h1,⟨h2,h3⟩,h4,h5⟩:=GD hq;have h0:(enR j.1 j.2.1 (ctS j t) 0 j.1.2.1.length).2=0:=he
   rw[h0]at h5;rcases co.u i (by omega) (ha i (by omega) h2) with g|⟨A,g1,g2⟩
   ·grind
   grind [CX]
def spN(n:Nat)(inn out:List Bool)(x:Nd):Bool:=decide (x.1=1) && (decide (0<=x.2.1) && (decide (x.2.1<n) && (!B8 inn x.2.1.toNat && !B8 out x.2.1.toNat)))
def pvF(q:List Bool->Bool×Int)(L:List Eff)(sp:List Bool)(lim:Int):Nat->List Bool->List Bool->List Nd->Option (List Nd)
 |0,_,_,_=>none
 |_+1,_,_,[]=>none
 |m+1,inn,out,x::r=>if spN L.length inn out x=true then match pvF q L sp lim m (inn.set x.2.1.toNat true) out r with
   |none=>none
   |some r'=>pvF q L sp lim m inn (out.set x.2.1.toNat true) r'
  else if (x.1=2/\x.2.1=0)/\0<lim/\lim<=cst L (sl inn) then some r
  else if (x.1=3/\x.2.1=0)/\shQ q L sp inn out=true then some r else none
def pvB(j:Job)(lim:Int)(l:List Nd):Bool:=(decide (ckJ j=0) && decide (0<=lim)) && match pvF (enq j) j.2.2.1 (bgn j) lim 40 z8 z8 l with
 |some []=>true
 |_=>false
def und(inn out:List Bool):Nat:=((List.range 8).filter fun k=>!B8 inn k && !B8 out k).length
theorem GZ{inn out inn' out':List Bool}{i:Nat}(hi:i<8)(h1:B8 inn i=false/\B8 out i=false)(h2:∀k,k<8->(!B8 inn' k && !B8 out' k)=((!B8 inn k && !B8 out k) && decide (k≠i))):und inn' out'<und inn out:=by
 unfold und;have e:(List.range 8).filter (fun k=>!B8 inn' k && !B8 out' k)=((List.range 8).filter fun k=>!B8 inn k && !B8 out k).filter fun k=>decide (k≠i):=by
  simp_all [List.filter_congr,Bool.and_comm]
 rw[e,List.length_filter_lt_length_iff_exists];grind
theorem Wo{l r:List α}{at_:Nat}{x:α}(h:l.drop at_=x::r):l[at_]?=some x/\r=l.drop (at_+1)/\at_<l.length:=by
 have gF:at_<l.length:=by
  grind [List.drop_eq_nil_of_le]
 obtain⟨v,hv⟩:=zO gF;rw[drop_cons hv]at h;grind
def pvO(len:Nat):Option (List Nd)->Unit⊕Int×Unit
 |none=>.inl ()
 |some r=>.inr (((len-r.length:Nat):Int),())
section
variable {j:Job} (hj:PlOk j)
include hj
theorem PlOk.walk{sp:List Bool}(aP:sp.length=8){lim:Int}{l:List Nd}(hl:l.length<=1000000):∀(m:Nat) (inn out:List Bool) (at_:Nat),und inn out<m->Bel inn j.2.2.1.length->Bel out j.2.2.1.length->at_<=l.length ->
  Ok (kH m inn out l (j,sp,()) lim (at_:Int)) fun r=>r=pvO l.length (pvF (enq j) j.2.2.1 sp lim m inn out (l.drop at_))/\∀r',pvF (enq j) j.2.2.1 sp lim m inn out (l.drop at_)=some r'->r'=l.drop (l.length-r'.length)/\r'.length<=l.length:=by
 intro m
 induction m with
 |zero=>omega
 |succ m ih =>
  intro inn out at_ hm hi ho cL;show Ok (Z6 (kH m) inn out l (j,sp,()) lim (at_:Int)) _
  have hn:=hj.n;unfold Z6
  cases hd:l.drop at_ with
  |nil =>
   have t6:l.length<=at_:=List.drop_eq_nil_iff.1 hd;rw[zMq (by grind),Ok.pure]
   exact⟨rfl,fun r' h=>by cases h⟩
  |cons x r =>
   obtain⟨hx,hr,gF⟩:=Wo hd;rw[zMr (by grind),Ok.bind,Ok.XA hx,Ok.bind]
   have fA:zD (j,sp,()).1.2.2.1=(j.2.2.1.length:Int):=rfl;have e1:sel (sel (eqI x.1 1) (geI x.2.1 0) false) (ltI x.2.1 (zD (j,sp,()).1.2.2.1)) false=(decide (x.1=1) && (decide (0<=x.2.1) && decide (x.2.1<j.2.2.1.length))):=by
    grind
   rw[e1];have hrl:r.length<=l.length:=by grind
   have hra:r=l.drop (l.length-r.length):=by
    grind
   have tailR:∀T:Option (List Nd),T=some r->(Ok (Comp.pure (Sum.inr (((at_+1:Nat):Int),())):Comp (Unit⊕Int×Unit)) fun z=>z=pvO l.length T/\∀r',T=some r'->r'=l.drop (l.length-r'.length)/\r'.length<=l.length):=fun T hT=>by
    rw[Ok.pure,hT];refine⟨?_,fun r' h=>by grind⟩
    have:l.length-r.length=at_+1:=by grind
    show _=Sum.inr (((l.length-r.length:Nat):Int),())
    grind
   by_cases hb:(decide (x.1=1) && (decide (0<=x.2.1) && decide (x.2.1<j.2.2.1.length)))=true
   ·have hb':=hb
    simp only[zMQ,zMi]at hb';obtain⟨b1,b2,b3⟩:=hb';have eS:x.2.1.toNat<8:=by omega
    have g1:=XF hi.1 eS;have g2:=XF ho.1 eS
    rw[hb];refine Ok.kD (fun _=>(Ok.idx b2 g1).2 ?_) fun h=>nomatch h
    rw[Ok.bind];have hsp2:spN j.2.2.1.length inn out x=(!B8 inn x.2.1.toNat && !B8 out x.2.1.toNat):=by
     grind [spN]
    have hg:Ok (Comp.gd (sel true (ntB (B8 inn x.2.1.toNat)) false) (idx out x.2.1) false) fun b=>sel (sel true (ntB (B8 inn x.2.1.toNat)) false) (ntB b) false=spN j.2.2.1.length inn out x:=by
     rw[hsp2]
     cases hbi:B8 inn x.2.1.toNat with
     |true=>exact Ok.kD (fun h=>nomatch h) fun _=>rfl
     |false=>grind [Ok.kD,Ok.idx]
    refine hg.mono fun b aT=>?_
    rw[aT,vV];by_cases hs:spN j.2.2.1.length inn out x=true
    ·rw[hs,zMq rfl]
     rw[hsp2,zMQ,Bool.not_eq_true',Bool.not_eq_true']at hs;have aG:=hs
     have hB6:gz inn x.2.1 true=inn.set x.2.1.toNat true:=rfl;have hB7:gz out x.2.1 true=out.set x.2.1.toNat true:=rfl
     rw[Ok.zK (ga ⟨b2,by omega⟩),Ok.zK (ga ⟨b2,by omega⟩),hB6,hB7,zN (by omega),Ok.bind]
     have u1:und (inn.set x.2.1.toNat true) out<und inn out:=GZ eS hs fun k hk=>by
      rw[Yn hi.1 eS];grind
     have u2:und inn (out.set x.2.1.toNat true)<und inn out:=GZ eS hs fun k hk=>by
      rw[Yn ho.1 eS];grind
     have bel1:Bel (inn.set x.2.1.toNat true) j.2.2.1.length:=⟨by simp[hi.1],fun i m9=>by
      rw[Yn hi.1 eS]at m9;split at m9
      ·omega
      ·exact hi.2 i m9⟩
     have bel2:Bel (out.set x.2.1.toNat true) j.2.2.1.length:=⟨by simp[ho.1],fun i m9=>by
      rw[Yn ho.1 eS]at m9;split at m9
      ·omega
      ·exact ho.2 i m9⟩
     have es:spN j.2.2.1.length inn out x=true:=by grind
     refine(ih (inn.set x.2.1.toNat true) out (at_+1) (by omega) bel1 ho (by omega)).mono ?_
     rintro z ⟨rfl,hz⟩;rw[<-hr]at hz |-
     have eF:∀T,pvF (enq j) j.2.2.1 sp lim m (inn.set x.2.1.toNat true) out r=T->pvF (enq j) j.2.2.1 sp lim (m+1) inn out (x::r)=match T with
       |none=>none
       |some r'=>pvF (enq j) j.2.2.1 sp lim m inn (out.set x.2.1.toNat true) r':=fun T hT=>by
      conv=>lhs;unfold pvF
      grind
     cases hT:pvF (enq j) j.2.2.1 sp lim m (inn.set x.2.1.toNat true) out r with
     |none =>
      rw[eF none hT];show Ok (Comp.pure (Sum.inl ())) _
      rw[Ok.pure];exact⟨rfl,fun r' h=>by cases h⟩
     |some r1 =>
      obtain⟨q1,q2⟩:=hz r1 hT;rw[eF (some r1) hT];show Ok ((kH m inn (out.set x.2.1.toNat true) l (j,sp,()) lim ((l.length-r1.length:Nat):Int)).bind _) _
      rw[Ok.bind];refine(ih inn (out.set x.2.1.toNat true) (l.length-r1.length) (by omega) hi bel2 (by omega)).mono ?_
      rintro z ⟨rfl,iK⟩;rw[<-q1]at iK |-;have eM:(match some r1 with|none=>none|some r'=>pvF (enq j) j.2.2.1 sp lim m inn (out.set x.2.1.toNat true) r')=pvF (enq j) j.2.2.1 sp lim m inn (out.set x.2.1.toNat true) r1:=rfl
      rw[eM]
      cases hT2:pvF (enq j) j.2.2.1 sp lim m inn (out.set x.2.1.toNat true) r1 with
      |none =>
       show Ok (Comp.pure (Sum.inl ())) _
       rw[Ok.pure];exact⟨rfl,fun r' h=>by cases h⟩
      |some r2 =>
       show Ok (Comp.pure (Sum.inr (((l.length-r2.length:Nat):Int),()))) _
       rw[Ok.pure];exact⟨rfl,fun r' h=>by grind⟩
    ·have hs:spN j.2.2.1.length inn out x=false:=by grind
     have eF:pvF (enq j) j.2.2.1 sp lim (m+1) inn out (x::r)=none:=by
      conv=>lhs;unfold pvF
      grind
     rw[hs,zMr (by decide),Ok.bind,eF]
     have n2:eqI x.1 2=false:=by grind
     have n3:eqI x.1 3=false:=by grind
     rw[n2,n3];refine Ok.kD (fun h=>nomatch h) fun _=>?_
     rw[vV,zMr (by grind),Ok.bind]
     refine Ok.kD (fun h=>nomatch h) fun _=>?_
     rw[zMr (by grind),Ok.pure]
     exact⟨rfl,fun r' h=>by cases h⟩
   ·have hb:(decide (x.1=1) && (decide (0<=x.2.1) && decide (x.2.1<j.2.2.1.length)))=false:=by grind
    have hs:spN j.2.2.1.length inn out x=false:=by
     grind [spN]
    rw[hb];refine Ok.kD (fun h=>nomatch h) fun _=>?_
    rw[Ok.bind];refine Ok.kD (fun h=>nomatch h) fun _=>?_
    rw[vV,zMr (by decide),Ok.bind]
    have bS:=ql (sp:=sp) hi.1 hi.2 hj.cs;have eF:pvF (enq j) j.2.2.1 sp lim (m+1) inn out (x::r)=if (x.1=2/\x.2.1=0)/\0<lim/\lim<=cst j.2.2.1 (sl inn) then some r else if (x.1=3/\x.2.1=0)/\shQ (enq j) j.2.2.1 sp inn out=true then some r else none:=by
     conv=>lhs;unfold pvF
     grind
    rw[eF];have oJ:Ok (Comp.gd (sel (sel (eqI x.1 2) (eqI x.2.1 0) false) (gtI lim 0) false) (vX (j,sp,()) inn) (0,())) fun c=>sel (sel (sel (eqI x.1 2) (eqI x.2.1 0) false) (gtI lim 0) false) (geI c.1 lim) false=decide ((x.1=2/\x.2.1=0)/\0<lim/\lim<=cst j.2.2.1 (sl inn)):=by
     have e2:sel (sel (eqI x.1 2) (eqI x.2.1 0) false) (gtI lim 0) false=decide ((x.1=2/\x.2.1=0)/\0<lim):=by
      grind
     rw[e2];by_cases h:(x.1=2/\x.2.1=0)/\0<lim
     ·rw[zMt h]
      refine Ok.kD (fun _=>(Ok.yN bS).2 ?_) fun h=>nomatch h
      grind
     grind [Ok.kD]
    refine oJ.mono fun c hc=>?_
    rw[hc,vV];by_cases h2:(x.1=2/\x.2.1=0)/\0<lim/\lim<=cst j.2.2.1 (sl inn)
    ·rw[zMt h2,zMq rfl,zMq h2,zN (by omega)]
     grind
    ·rw[zMs h2,zMr (by decide),zMr h2,Ok.bind]
     have hsg:Ok (Comp.gd (sel (eqI x.1 3) (eqI x.2.1 0) false) (gK (j,sp,()) inn out) (false,())) fun c=>sel (sel (eqI x.1 3) (eqI x.2.1 0) false) c.1 false=decide ((x.1=3/\x.2.1=0)/\shQ (enq j) j.2.2.1 sp inn out=true):=by
      have e2:sel (eqI x.1 3) (eqI x.2.1 0) false=decide (x.1=3/\x.2.1=0):=by
       rw[Yh,Bool.eq_iff_iff,zMQ,Jl,Jl,decide_eq_true_iff]
      rw[e2];by_cases h:x.1=3/\x.2.1=0
      ·rw[zMt h]
       refine Ok.kD (fun _=>(Ok.yN (hj.pF aP hi.1 ho.1)).2 ?_) fun h=>nomatch h
       grind
      grind [Ok.kD]
     refine hsg.mono fun c hc=>?_
     rw[hc];by_cases h3:(x.1=3/\x.2.1=0)/\shQ (enq j) j.2.2.1 sp inn out=true
     ·rw[zMt h3,zMq rfl,zMq h3,zN (by omega)]
      grind
     ·rw[zMs h3,zMr (by decide),zMr h3,Ok.pure]
      exact⟨rfl,fun r' h=>by cases h⟩
end
theorem wO{j:Job}(h:SmB j){lim:Int}{l:List Nd}(hl:l.length<=1000000):(zr j lim l).val=some (pvB j lim l,()):=by
 refine Ok.val ?_;unfold zr pvB;rw[Ok.zK (vY h.s.w h.s.e)];dsimp only;by_cases hc:ckJ j=0
 ·have hj:=h.pl hc
  by_cases h0:0<=lim
  ·rw[zMr (by grind),Ok.zK (wZ hj.w hj.cl hj.n hj.sm),zMt hc,zMt h0,Ok.bind]
   dsimp only;have hn:=hj.n
   have hu:und z8 z8<40:=by decide
   refine(hj.walk (sp:=bgn j) (jA _) hl 40 z8 z8 0 hu (qq.le (Nat.zero_le _)) (qq.le (Nat.zero_le _)) (Nat.zero_le _)).mono ?_;rintro z ⟨rfl,hz⟩;rw[List.drop_zero]at hz |-
   cases hT:pvF (enq j) j.2.2.1 (bgn j) lim 40 z8 z8 l with
   |none =>
    show Ok (Comp.pure (false,())) _
    rw[Ok.pure];rfl
   |some r =>
    obtain⟨_,q2⟩:=hz r hT;show Ok (Comp.pure (eqI ((l.length-r.length:Nat):Int) (zD l),())) _
    rw[Ok.pure]
    cases r with
    |nil =>
     grind
    |cons x r =>
     grind
  ·rw[zMq (by grind),Ok.pure,zMs h0,Bool.and_false];rfl
 simp_all [YL,gJ,Ok.pure]
def bls:Nat->List (List Bool)
 |0=>[[]]
 |n+1=>(bls n).map (false::·)++(bls n).map (true::·)
theorem Hn:∀ {n:Nat} {l:List Bool},l.length=n->l∈bls n
 |0,[],_=>List.mem_singleton.2 rfl
 |n+1,b::l,h=>by
  have ih:=Hn (n:=n) (l:=l) (by grind)
  unfold bls;simp_all
def sbs(n:Nat):List (List Bool):=(bls n).map fun l=>l++List.replicate (8-n) false
theorem mV{n:Nat}{t:List Bool}(h:Bel t n)(hn:n<=8):t∈sbs n:=by
 refine List.mem_map.2 ⟨t.take n,Hn (by rw[zMl,h.1];omega),?_⟩
 refine List.ext_getElem? fun k=>?_
 by_cases hk:k<n
 ·rw[zMe (by rw[zMl,h.1];omega),List.getElem?_take,zMq hk]
 ·rw[zMf (by grind),zMl,h.1,Nat.min_eq_left hn,List.getElem?_replicate]
  split
  ·have h8:k<8:=by omega
   rw[XF h.1 h8]
   cases hb:B8 t k with
   |false=>rfl
   |true=>have:=h.2 k hb;omega
  ·rw[List.getElem?_eq_none (by rw[h.1];omega)]
def zAr(j:Job)(t:List Bool):Bool:=((decide (t.length=8) && (List.range 8).all fun k=>!B8 t k || decide (k<j.2.2.1.length)) && (alw j.2.2.1 (bgn j) t && (enq j t).1)) &&
 (sbs j.2.2.1.length).all fun u=>!alw j.2.2.1 (bgn j) u || (decide ((enq j u).2=0) && (!(enq j u).1 || (decide (cst j.2.2.1 (sl t)<cst j.2.2.1 (sl u)) || decide (u=t))))
def zAo(j:Job):Bool:=(sbs j.2.2.1.length).all fun u=>!alw j.2.2.1 (bgn j) u || (decide ((enq j u).2=0) && !(enq j u).1)
theorem Q2{j:Job}{l:List Int}{c e:Int}(h:BestR j l c e)(hc:ckJ j=0)(hn:j.2.2.1.length<=8){t:List Bool}(ht:zAr j t=true):l=slI t/\c=cst j.2.2.1 (sl t)/\e=0:=by
 unfold zAr at ht;simp only[zMQ,zMi,zMv]at ht;obtain⟨⟨⟨h1,h2⟩,h3,h4⟩,h5⟩:=ht;have hb:Bel t j.2.2.1.length:=⟨h1,fun i hi=>by
  grind [XI]⟩
 have key:∀u,Bel u j.2.2.1.length->alw j.2.2.1 (bgn j) u=true->(enq j u).2=0/\((enq j u).1=true->cst j.2.2.1 (sl t)<cst j.2.2.1 (sl u)\/u=t):=fun u hu ha=>by
  have:=h5 u (mV hu hn);grind
 cases h with
 |bad h=>omega
 |err h h' =>
  obtain⟨g1,u,g2,g3,g4⟩:=h';grind
 |non h h'=>have:=(h' t hb h3).2;grind
 |ok h h' =>
  obtain⟨u,g1,g2,g3,g4,g5,g6⟩:=h';grind
theorem WN{j:Job}{l:List Int}{c e:Int}(h:BestR j l c e)(hc:ckJ j=0)(hn:j.2.2.1.length<=8)(ht:zAo j=true):l=[]/\c=0/\e=60:=by
 unfold zAo at ht;rw[zMv]at ht;have key:∀u,Bel u j.2.2.1.length->alw j.2.2.1 (bgn j) u=true->(enq j u).2=0/\(enq j u).1=false:=fun u hu ha=>by
  grind [mV]
 cases h with
 |bad h=>omega
 |err h h' =>
  obtain⟨g1,u,g2,g3,g4⟩:=h';grind
 |non h h'=>grind
 |ok h h' =>
  obtain⟨u,g1,g2,g3,g4,g5,g6⟩:=h';grind
def trJ(j:Job)(lim:Int):List Nd:=trL (enq j) j.2.2.1 (bgn j) lim j.2.2.1.length 0 z8 z8
structure BestP(j:Job)(l:List Int)(c:Int)(p:List Nd)(e:Int):Prop where
 b:BestR j l c e
 n:p.length<=511
 p0:e=60->p=trJ j 0
 p1:e=0->0<c->p=trJ j c
theorem p6{j:Job}(h:SmB j):Ok (Zc j) fun r=>BestP j r.1 r.2.1 r.2.2.1 r.2.2.2.1:=by
 unfold Zc;rw[Ok.zK (vY h.s.w h.s.e)];dsimp only;by_cases hc:ckJ j=0
 ·have hj:=h.pl hc
  have hb:(bgn j).length=8:=jA _;have hn:=hj.n
  have bH:∀lim,(trJ j lim).length<=511:=fun lim=>zMX (uf _ _ _ _) (tz8 _ hn)
  rw[zMr (by grind),Ok.zK (wZ hj.w hj.cl hj.n hj.sm),Ok.bind]
  dsimp only;refine(hj.visit hb 40 0 z8 (-1) z8 (by omega) (by omega) qq (.inl rfl)).mono ?_
  rintro(e|⟨b,f,u⟩) hr
  ·dsimp only at hr |-
   refine AX ?_;rw[Ok.pure];have hb:=BestR.err hc hr
   refine⟨hb,Nat.zero_le _,fun he=>?_,fun he _=>zMg he hr.1⟩
   obtain⟨_,t,_,_,h2⟩:=hr;exact zMg (h2.symm.trans he) (UY hc).e.2.2
  ·dsimp only at hr |-
   have fG:∀t,Bel t j.2.2.1.length->alw j.2.2.1 (bgn j) t=true->(enq j t).2=0/\((enq j t).1=true->0<=b/\b<=cst j.2.2.1 (sl t)):=fun t t1 t2=>hr.bst t t1 t2 fun i hi=>zMg hi (by omega)
   by_cases h1:b = -1
   ·rw[zMq (by grind),Ok.bind]
    refine(hj.zBF hb 0).mono fun y hy=>?_
    refine AX ?_;rw[Ok.pure];have hN:zIx j:=fun t t1 t2=>by
     grind
    refine⟨.non hc hN,?_,fun _=>hy,fun he=>by cases he⟩
    rw[hy];exact bH 0
   ·rw[zMr (by grind)]
    rcases hr.fnd with g|⟨g1,g2,g3,g4⟩
    ·omega
    have cG:zBz j (slI f) b:=⟨f,rfl,g4,g1,g2,g3,fun t t1 t2=>by grind⟩
    by_cases h0:b=0
    ·rw[zMq (by grind)]
     refine AX ?_;rw[Ok.pure];have tC:=zCK (L:=j.2.2.1) (s:=f) (fun k hk=>(hj.cs k (g1.2 k (Zp.1 hk).2)).1) (by omega)
     have e:slI f=[]:=by grind [slI]
     rw[e,h0]at cG;exact⟨.ok hc cG,Nat.zero_le _,(fun he=>by cases he),fun _ h=>zMg (show (0:Int)<0 from h) (by omega)⟩
    ·rw[zMr (by grind),Ok.zK (JA g1.1),Ok.bind]
     refine(hj.zBF hb b).mono fun y hy=>?_
     refine AX ?_;rw[Ok.pure];refine⟨.ok hc cG,?_,(fun he=>by cases he),fun _ _=>hy⟩
     rw[hy];exact bH b
 ·rw[zMq (by grind),Ok.pure]
  exact⟨.bad hc,Nat.zero_le _,fun he=>zMg he Uc.2.2,fun he=>zMg he hc⟩
def b31(x u:Int):Cell:=[((1,0,0,()),u,()),((-1,0,0,()),-x,()),((0,1,0,()),2,()),((0,-1,0,()),0,()),((0,0,1,()),2,()),((0,0,-1,()),0,())]
def j31(L:List Eff):Job:=(([],[b31 0 2,b31 2 4,b31 4 6],[1,2,2],()),([false,false,false],[false,false,false],[],()),L,())
def e31:List Eff:=[([b31 2 4],[],3,[],()),([b31 4 6],[],4,[],()),([b31 2 4,b31 4 6],[],9,[],()),([b31 1 6],[],1,[],())]
def n31:List Eff:=[([b31 2 4],[],3,[],()),([b31 4 6],[],4,[2],()),([b31 2 4,b31 4 6],[],9,[],()),([b31 1 6],[],1,[],())]
def l31:List Eff:=[([b31 2 4],[],3,[],()),([b31 1 6],[],1,[],())]
theorem pf:y6.val=some (j31 e31,()):=by
 have h:y6.run 20=some (j31 e31,()):=by kernel_rfl
 exact YI h
theorem G9:gU.val=some (j31 n31,()):=by
 have h:gU.run 20=some (j31 n31,()):=by kernel_rfl
 exact YI h
def t31(s:List Bool):Bool×Int:=((B8 s 0 && B8 s 1) || (B8 s 2 || B8 s 3),0)
def u31(s:List Bool):Bool×Int:=(B8 s 1,0)
theorem te:(sbs 4).all (fun s=>decide (enq (j31 e31) s=t31 s))=true:=by decide +kernel
theorem tl:(sbs 2).all (fun s=>decide (enq (j31 l31) s=u31 s))=true:=by decide +kernel
theorem ce:ckJ (j31 e31)=0:=by decide +kernel
theorem cn:ckJ (j31 n31)=0:=by decide +kernel
theorem zIp:ckJ (j31 l31)=0:=by decide +kernel
theorem be:bgn (j31 e31)=[false,false,false,true,false,false,false,false]:=by decide +kernel
theorem bn:bgn (j31 n31)=[false,false,false,true,false,false,false,false]:=be
theorem bl:bgn (j31 l31)=[false,true,false,false,false,false,false,false]:=by decide +kernel
theorem zBt{L:List Eff}{n:Nat}{q:List Bool->Bool×Int}(hn:n<=8)(h:(sbs n).all (fun s=>decide (enq (j31 L) s=q s))=true){s:List Bool}(hs:Bel s n):enq (j31 L) s=q s:=by
 simp_all [mV]
theorem zLy(s:List Bool):enq (j31 n31) s=enq (j31 e31) s:=by
 have hc:ctS (j31 n31) s=ctS (j31 e31) s:=by
  unfold ctS
  congr 1
  refine zMh (fun f=>List.flatMap f (sl s)) (funext fun k=>?_)
  show (opn n31 (k:Int)).1=(opn e31 (k:Int)).1
  unfold opn
  match k with
  |0|1|2|3=>rfl
  |k+4=>rfl
 unfold enq;rw[hc];rfl
theorem pG{q q':List Bool->Bool×Int}{L:List Eff}(h:∀s,Bel s L.length->q s=q' s)(sp inn out:List Bool):shQ q L sp inn out=shQ q' L sp inn out:=by
 unfold shQ;rw[h _ (Gv (L:=L) (sp:=sp) (out:=out)).2.bel]
theorem wG{q q':List Bool->Bool×Int}{L:List Eff}(h:∀s,Bel s L.length->q s=q' s){sp:List Bool}{lim:Int}:∀(d k:Nat) (inn out:List Bool),trL q L sp lim d k inn out=trL q' L sp lim d k inn out
 |0,_,_,_=>rfl
 |d+1,k,inn,out=>by
  unfold trL;rw[pG h,wG h d,wG h d]
theorem wN{q q':List Bool->Bool×Int}{L:List Eff}(h:∀s,Bel s L.length->q s=q' s){sp:List Bool}{lim:Int}:∀(m:Nat) (inn out:List Bool) (l:List Nd),pvF q L sp lim m inn out l=pvF q' L sp lim m inn out l
 |0,_,_,_=>rfl
 |m+1,_,_,[]=>rfl
 |m+1,inn,out,x::r=>by
  unfold pvF;rw[pG h,wN h m];split
  ·cases pvF q' L sp lim m (inn.set x.2.1.toNat true) out r with
   |none=>rfl
   |some r'=>exact wN h m _ _ _
  ·rfl
def pvT(q:List Bool->Bool×Int)(L:List Eff)(sp:List Bool)(lim:Int)(l:List Nd):Bool:=match pvF q L sp lim 40 z8 z8 l with
 |some []=>true
 |_=>false
theorem UH{L:List Eff}{q:List Bool->Bool×Int}{sp:List Bool}(hc:ckJ (j31 L)=0)(hb:bgn (j31 L)=sp)(h:∀s,Bel s L.length->enq (j31 L) s=q s){lim:Int}(h0:0<=lim)(l:List Nd):pvB (j31 L) lim l=pvT q L sp lim l:=by
 unfold pvB pvT;rw[zMt hc,zMt h0,hb];show (true && _)=_
 rw[Bool.true_and];grind [j31,wN]
theorem zBG{L:List Eff}{q:List Bool->Bool×Int}{sp:List Bool}(hb:bgn (j31 L)=sp)(h:∀s,Bel s L.length->enq (j31 L) s=q s)(lim:Int):trJ (j31 L) lim=trL q L sp lim L.length 0 z8 z8:=by
 unfold trJ;rw[hb];exact wG h _ _ _ _
def ckT(q:List Bool->Bool×Int)(L:List Eff)(sp t:List Bool):Bool:=((decide (t.length=8) && (List.range 8).all fun k=>!B8 t k || decide (k<L.length)) && (alw L sp t && (q t).1)) &&
 (sbs L.length).all fun u=>!alw L sp u || (decide ((q u).2=0) && (!(q u).1 || (decide (cst L (sl t)<cst L (sl u)) || decide (u=t))))
theorem Gm{n:Nat}(hn:n<=8){u:List Bool}(h:u∈sbs n):Bel u n:=by
 unfold sbs at h;obtain⟨l,hl,rfl⟩:=List.mem_map.1 h;have key:∀(n:Nat) (l:List Bool),l∈bls n->l.length=n:=by
  intro n
  induction n with
  |zero=>intro l hl;rw[List.mem_singleton.1 (show l∈[[]] from hl)];rfl
  |succ n ih =>
   intro l hl;unfold bls at hl;grind
 have hl:=key n l hl;refine⟨by grind,fun i hi=>?_⟩
 grind [B8]
theorem zFM{L:List Eff}{q:List Bool->Bool×Int}{sp t:List Bool}(hn:L.length<=8)(hb:bgn (j31 L)=sp)(h:∀s,Bel s L.length->enq (j31 L) s=q s)(ht:Bel t L.length)(hk:ckT q L sp t=true):zAr (j31 L) t=true:=by
 unfold ckT at hk;unfold zAr;rw[hb,h t ht];show ((_ && (alw L sp t && (q t).1)) && (sbs L.length).all fun u=>!alw L sp u || (decide ((enq (j31 L) u).2=0) && (!(enq (j31 L) u).1 || (decide (cst L (sl t)<cst L (sl u)) || decide (u=t)))))=true
 rw[zMQ]at hk |-;refine⟨hk.1,?_⟩;grind [Gm]
theorem zFL{L:List Eff}{q:List Bool->Bool×Int}{sp:List Bool}(hn:L.length<=8)(hb:bgn (j31 L)=sp)(h:∀s,Bel s L.length->enq (j31 L) s=q s)(hk:((sbs L.length).all fun u=>!alw L sp u || (decide ((q u).2=0) && !(q u).1))=true):zAo (j31 L)=true:=by
 unfold zAo;rw[hb];rw[zMv]at hk |-;intro u hu;have eT:u∈sbs L.length:=hu
 rw[h u (Gm hn eT)];exact hk u eT
def s31(a b c d:Bool):List Bool:=[a,b,c,d,false,false,false,false]
def zIE:List Bool:=[false,false,false,true,false,false,false,false]
def Uo:List Bool:=[false,true,false,false,false,false,false,false]
theorem Gp{a b c d:Bool}:Bel (s31 a b c d) 4:=⟨rfl,fun i hi=>by
 by_cases h:i<4
 ·exact h
 ·exfalso
  match i,h,hi with
  |0,h,_|1,h,_|2,h,_|3,h,_=>omega
  |4,_,hi|5,_,hi|6,_,hi|7,_,hi=>cases hi
  |i+8,_,hi=>rw[XI (s:=s31 a b c d) rfl (by omega)]at hi;cases hi⟩
theorem zAh:∀s,Bel s e31.length->enq (j31 e31) s=t31 s:=fun s hs=>zBt (n:=4) (by decide) te hs
theorem zLt:∀s,Bel s n31.length->enq (j31 n31) s=t31 s:=fun s hs=>by rw[zLy];exact zAh s hs
theorem zGA:∀s,Bel s l31.length->enq (j31 l31) s=u31 s:=fun s hs=>zBt (n:=2) (by decide) tl hs
theorem zHo{L:List Eff}(h:∀x∈L,x.1.length<=2/\x.2.1.length=0/\x.2.2.2.1.length<=1):∀x∈L,SmE x:=fun x hx=>by
 obtain⟨h1,h2,h3⟩:=h x hx;exact⟨by omega,by omega,by omega⟩
theorem UC{L:List Eff}(hn:L.length<=1000000)(h:∀x∈L,x.1.length<=2/\x.2.1.length=0/\x.2.2.2.1.length<=1):SmB (j31 L):=⟨⟨by show 3<_;omega,zHo h,hn⟩,by show 3<=1000;omega⟩
theorem sme:SmB (j31 e31):=UC (by decide) (by decide +kernel)
theorem smn:SmB (j31 n31):=UC (by decide) (by decide +kernel)
theorem sml:SmB (j31 l31):=UC (by decide) (by decide +kernel)
theorem pe{lim:Int}{l:List Nd}{b:Bool}(h0:0<=lim)(hl:l.length<=1000000)(h:pvT t31 e31 zIE lim l=b):(zr (j31 e31) lim l).val=some (b,()):=by grind [wO,sme,UH,zIE,ce,be,zAh]
theorem zIM{lim:Int}{l:List Nd}{b:Bool}(h0:0<=lim)(hl:l.length<=1000000)(h:pvT u31 l31 Uo lim l=b):(zr (j31 l31) lim l).val=some (b,()):=by grind [wO,sml,UH,Uo,zIp,bl,zGA]
theorem Sg{L:List Eff}{q:List Bool->Bool×Int}{sp t:List Bool}{l:List Int}{c:Int}(hs:SmB (j31 L))(hc:ckJ (j31 L)=0)(hb:bgn (j31 L)=sp)(h:∀s,Bel s L.length->enq (j31 L) s=q s)(hn:L.length<=8)(ht:Bel t L.length)(hk:ckT q L sp t=true)(h1:slI t=l)(h2:cst L (sl t)=c)(h3:0<c)(hl:l.length<=1000000)
  (hp:pvT q L sp c (trL q L sp c L.length 0 z8 z8)=true) (cU:(ye l l).val=some (true,())):(yU (j31 L) c l).val=some (true,()):=by
 refine Ok.val ?_;unfold yU;rw[Ok.bind];refine(p6 hs).mono ?_;rintro⟨l',c',p,e,u⟩ hr;obtain⟨g1,g2,g3⟩:=Q2 hr.b hc hn (zFM hn hb h ht hk);dsimp only at g1 g2 g3;have e1:l'=l:=g1.trans h1
 have e2:c'=c:=g2.trans h2;have hp1:=hr.p1 g3 (by grind)
 have hpn:=hr.n;dsimp only at hp1 hpn |-;subst e1 e2 g3;have a1:eqI (0:Int) 0=true:=rfl
 have a2:eqI c' c'=true:=by grind
 rw[a1,a2,Ok.bind];show Ok (ye l' l') _
 rw[Ok.yN cU,Ok.bind];show Ok (zr (j31 L) c' p) _
 grind [UH,zBG,Ok.yN,wO,Ok.pure]
theorem RW{l:List Int}(hl:l.length<=1000000):(ye l l).val=some (true,()):=by
 refine Ok.val ?_;unfold ye;rw[zMr (by grind),Ok.bind]
 refine(Ok.count l.length (fun i (x:Int)=>x=(i:Int)) (P:=fun r=>r=.inl ()) rfl ?_ ?_).mono fun r hr=>by rw[hr,Ok.pure]
 ·rintro i x hi rfl
  obtain⟨b,hb⟩:=zO hi;have e:¬neI b b=true:=by grind
  rw[zMq (by grind),Ok.bind,Ok.XA hb,Ok.bind,Ok.XA hb,zMr e,Ok.pure]
  grind
 ·rintro x rfl
  simp[zj,zR,Ok.pure]
theorem zHx:(yU (j31 e31) (Int.ofNat 7) [0,1]).val=some (true,()) :=
 Sg sme ce be zAh (by decide) (Gp (a:=true) (b:=true) (c:=false) (d:=false)) (by decide +kernel) rfl (by decide) (by decide) (by decide) (by decide +kernel) (RW (by decide))
theorem zHw:(yU (j31 n31) (Int.ofNat 9) [2]).val=some (true,()) :=
 Sg smn cn bn zLt (by decide) (Gp (a:=false) (b:=false) (c:=true) (d:=false)) (by decide +kernel) rfl (by decide) (by decide) (by decide) (by decide +kernel) (RW (by decide))
theorem GP{L:List Eff}{sp:List Bool}{l:List Int}{b:Bool}(hs:SmB (j31 L))(hc:ckJ (j31 L)=0)(hb:bgn (j31 L)=sp)(hl:upB L.length (-1) l=true)(h:alw L sp (stO l)=b):(zU (j31 L) l).val=some (b,()):=by
 rw[p7 hs hc hl,hb];show some (alw L sp (stO l),())=_
 rw[h]
theorem al1:(zU (j31 e31) [0,1]).val=some (true,()):=GP sme ce be (by decide) (by decide +kernel)
theorem al2:(zU (j31 e31) [3]).val=some (false,()):=GP sme ce be (by decide) (by decide +kernel)
theorem al4:(zU (j31 n31) [0,1]).val=some (false,()):=GP smn cn bn (by decide) (by decide +kernel)
theorem Wd:lj [1,0]=false:=by decide
theorem al3:(zU (j31 e31) [1,0]).val=some (false,()):=by
 have hj:=sme.pl ce;have ho:Ok (YN (j31 e31) [1,0]) fun r=>r.2.1=false:=by
  unfold YN;rw[Ok.bind];refine(Ok.count 2 (fun i (s:Int×List Bool)=>s.1=(i:Int)/\s.2.length=8) (P:=fun r=>∃s,r=.inl s) ⟨rfl,rfl⟩ ?_ ?_).mono ?_
  ·rintro i ⟨n,s⟩ hi ⟨h1,h2⟩
   dsimp only at h1 h2;subst h1;obtain⟨k,hk⟩:=zO (xs:=([1,0]:List Int)) (k:=i) hi;have xO:k=1\/k=0:=by
    grind
   have fA:zD (j31 e31).2.2.1=4:=rfl;dsimp only;have e1:¬sel (ltI k 0) true (geI k (zD (j31 e31).2.2.1))=true:=by grind
   rw[zMq (by grind),Ok.bind,Ok.XA hk,zMr e1,Ok.zK (ga ⟨by omega,by omega⟩),Ok.pure]
   grind [gz]
  ·rintro⟨n,s⟩ ⟨h1,h2⟩
   dsimp only at h1 h2;subst h1;dsimp only;rw[zMr (by grind),Ok.pure]
   grind
  ·rintro r ⟨s,rfl⟩
   grind [Ok.zK,ky,Wd,Ok.pure]
 refine Ok.val ?_;unfold zU;rw[Ok.zK (vY sme.s.w sme.s.e)];dsimp only;rw[zMr (by grind [ce]),Ok.bind]
 refine ho.mono ?_;grind [Ok.bind,Ok.kD,Ok.pure]
theorem Ua{l:List Int}{b:Bool}(hl:upB 4 (-1) l=true)(h:t31 (stO l)=(b,0)):(yD (j31 e31) b l).val=some (true,()):=by
 unfold yD;rw[zA,CP sme ce hl,zAh _ (Gg (by decide) hl),h,zMO,Comp.zB]
 cases b<;>rfl
theorem en4:Ok (yF (j31 e31) [4]) fun r=>r.2.1=1:=by
 unfold yF;rw[Ok.zK (vY sme.s.w sme.s.e)];dsimp only;rw[zMr (by grind [ce]),Ok.bind]
 have ho:Ok (YN (j31 e31) [4]) fun r=>r.2.1=false:=by
  unfold YN;rw[Ok.bind];refine(Ok.count 1 (fun i (s:Int×List Bool)=>s.1=(i:Int)/\i=0) (P:=fun r=>∃s,r=.inr (false,s)) ⟨rfl,rfl⟩ ?_ ?_).mono ?_
  ·rintro i ⟨n,s⟩ hi ⟨h1,h2⟩
   dsimp only at h1 h2;subst h1 h2;dsimp only;have hk:([4]:List Int)[0]?=some 4:=rfl
   rw[zMq (by decide),Ok.bind,Ok.XA hk,zMq (by decide),Ok.pure]
   grind
  ·omega
  ·rintro r ⟨s,rfl⟩
   grind [Ok.pure]
 refine ho.mono ?_;rintro⟨s,b,u⟩ hb;dsimp only at hb |-;rw[hb,zMq (by rfl),Ok.pure]
theorem zEn:Ok (Zc (j31 l31)) fun r=>r.2.2.2.1=60/\r.2.2.1=trL u31 l31 Uo 0 2 0 z8 z8:=by
 refine(p6 sml).mono ?_;rintro⟨l',c',p,e,u⟩ hr;have hk:((sbs l31.length).all fun u=>!alw l31 Uo u || (decide ((u31 u).2=0) && !(u31 u).1))=true:=by decide +kernel
 obtain⟨_,_,g3⟩:=WN hr.b zIp (by decide) (zFL (by decide) bl zGA hk)
 dsimp only at g3 |-;refine⟨g3,(hr.p0 g3).trans ?_⟩;rw[zBG (sp:=Uo) bl zGA];rfl
def uL:List Nd:=[(1,2,()),(2,0,()),(1,0,()),(1,1,()),(2,0,()),(3,0,()),(3,0,())]
def zHv:List Nd:=[(1,0,()),(1,1,()),(2,0,()),(3,0,()),(1,2,()),(2,0,()),(3,0,())]
theorem uE(n:Int):(yO n).val=some ((1,n,()),()):=by grind [yO,Comp.zB]
theorem AO:yw.val=some ((2,0,()),()):=by grind [yw,Comp.zB]
theorem Yg:zp.val=some ((3,0,()),()):=by grind [zp,Comp.zB]
theorem Nq:jF.val=some (true,()):=by
 refine Ok.val ?_;unfold jF;rw[Ok.zK pf,vV];show Ok ((zU (j31 e31) [0,1]).bind _) _
 rw[Ok.zK al1,zMq rfl];show Ok ((zU (j31 e31) [3]).bind _) _
 rw[Ok.zK al2,zMq (by rfl)]
 show Ok ((zU (j31 e31) [1,0]).bind _) _
 rw[Ok.zK al3,zMq (by rfl),Ok.zK G9]
 show Ok ((zU (j31 n31) [0,1]).bind _) _
 rw[Ok.zK al4];show Ok ((yF (j31 e31) [4]).bind _) _
 rw[Ok.bind];refine en4.mono ?_;rintro⟨x,e,u⟩ he;dsimp only at he;rw[vV];show Ok ((yD (j31 e31) false [0]).bind _) _
 rw[Ok.zK (Ua (by decide) (by decide +kernel)),zMq rfl]
 show Ok ((yD (j31 e31) true [0,1]).bind _) _
 rw[Ok.zK (Ua (by decide) (by decide +kernel)),zMq rfl]
 show Ok ((yD (j31 e31) true [3]).bind _) _
 rw[Ok.zK (Ua (by decide) (by decide +kernel)),zMq rfl]
 dsimp only;rw[he,zMq (by decide)]
 show Ok ((yU (j31 e31) (Int.ofNat 7) [0,1]).bind _) _
 rw[Ok.zK zHx,zMq rfl,Ok.zK G9];show Ok ((yU (j31 n31) (Int.ofNat 9) [2]).bind _) _
 rw[Ok.zK zHw,Ok.zK pf];have i0:(j31 e31).2.2.1[0]?=some ([b31 2 4],[],3,[],()):=rfl
 have i3:(j31 e31).2.2.1[3]?=some ([b31 1 6],[],1,[],()):=rfl;show Ok ((idx (j31 e31).2.2.1 0).bind _) _
 rw[Ok.bind,Ok.idx (by decide) i0]
 show Ok ((idx (j31 e31).2.2.1 3).bind _) _
 rw[Ok.bind,Ok.idx (by decide) i3]
 show Ok ((Zc (j31 l31)).bind _) _
 rw[Ok.bind];refine zEn.mono ?_;rintro⟨l',c',p,e,u⟩ ⟨h60,hp⟩;dsimp only at h60 hp |-;subst h60;rw[Ok.bind];show Ok (zr (j31 l31) (Int.ofNat 0) p) _
 have cU:p.length<=1000000:=by rw[hp];decide +kernel
 rw[Ok.yN (zIM (b:=true) (by decide) cU (by rw[hp];decide +kernel)),Ok.bind]
 show Ok zp _
 rw[Ok.yN Yg,Ok.bind];show Ok (zr (j31 l31) (Int.ofNat 0) [(3,0,())]) _
 rw[Ok.yN (zIM (b:=true) (by decide) (by decide) (by decide +kernel)),Ok.bind]
 show Ok zp _
 rw[Ok.yN Yg,Ok.bind];show Ok (zr (j31 e31) (Int.ofNat 0) [(3,0,())]) _
 rw[Ok.yN (pe (b:=false) (by decide) (by decide) (by decide +kernel))]
 rw[Ok.zK (uE 2),Ok.zK AO,Ok.zK (uE 0),Ok.zK (uE 1),Ok.zK AO,Ok.zK Yg,Ok.zK Yg,Ok.zK (uE 0),Ok.zK (uE 1),Ok.zK AO,Ok.zK Yg,Ok.zK (uE 2),Ok.zK AO,Ok.zK Yg];show Ok ((zr (j31 e31) (Int.ofNat 7) uL).bind _) _
 rw[Ok.zK (pe (b:=true) (by decide) (by decide) (by decide +kernel))]
 show Ok ((zr (j31 e31) (Int.ofNat 7) zHv).bind _) _
 rw[Ok.zK (pe (b:=false) (by decide) (by decide) (by decide +kernel))]
 show Ok ((zr (j31 e31) (Int.ofNat 8) uL).bind _) _
 rw[Ok.zK (pe (b:=false) (by decide) (by decide) (by decide +kernel))]
 show Ok ((sub uL 0 6).bind _) _
 rw[Ok.bind,Ok.sub (by decide)]
 show Ok ((zr (j31 e31) (Int.ofNat 7) ((uL.take 6).drop 0)).bind _) _
 rw[Ok.zK (pe (b:=false) (by decide) (by decide) (by decide +kernel))]
 show Ok ((app [] uL).bind _) _
 refine vq (by decide) ?_
 rw[Ok.zK Yg];refine vq (by decide) ?_
 show Ok ((zr (j31 e31) (Int.ofNat 7) (uL++[(3,0,())])).bind _) _
 rw[Ok.zK (pe (b:=false) (by decide) (by decide) (by decide +kernel)),Ok.pure]
 rfl
theorem zHu:∀b:Fin 256,∀k:Fin 16,eqI (U5 .i64 (Uq .i64 ((b.val:Nat):Int) ((k.val:Nat):Int)) 1) 1=Nat.testBit b.val k.val:=by decide +kernel
theorem zCN{k:IntKind}{b:Int}{i:Nat}:(Ur k b (i:Int)).val=some (Uq k b (i:Int)):=by
 simp[Ur]
theorem zFP{b:Int}(hb:0<=b/\b<256){i:Nat}(hi:i<16):eqI (U5 .i64 (Uq .i64 b (i:Int)) 1) 1=bt b i:=by
 have h:=zHu ⟨b.toNat,by omega⟩ ⟨i,hi⟩
 dsimp only at h;rw[show ((b.toNat:Nat):Int)=b by omega]at h
 exact h
theorem u8_in{n:Int}(h:0<=n/\n<256):IntKind.wrap .u8 n=n:=by
 grind [IntKind.wrap,IntKind.bits,IntKind.signed]
theorem or8{a b:Int}(ha:0<=a/\a<256)(hb:0<=b/\b<256):orB .u8 a b=((a.toNat ||| b.toNat:Nat):Int):=by
 show IntKind.wrap .u8 (((BitVec.ofInt 8 a ||| BitVec.ofInt 8 b:BitVec 8).toNat:Nat):Int)=_
 have e1:BitVec.ofInt 8 a=BitVec.ofNat 8 a.toNat:=by
  grind
 have e2:BitVec.ofInt 8 b=BitVec.ofNat 8 b.toNat:=by
  grind
 rw[e1,e2,BitVec.toNat_or,BitVec.toNat_ofNat,BitVec.toNat_ofNat,Nat.mod_eq_of_lt (by omega),Nat.mod_eq_of_lt (by omega)]
 have:=Nat.or_lt_two_pow (x:=a.toNat) (y:=b.toNat) (n:=8) (by omega) (by omega)
 grind [u8_in]
theorem zCY{a b:Int}(ha:0<=a/\a<256)(hb:0<=b/\b<256):0<=orB .u8 a b/\orB .u8 a b<256:=by
 rw[or8 ha hb];have:=Nat.or_lt_two_pow (x:=a.toNat) (y:=b.toNat) (n:=8) (by omega) (by omega)
 omega
theorem Rb{a b:Int}(ha:0<=a/\a<256)(hb:0<=b/\b<256)(k:Nat):bt (orB .u8 a b) k=(bt a k || bt b k):=by
 simp_all [bt,or8]
theorem qT{b:Int}(hb:0<=b/\b<256)(xs:List α)(hn:xs.length<=8):(vH b (zD xs)).val=some (btL b xs.length,()):=by
 refine Ok.val ?_;unfold vH;rw[Ok.bind];refine(Ok.count xs.length (fun i (x:List Int×Int)=>x.2=(i:Int)/\x.1=((List.range i).filter (bt b)).map fun k:Nat=>(k:Int)) (P:=fun r=>r=btL b xs.length) ⟨rfl,rfl⟩ ?_ ?_).mono fun r hr=>by rw[Ok.pure,hr]
 ·rintro i ⟨l,m⟩ hi ⟨h1,h2⟩
  dsimp only at h1 h2;subst h1 h2;have fH:=List.length_filter_le (bt b) (List.range i)
  rw[List.length_range]at fH;dsimp only;rw[zMq (by grind),Ok.bind,Ok.yN zCN,zFP hb (by omega)]
  refine jN (fun y=>y=((List.range (i+1)).filter (bt b)).map fun k:Nat=>(k:Int)) (fun j hj=>?_) fun y hy=>?_
  ·grind [vq,List.range_succ]
  grind [Ok.pure]
 simp_all [zj,zR,Ok.pure,btL]
theorem zHq(l:List (List Int)):Ok (kO l) fun _=>True:=by
 unfold kO;rw[Ok.bind];refine(Ok.loop (fun s:List (List Int)×Int=>0<=s.2/\s.2<=7/\(s.1.length:Int)<=s.2) (fun s=>(7-s.2).toNat)
  (P:=fun _=>True) ?_ ?_).mono fun R _=>by grind [Ok.pure]
 ·grind
 ·rintro⟨m,i⟩ ⟨h1,h2,h3⟩
  dsimp only at h1 h2 h3 |-;split
  ·rename_i hc
   obtain⟨c1,c2⟩:=Cu hc;rw[zj]at c1 c2;rw[zR]at c1;obtain⟨z,hz⟩:=zO (xs:=l) (k:=i.toNat) (by omega)
   rw[Ok.bind,Ok.idx h1 hz,Ok.bind,Ok.idx h1 hz];refine rH ⟨by decide,by grind [YP],by grind [YP]⟩ fun ys _=>?_
   grind [vq,Ok.pure]
  grind [Ok.pure]
theorem Qv{p:Part}{L:List Eff}{x:zu}{k:Int}{l:List Int}:car p L x (k::l)=if k<0\/(L.length:Int)<=k then (zP,1) else if (apl p x (opn L k).1 (opn L k).2.1).2=0 then car p L (apl p x (opn L k).1 (opn L k).2.1).1 l else (zP,(apl p x (opn L k).1 (opn L k).2.1).2):=rfl
theorem zFF{j:Job}{l:List Int}(hw:j.1.2.2.1.length<9223372036854775807)(hs:∀x∈j.2.2.1,SmE x)(hl:l.length<=1000000)(hu:∀k∈l,0<=k/\k<j.2.2.1.length):(gv j l).val=some ((car j.1 j.2.2.1 j.2.1 l).1,(car j.1 j.2.2.1 j.2.1 l).2,()):=by
 refine Ok.val ?_;unfold gv;rw[Ok.bind];refine(Ok.count l.length (fun i (s:Int×zu×zu)=>s.1=(i:Int)/\s.2.1=zP/\car j.1 j.2.2.1 j.2.1 l=car j.1 j.2.2.1 s.2.2 (l.drop i)) (P:=fun r:zu×zu⊕Int×zu=>match r with|.inl y=>car j.1 j.2.2.1 j.2.1 l=(y.2,0)|.inr e=>car j.1 j.2.2.1 j.2.1 l=(e.2,e.1)) ⟨rfl,rfl,rfl⟩ ?_ ?_).mono ?_
 ·rintro i ⟨n,z,x⟩ hi ⟨h1,h2,h3⟩
  dsimp only at h1 h2 h3;subst h1 h2;obtain⟨k,hk⟩:=zO hi;have hr:=hu k (zMV hk)
  rw[drop_cons hk,Qv,zMr (by omega)]at h3
  dsimp only;have bM:=zCZ hs k
  rw[zMq (by grind),Ok.bind,Ok.XA hk,Ok.bind,Ok.yN (Kt ⟨by omega,by omega⟩),Ok.bind,Ok.yN (Kt ⟨by omega,by omega⟩),Ok.zK (Mq hw (zMX bM.1 (by decide)) (zMX bM.2.1 (by decide)))]
  dsimp only;by_cases he:(apl j.1 x (opn j.2.2.1 k).1 (opn j.2.2.1 k).2.1).2=0
  ·rw[zMq he]at h3
   rw[zMr (by grind),Ok.pure]
   grind
  ·rw[zMr he]at h3
   rw[zMq (by grind),Ok.pure]
   exact h3
 ·rintro⟨n,z,x⟩ ⟨h1,h2,h3⟩
  dsimp only at h1 h2 h3;subst h1 h2;rw[List.drop_length]at h3;dsimp only;rw[zMr (by grind),Ok.pure]
  exact h3
 grind [Ok.pure]
theorem JobOk.smB{j:Job}(hj:JobOk j):SmB j:=⟨hj.sm,by have:=hj.p.1.1;omega⟩
theorem Ij{b:Int}{n k:Nat}(hn:n<=8):B8 (stO (btL b n)) k=true↔k<n/\bt b k=true:=by
 grind [S8,rD,W8]
theorem Mr{j:Job}{a b c:Int}(hn:j.2.2.1.length<=8)(hc:∀k,bt c k=(bt a k || bt b k))(h1:alw j.2.2.1 (bgn j) (stO (btL a j.2.2.1.length))=true)(h2:alw j.2.2.1 (bgn j) (stO (btL b j.2.2.1.length))=true):alw j.2.2.1 (bgn j) (stO (btL c j.2.2.1.length))=true:=by
 rw[lU Kp]at h1 h2 |-;have hm:∀k,B8 (stO (btL c j.2.2.1.length)) k=true↔B8 (stO (btL a j.2.2.1.length)) k=true\/B8 (stO (btL b j.2.2.1.length)) k=true:=fun k=>by
  rw[Ij hn,Ij hn,Ij hn,hc k,zMo];grind
 refine⟨fun k hk=>((hm k).1 hk).elim (h1.1 k) (h2.1 k),fun k hk q hq=>?_⟩
 rcases(hm k).1 hk with g|g
 ·exact(hm _).2 (.inl (h1.2 k g q hq))
 ·exact(hm _).2 (.inr (h2.2 k g q hq))
theorem Mb(x:List (List Int)){a b:Int}(ha:0<=a/\a<256)(hb:0<=b/\b<256):Ok (jT x a b) fun r=>r.1=true:=by
 unfold jT;rw[Ok.zK Nq,Ok.bind];refine(zHq x).mono fun R _=>?_
 rw[Ok.bind];refine(Wc R.1).mono ?_;rintro⟨j,u⟩ ⟨hj,h1⟩;dsimp only at hj h1 |-;have hn:=hj.n
 have hl:=hj.p.1.1;have hs:=hj.smB
 have ho:=zCY ha hb;have c1:rU .i64 a=a:=r9 (by omega)
 have c2:rU .i64 b=b:=r9 (by omega)
 have c3:rU .i64 (orB .u8 a b)=orB .u8 a b:=r9 (by omega)
 rw[c1,c2,c3,Ok.zK (qT ha j.2.2.1 hn),Ok.zK (qT hb j.2.2.1 hn),Ok.zK (qT ho j.2.2.1 hn)];dsimp only;show Ok ((zU j (btL a j.2.2.1.length)).bind _) _
 by_cases hc:ckJ j=0
 ·have hv:=hj.v
  have A:∀c:Int,(zU j (btL c j.2.2.1.length)).val=some (alw j.2.2.1 (bgn j) (stO (btL c j.2.2.1.length)),()):=fun c=>p7 hs hc rD
  have E:∀c:Int,(yF j (btL c j.2.2.1.length)).val=some ((enq j (stO (btL c j.2.2.1.length))).1,(enq j (stO (btL c j.2.2.1.length))).2,()):=fun c=>CP hs hc rD
  rw[Ok.zK (A a),Ok.bind];dsimp only;have g2:Ok (Comp.gd (alw j.2.2.1 (bgn j) (stO (btL a j.2.2.1.length))) (zU j (btL b j.2.2.1.length)) (false,())) fun y=>sel (alw j.2.2.1 (bgn j) (stO (btL a j.2.2.1.length))) y.1 false=true->alw j.2.2.1 (bgn j) (stO (btL (orB .u8 a b) j.2.2.1.length))=true:=by
   cases h:alw j.2.2.1 (bgn j) (stO (btL a j.2.2.1.length)) with
   |false=>grind [Ok.kD]
   |true=>exact Ok.kD (fun _=>(Ok.yN (A b)).2 fun h2=>Mr hn (Rb ha hb) h h2) fun h=>nomatch h
  refine g2.mono fun y hy=>?_
  rw[Ok.bind];generalize hz:sel (alw j.2.2.1 (bgn j) (stO (btL a j.2.2.1.length))) y.1 false=z at hy;have g3:Ok (Comp.gd z (zU j (btL (orB .u8 a b) j.2.2.1.length)) (false,())) fun y3=>sel z (ntB y3.1) false=false:=by
   cases z with
   |false=>exact Ok.kD (fun h=>nomatch h) fun _=>rfl
   |true=>exact Ok.kD (fun _=>(Ok.yN (A _)).2 (by grind)) fun h=>nomatch h
  refine g3.mono fun y3 hy3=>?_
  rw[hy3,zMr (by decide)]
  show Ok ((yF j (btL a j.2.2.1.length)).bind _) _
  rw[Ok.zK (E a)];dsimp only;show Ok ((yF j (btL (orB .u8 a b) j.2.2.1.length)).bind _) _
  rw[Ok.zK (E _)];dsimp only;by_cases he:(enq j (stO (btL a j.2.2.1.length))).2≠0\/(enq j (stO (btL (orB .u8 a b) j.2.2.1.length))).2≠0
  ·simp_all [YL,gJ,Ok.pure]
  ·rw[zMr (by grind)]
   simp only[not_or,Decidable.not_not]at he;obtain⟨bX,dY⟩:=he;have c6:jc (stO (btL a j.2.2.1.length)) (stO (btL (orB .u8 a b) j.2.2.1.length)):=fun k hk=>by
    rw[Ij hn]at hk |-;rw[Rb ha hb,hk.2];grind
   have eD:¬sel (enq j (stO (btL a j.2.2.1.length))).1 (ntB (enq j (stO (btL (orB .u8 a b) j.2.2.1.length))).1) false=true:=by
    rw[Yh,zMQ,yV,Bool.not_eq_true'];grind [Qf]
   rw[zMr eD];show Ok ((gv j (btL a j.2.2.1.length)).bind _) _
   rw[Ok.zK (zFF hj.p.w hj.sm.e (zMX W9 (by decide)) fun k hk=>by have:=YJ (rD (b:=a) (n:=j.2.2.1.length)) k hk;omega)]
   dsimp only;have hsl:slI (stO (btL a j.2.2.1.length))=btL a j.2.2.1.length:=Gk hn rD
   by_cases hg:(car j.1 j.2.2.1 j.2.1 (btL a j.2.2.1.length)).2=0
   ·have co:=GK hv hg
    have hmi:=QQ hv (t:=stO (btL a j.2.2.1.length)) bX (by grind)
    rw[hsl]at hmi;generalize (car j.1 j.2.2.1 j.2.1 (btL a j.2.2.1.length)).1=y at co hmi;rw[hg];obtain⟨f1,f2,f3,f4⟩:=CI co.v.f;obtain⟨x1,x2,x3,x4⟩:=CI hv.f;have hwl:=hj.p.2.2
    rw[zMr (by grind),Ok.bind]
    refine(Ok.count j.1.2.2.1.length (fun i (s:Bool×Int)=>s.2=(i:Int)/\(s.1=true↔∀k,k<i->wt j.1 k=2->y.1.getD k false=true)) (P:=fun r:Bool⊕Bool=>match r with|.inl v=>v=true↔∀k,k<j.1.2.1.length->wt j.1 k=2->y.1.getD k false=true|.inr _=>False) ⟨rfl,?_⟩ ?_ ?_).mono ?_
    ·grind
    ·rintro i ⟨v,m⟩ hi ⟨k1,k2⟩
     dsimp only at k1 k2;subst k1;dsimp only;obtain⟨wv,oK⟩:=zO hi;obtain⟨sv,hsv⟩:=zO (xs:=y.1) (k:=i) (by omega)
     obtain⟨tv,htv⟩:=zO (xs:=y.2.1) (k:=i) (by omega)
     obtain⟨ov,hov⟩:=zO (xs:=j.2.1.2.1) (k:=i) (by omega)
     have ew:wt j.1 i=wv:=je oK;have es:y.1.getD i false=sv:=je hsv
     rw[zMq (by grind),Ok.bind,Ok.XA oK,Ok.bind]
     have gA:Ok (Comp.gd (adB (ntB (neI wv 2)) v) (idx y.1 (i:Int)) false) fun b8=>(sel v (sel (neI wv 2) true b8) false=true↔v=true/\(wv=2->sv=true)):=by
      by_cases hw2:wv=2
      ·have e1:neI wv 2=false:=by grind
       rw[e1]
       cases v with
       |true=>exact Ok.kD (fun _=>(Ok.XA hsv).2 ⟨fun h=>⟨rfl,fun _=>h⟩,fun h=>h.2 hw2⟩) fun h=>nomatch h
       |false=>grind [Ok.kD]
      ·have e1:neI wv 2=true:=by grind
       rw[e1];refine Ok.kD (fun h=>nomatch h) fun _=>?_
       grind
     refine gA.mono fun b8 hb8=>?_
     rw[Ok.bind];have gB:Ok (Comp.gd (eqI wv 1) (zU j (btL a j.2.2.1.length)) (false,())) fun y9=>sel (eqI wv 1) y9.1 false=true->tv=ov:=by
      by_cases hw1:wv=1
      ·have e1:eqI wv 1=true:=by grind
       rw[e1];refine Ok.kD (fun _=>(Ok.yN (A a)).2 fun h=>?_) fun h=>nomatch h
       have h:alw j.2.2.1 (bgn j) (stO (btL a j.2.2.1.length))=true:=h;have aP:=zAK Kp h
       rw[hsl]at aP;have hiN:i<j.1.2.1.length:=by omega
       cases htb:tv with
       |false =>
        cases aV:ov with
        |false=>rfl
        |true =>
         have:=co.r i hiN (by grind)
         grind
       |true =>
        rcases co.t i hiN (by grind) with g|⟨k,hk,g⟩
        ·grind
        grind [VZ]
      ·have e1:eqI wv 1=false:=by grind
       grind [Ok.kD]
     refine gB.mono fun y9 hy9=>?_
     generalize sel (eqI wv 1) y9.1 false=z9 at hy9;have fin:Ok (Comp.pure (.next (sel v (sel (neI wv 2) true b8) false,zH .i64 (i:Int) 1)):Comp (Comp.Step (Bool×Int) (Bool⊕Bool))) (fun t=>match t with|.next s'=>s'.2=((i+1:Nat):Int)/\(s'.1=true↔∀k,k<i+1->wt j.1 k=2->y.1.getD k false=true)|.done r=>match r with|.inl v=>v=true↔∀k,k<j.1.2.1.length->wt j.1 k=2->y.1.getD k false=true|.inr _=>False):=by
      rw[Ok.pure];grind
     rw[Ok.bind]
     cases z9 with
     |false =>
      refine Ok.kD (fun h=>nomatch h) fun _=>?_
      rw[Ok.bind];refine Ok.kD (fun h=>nomatch h) fun _=>?_
      rw[zMr (by grind)]
      exact fin.mono fun t ht=>by grind
     |true =>
      refine Ok.kD (fun _=>(Ok.XA htv).2 ?_) fun h=>nomatch h
      rw[Ok.bind];refine Ok.kD (fun _=>(Ok.XA hov).2 ?_) fun h=>nomatch h
      have e:=hy9 rfl;have fE:neB tv ov=false:=by rw[e];cases ov<;>rfl
      rw[fE,zMr (by grind)]
      exact fin.mono fun t ht=>by grind
    ·simp_all [zj,zR,Ok.pure]
    ·rintro(v|v) hr
     ·dsimp only at hr |-
      rw[Ok.pure];have:(enq j (stO (btL a j.2.2.1.length))).1=v:=by grind
      rw[this];cases v<;>rfl
     grind
   ·rw[zMq (by grind),Ok.pure]
    grind
 ·rw[Ok.zK (Ay hs hc),Ok.bind]
  refine Ok.kD (fun h=>nomatch h) fun _=>?_
  rw[Ok.bind];refine Ok.kD (fun h=>nomatch h) fun _=>?_
  rw[zMr (by decide)]
  show Ok ((yF j (btL a j.2.2.1.length)).bind _) _
  rw[Ok.zK (qE hs hc)];show Ok ((yF j (btL (orB .u8 a b) j.2.2.1.length)).bind _) _
  simp_all [Ok.zK,qE,YL,gJ,Ok.pure]
end Go.Geo
end
noncomputable section
namespace Go.Dn
open Go Go.Proofs Go.RowKit Go.Eng Go.Lift Go.Den
abbrev prog:Program:=Tryz.prog
theorem mixed:prog.follows .mixedOrders=true:=by kernel_rfl
def t3:Ty:=.int .i64
def t4:Ty:=.bool
def t5:Ty:=.int .u8
def t9:Ty:=.str
def t23:Ty:=.sl t3
def t22:Ty:=.sl t23
def t26:Ty:=.arr 3 t3
def t104:Ty:=.cons t3 (.cons t3 (.cons t3 .nil))
def t106:Ty:=.cons t104 (.cons t3 .nil)
def t107:Ty:=.sl t106
def t28:Ty:=.sl t107
def t30:Ty:=.cons t9 (.cons t28 (.cons t23 .nil))
def t31:Ty:=.sl t4
def t33:Ty:=.cons t31 (.cons t31 (.cons t28 .nil))
def t62:Ty:=.cons t28 (.cons t28 (.cons t3 (.cons t23 .nil)))
def t34:Ty:=.sl t62
def t36:Ty:=.cons t30 (.cons t33 (.cons t34 .nil))
def t41:Ty:=.arr 2 t23
def t43:Ty:=.int .i64
def t48:Ty:=.arr 4 t3
def t81:Ty:=.cons t3 (.cons t3 .nil)
def t73:Ty:=.sl t81
def t78:Ty:=.sl t5
def t85:Ty:=.cons t3 (.cons t73 .nil)
def t87:Ty:=.sl t85
def t117:Ty:=.fn (.cons t3 .nil) (.cons t4 .nil)
def t130:Ty:=.cons t23 (.cons t3 .nil)
def t136:Ty:=.arr 8 t4
def t140:Ty:=.cons t36 (.cons t136 .nil)
def t147:Ty:=.fn (.cons t3 (.cons t136 .nil)) (.nil)
def t156:Ty:=.nil
def t158:Ty:=.fn (.cons t136 (.cons t136 .nil)) (.nil)
def t166:Ty:=.fn (.cons t107 .nil) (.cons t4 .nil)
def t173:Ty:=.fn (.cons t3 (.cons t107 .nil)) (.cons t4 .nil)
def t185:Ty:=.fn (.cons t3 (.cons t136 (.cons t136 .nil))) (.nil)
def t189:Ty:=.sl t106
def t191:Ty:=.sl t28
def t198:Ty:=.fn (.cons t106 .nil) (.cons t4 .nil)
def t202:Ty:=.sl t104
def t208:Ty:=.cons t3 (.cons t3 (.cons t3 (.cons t3 .nil)))
def t203:Ty:=.sl t208
def t210:Ty:=.fn (.cons t208 .nil) (.cons t4 .nil)
def t220:Ty:=.mp t208 t4
def t224:Ty:=.arr 3 t106
def t233:Ty:=.fn (.cons t106 (.cons t106 .nil)) (.cons t3 .nil)
def t245:Ty:=.int .u64
def t246:Ty:=.arr 2 t3
def t247:Ty:=.sl t246
theorem eq3:EqT prog 3 t3 1:=tD (z:=.int .i64 0) (sz:=1) (by_:=8) ⟨by kernel_rfl,by kernel_rfl⟩
def i3:TI:=⟨.int .i64,.int .i64 0,1,8,[],t3,1,false⟩
theorem ok3:i3.ok prog 3:=yR ⟨by kernel_rfl,by kernel_rfl⟩ rfl (fun _=>⟨eq3,by decide,fun _=>by kernel_rfl⟩) (ya rfl)
theorem eq4:EqT prog 4 t4 1:=Qe (z:=.bool false) (sz:=1) (by_:=1) ⟨by kernel_rfl,by kernel_rfl⟩
def i4:TI:=⟨.bool,.bool false,1,1,[],t4,1,false⟩
theorem ok4:i4.ok prog 4:=yR ⟨by kernel_rfl,by kernel_rfl⟩ rfl (fun _=>⟨eq4,by decide,fun _=>by kernel_rfl⟩) (ya rfl)
theorem eq5:EqT prog 5 t5 1:=tD (z:=.int .u8 0) (sz:=1) (by_:=1) ⟨by kernel_rfl,by kernel_rfl⟩
def i5:TI:=⟨.int .u8,.int .u8 0,1,1,[],t5,1,false⟩
theorem ok5:i5.ok prog 5:=yR ⟨by kernel_rfl,by kernel_rfl⟩ rfl (fun _=>⟨eq5,by decide,fun _=>by kernel_rfl⟩) (ya rfl)
theorem eq9:EqT prog 9 t9 1:=Wk (z:=.string ⟨#[]⟩) (sz:=1) (by_:=16) ⟨by kernel_rfl,by kernel_rfl⟩
def i9:TI:=⟨.string,.string ⟨#[]⟩,1,16,[],t9,1,false⟩
theorem ok9:i9.ok prog 9:=yR ⟨by kernel_rfl,by kernel_rfl⟩ rfl (fun _=>⟨eq9,by decide,fun _=>by kernel_rfl⟩) (ya rfl)
def i22:=iS 23 t22
theorem zLl:i22.ok prog 22:=XH ⟨by kernel_rfl,by kernel_rfl⟩
def i23:=iS 3 t23
theorem zLk:i23.ok prog 23:=XH ⟨by kernel_rfl,by kernel_rfl⟩
theorem zLx:EqT prog 26 t26 2:=Ky (z:=.agg #[.int .i64 0,.int .i64 0,.int .i64 0]) (sz:=3) (by_:=24) ⟨by kernel_rfl,by kernel_rfl⟩ (dd':=.int .i64) (z':=.int .i64 0) (k:=1) (by_':=8) ⟨by kernel_rfl,by kernel_rfl⟩ rfl rfl eq3
def i26:TI:=⟨.array 3 3,.agg #[.int .i64 0,.int .i64 0,.int .i64 0],3,24,[],t26,2,false⟩
theorem zLj:i26.ok prog 26:=yR ⟨by kernel_rfl,by kernel_rfl⟩ rfl (fun _=>⟨zLx,by decide,fun _=>by kernel_rfl⟩) (ya rfl)
def i28:=iS 107 t28
theorem zLi:i28.ok prog 28:=XH ⟨by kernel_rfl,by kernel_rfl⟩
def i30:TI:=⟨.struct (prog.fieldsOf 30),.agg #[.string ⟨#[]⟩,.slice none 0 0,.slice none 0 0],3,64,[(9,0,0),(28,1,0),(23,2,0)],t30,0,false⟩
theorem zLh:i30.ok prog 30:=jB ⟨by kernel_rfl,by kernel_rfl⟩ (⟨⟨by kernel_rfl,by kernel_rfl,by kernel_rfl⟩,⟨⟨by kernel_rfl,by kernel_rfl,by kernel_rfl⟩,⟨⟨by kernel_rfl,by kernel_rfl,by kernel_rfl⟩,trivial⟩⟩⟩) ⟨by kernel_rfl,fun w=>by kernel_rfl⟩ (ZP rfl) (ya rfl)
def i31:=iS 4 t31
theorem zLg:i31.ok prog 31:=XH ⟨by kernel_rfl,by kernel_rfl⟩
def i33:TI:=⟨.struct (prog.fieldsOf 33),.agg #[.slice none 0 0,.slice none 0 0,.slice none 0 0],3,72,[(31,0,0),(31,1,0),(28,2,0)],t33,0,false⟩
theorem zLf:i33.ok prog 33:=jB ⟨by kernel_rfl,by kernel_rfl⟩ (⟨⟨by kernel_rfl,by kernel_rfl,by kernel_rfl⟩,⟨⟨by kernel_rfl,by kernel_rfl,by kernel_rfl⟩,⟨⟨by kernel_rfl,by kernel_rfl,by kernel_rfl⟩,trivial⟩⟩⟩) ⟨by kernel_rfl,fun w=>by kernel_rfl⟩ (ZP rfl) (ya rfl)
def i34:=iS 62 t34
theorem zLe:i34.ok prog 34:=XH ⟨by kernel_rfl,by kernel_rfl⟩
def i36:TI:=⟨.struct (prog.fieldsOf 36),.agg #[.string ⟨#[]⟩,.slice none 0 0,.slice none 0 0,.slice none 0 0,.slice none 0 0,.slice none 0 0,.slice none 0 0],7,160,[(30,0,2),(33,3,2),(34,6,0)],t36,0,false⟩
theorem zLd:i36.ok prog 36:=jB ⟨by kernel_rfl,by kernel_rfl⟩ (⟨⟨by kernel_rfl,by kernel_rfl,by kernel_rfl⟩,⟨⟨by kernel_rfl,by kernel_rfl,by kernel_rfl⟩,⟨⟨by kernel_rfl,by kernel_rfl,by kernel_rfl⟩,trivial⟩⟩⟩) ⟨by kernel_rfl,fun w=>by kernel_rfl⟩ (ZP rfl) (ya rfl)
def i41:TI:=⟨.array 2 23,.agg #[.slice none 0 0,.slice none 0 0],2,48,[],t41,0,false⟩
theorem zLc:i41.ok prog 41:=yR ⟨by kernel_rfl,by kernel_rfl⟩ rfl (ZP rfl) (ya rfl)
theorem zLw:EqT prog 43 t43 1:=tD (z:=.int .i64 0) (sz:=1) (by_:=8) ⟨by kernel_rfl,by kernel_rfl⟩
def i43:TI:=⟨.int .i64,.int .i64 0,1,8,[],t43,1,false⟩
theorem zLb:i43.ok prog 43:=yR ⟨by kernel_rfl,by kernel_rfl⟩ rfl (fun _=>⟨zLw,by decide,fun _=>by kernel_rfl⟩) (ya rfl)
theorem zLv:EqT prog 48 t48 2:=Ky (z:=.agg #[.int .i64 0,.int .i64 0,.int .i64 0,.int .i64 0]) (sz:=4) (by_:=32) ⟨by kernel_rfl,by kernel_rfl⟩ (dd':=.int .i64) (z':=.int .i64 0) (k:=1) (by_':=8) ⟨by kernel_rfl,by kernel_rfl⟩ rfl rfl eq3
def i48:TI:=⟨.array 4 3,.agg #[.int .i64 0,.int .i64 0,.int .i64 0,.int .i64 0],4,32,[],t48,2,false⟩
theorem zLa:i48.ok prog 48:=yR ⟨by kernel_rfl,by kernel_rfl⟩ rfl (fun _=>⟨zLv,by decide,fun _=>by kernel_rfl⟩) (ya rfl)
def i62:TI:=⟨.struct (prog.fieldsOf 62),.agg #[.slice none 0 0,.slice none 0 0,.int .i64 0,.slice none 0 0],4,80,[(28,0,0),(28,1,0),(3,2,0),(23,3,0)],t62,0,false⟩
theorem zLZ:i62.ok prog 62:=jB ⟨by kernel_rfl,by kernel_rfl⟩ (⟨⟨by kernel_rfl,by kernel_rfl,by kernel_rfl⟩,⟨⟨by kernel_rfl,by kernel_rfl,by kernel_rfl⟩,⟨⟨by kernel_rfl,by kernel_rfl,by kernel_rfl⟩,⟨⟨by kernel_rfl,by kernel_rfl,by kernel_rfl⟩,trivial⟩⟩⟩⟩) ⟨by kernel_rfl,fun w=>by kernel_rfl⟩ (ZP rfl) (ya rfl)
def i73:=iS 81 t73
theorem zLY:i73.ok prog 73:=XH ⟨by kernel_rfl,by kernel_rfl⟩
def i78:=iS 5 t78
theorem zLX:i78.ok prog 78:=XH ⟨by kernel_rfl,by kernel_rfl⟩
theorem zLu:EqT prog 81 t81 2:=YZ (fs:=prog.fieldsOf 81) (z:=.agg #[.int .i64 0,.int .i64 0]) (sz:=2) (by_:=16) ⟨by kernel_rfl,by kernel_rfl⟩ rfl rfl (by kernel_rfl) (Jh (D:=1) (Ya eq3 (XN _)) (by kernel_rfl))
def i81:TI:=⟨.struct (prog.fieldsOf 81),.agg #[.int .i64 0,.int .i64 0],2,16,[(3,0,0),(3,1,0)],t81,2,false⟩
theorem zLW:i81.ok prog 81:=jB ⟨by kernel_rfl,by kernel_rfl⟩ (⟨⟨by kernel_rfl,by kernel_rfl,by kernel_rfl⟩,⟨⟨by kernel_rfl,by kernel_rfl,by kernel_rfl⟩,trivial⟩⟩) ⟨by kernel_rfl,fun w=>by kernel_rfl⟩ (fun _=>⟨zLu,by decide,fun _=>by kernel_rfl⟩) (ya rfl)
def i85:TI:=⟨.struct (prog.fieldsOf 85),.agg #[.int .i64 0,.slice none 0 0],2,32,[(3,0,0),(73,1,0)],t85,0,false⟩
theorem zLV:i85.ok prog 85:=jB ⟨by kernel_rfl,by kernel_rfl⟩ (⟨⟨by kernel_rfl,by kernel_rfl,by kernel_rfl⟩,⟨⟨by kernel_rfl,by kernel_rfl,by kernel_rfl⟩,trivial⟩⟩) ⟨by kernel_rfl,fun w=>by kernel_rfl⟩ (ZP rfl) (ya rfl)
def i87:=iS 85 t87
theorem zLU:i87.ok prog 87:=XH ⟨by kernel_rfl,by kernel_rfl⟩
theorem zBs:EqT prog 104 t104 2:=YZ (fs:=prog.fieldsOf 104) (z:=.agg #[.int .i64 0,.int .i64 0,.int .i64 0]) (sz:=3) (by_:=24) ⟨by kernel_rfl,by kernel_rfl⟩ rfl rfl (by kernel_rfl) (Jh (D:=1) (Ya eq3 (XN _)) (by kernel_rfl))
def zIj:TI:=⟨.struct (prog.fieldsOf 104),.agg #[.int .i64 0,.int .i64 0,.int .i64 0],3,24,[(3,0,0),(3,1,0),(3,2,0)],t104,2,false⟩
theorem zHZ:zIj.ok prog 104:=jB ⟨by kernel_rfl,by kernel_rfl⟩ (⟨⟨by kernel_rfl,by kernel_rfl,by kernel_rfl⟩,⟨⟨by kernel_rfl,by kernel_rfl,by kernel_rfl⟩,⟨⟨by kernel_rfl,by kernel_rfl,by kernel_rfl⟩,trivial⟩⟩⟩) ⟨by kernel_rfl,fun w=>by kernel_rfl⟩ (fun _=>⟨zBs,by decide,fun _=>by kernel_rfl⟩) (ya rfl)
theorem zBr:EqT prog 106 t106 3:=YZ (fs:=prog.fieldsOf 106) (z:=.agg #[.int .i64 0,.int .i64 0,.int .i64 0,.int .i64 0]) (sz:=4) (by_:=32) ⟨by kernel_rfl,by kernel_rfl⟩ rfl rfl (by kernel_rfl) (Jh (D:=2) (Ya eq3 (Ya zBs (XN _))) (by kernel_rfl))
def zFz:TI:=⟨.struct (prog.fieldsOf 106),.agg #[.int .i64 0,.int .i64 0,.int .i64 0,.int .i64 0],4,32,[(104,0,2),(3,3,0)],t106,3,false⟩
theorem zHY:zFz.ok prog 106:=jB ⟨by kernel_rfl,by kernel_rfl⟩ (⟨⟨by kernel_rfl,by kernel_rfl,by kernel_rfl⟩,⟨⟨by kernel_rfl,by kernel_rfl,by kernel_rfl⟩,trivial⟩⟩) ⟨by kernel_rfl,fun w=>by kernel_rfl⟩ (fun _=>⟨zBr,by decide,fun _=>by kernel_rfl⟩) (ya rfl)
def i107:=iS 106 t107
theorem zHX:i107.ok prog 107:=XH ⟨by kernel_rfl,by kernel_rfl⟩
def i117:TI:=⟨.func #[3] #[4] false,.nilFunc,1,8,[],t117,0,false⟩
theorem zHW:i117.ok prog 117:=yR ⟨by kernel_rfl,by kernel_rfl⟩ rfl (ZP rfl) (ya rfl)
def i130:TI:=⟨.struct (prog.fieldsOf 130),.agg #[.slice none 0 0,.int .i64 0],2,32,[(23,0,0),(3,1,0)],t130,0,false⟩
theorem zHV:i130.ok prog 130:=jB ⟨by kernel_rfl,by kernel_rfl⟩ (⟨⟨by kernel_rfl,by kernel_rfl,by kernel_rfl⟩,⟨⟨by kernel_rfl,by kernel_rfl,by kernel_rfl⟩,trivial⟩⟩) ⟨by kernel_rfl,fun w=>by kernel_rfl⟩ (ZP rfl) (ya rfl)
theorem zHm:EqT prog 136 t136 2:=Ky (z:=.agg #[.bool false,.bool false,.bool false,.bool false,.bool false,.bool false,.bool false,.bool false]) (sz:=8) (by_:=8) ⟨by kernel_rfl,by kernel_rfl⟩ (dd':=.bool) (z':=.bool false) (k:=1) (by_':=1) ⟨by kernel_rfl,by kernel_rfl⟩ rfl rfl eq4
def zIi:TI:=⟨.array 8 4,.agg #[.bool false,.bool false,.bool false,.bool false,.bool false,.bool false,.bool false,.bool false],8,8,[],t136,2,false⟩
theorem zHU:zIi.ok prog 136:=yR ⟨by kernel_rfl,by kernel_rfl⟩ rfl (fun _=>⟨zHm,by decide,fun _=>by kernel_rfl⟩) (ya rfl)
def zIh:TI:=⟨.struct (prog.fieldsOf 140),.agg #[.string ⟨#[]⟩,.slice none 0 0,.slice none 0 0,.slice none 0 0,.slice none 0 0,.slice none 0 0,.slice none 0 0,.bool false,.bool false,.bool false,.bool false,.bool false,.bool false,.bool false,.bool false],15,168,[(36,0,6),(136,7,7)],t140,0,false⟩
theorem zHT:zIh.ok prog 140:=jB ⟨by kernel_rfl,by kernel_rfl⟩ (⟨⟨by kernel_rfl,by kernel_rfl,by kernel_rfl⟩,⟨⟨by kernel_rfl,by kernel_rfl,by kernel_rfl⟩,trivial⟩⟩) ⟨by kernel_rfl,fun w=>by kernel_rfl⟩ (ZP rfl) (ya rfl)
def zIg:TI:=⟨.func #[3,136] #[] false,.nilFunc,1,8,[],t147,0,false⟩
theorem zHS:zIg.ok prog 147:=yR ⟨by kernel_rfl,by kernel_rfl⟩ rfl (ZP rfl) (ya rfl)
theorem zHl:EqT prog 156 t156 2:=YZ (fs:=prog.fieldsOf 156) (z:=.agg #[]) (sz:=0) (by_:=0) ⟨by kernel_rfl,by kernel_rfl⟩ rfl rfl (by kernel_rfl) (Jh (D:=1) (XN _) (by kernel_rfl))
def zFy:TI:=⟨.struct (prog.fieldsOf 156),.agg #[],0,0,[],t156,2,false⟩
theorem zHR:zFy.ok prog 156:=yR ⟨by kernel_rfl,by kernel_rfl⟩ rfl (fun _=>⟨zHl,by decide,fun _=>by kernel_rfl⟩) (ya rfl)
def zIf:TI:=⟨.func #[136,136] #[] false,.nilFunc,1,8,[],t158,0,false⟩
theorem zHQ:zIf.ok prog 158:=yR ⟨by kernel_rfl,by kernel_rfl⟩ rfl (ZP rfl) (ya rfl)
def zIe:TI:=⟨.func #[107] #[4] false,.nilFunc,1,8,[],t166,0,false⟩
theorem zHP:zIe.ok prog 166:=yR ⟨by kernel_rfl,by kernel_rfl⟩ rfl (ZP rfl) (ya rfl)
def i173:TI:=⟨.func #[3,107] #[4] false,.nilFunc,1,8,[],t173,0,false⟩
theorem zHO:i173.ok prog 173:=yR ⟨by kernel_rfl,by kernel_rfl⟩ rfl (ZP rfl) (ya rfl)
def zId:TI:=⟨.func #[3,136,136] #[] false,.nilFunc,1,8,[],t185,0,false⟩
theorem zHN:zId.ok prog 185:=yR ⟨by kernel_rfl,by kernel_rfl⟩ rfl (ZP rfl) (ya rfl)
def zIc:=iS 106 t189
theorem zHM:zIc.ok prog 189:=XH ⟨by kernel_rfl,by kernel_rfl⟩
def zIb:=iS 28 t191
theorem zHL:zIb.ok prog 191:=XH ⟨by kernel_rfl,by kernel_rfl⟩
def i198:TI:=⟨.func #[106] #[4] false,.nilFunc,1,8,[],t198,0,false⟩
theorem zHK:i198.ok prog 198:=yR ⟨by kernel_rfl,by kernel_rfl⟩ rfl (ZP rfl) (ya rfl)
def zIa:=iS 104 t202
theorem zHJ:zIa.ok prog 202:=XH ⟨by kernel_rfl,by kernel_rfl⟩
def i203:=iS 208 t203
theorem zHI:i203.ok prog 203:=XH ⟨by kernel_rfl,by kernel_rfl⟩
theorem zBq:EqT prog 208 t208 2:=YZ (fs:=prog.fieldsOf 208) (z:=.agg #[.int .i64 0,.int .i64 0,.int .i64 0,.int .i64 0]) (sz:=4) (by_:=32) ⟨by kernel_rfl,by kernel_rfl⟩ rfl rfl (by kernel_rfl) (Jh (D:=1) (Ya eq3 (XN _)) (by kernel_rfl))
def i208:TI:=⟨.struct (prog.fieldsOf 208),.agg #[.int .i64 0,.int .i64 0,.int .i64 0,.int .i64 0],4,32,[(3,0,0),(3,1,0),(3,2,0),(3,3,0)],t208,2,true⟩
theorem zHH:i208.ok prog 208:=jB ⟨by kernel_rfl,by kernel_rfl⟩ (⟨⟨by kernel_rfl,by kernel_rfl,by kernel_rfl⟩,⟨⟨by kernel_rfl,by kernel_rfl,by kernel_rfl⟩,⟨⟨by kernel_rfl,by kernel_rfl,by kernel_rfl⟩,⟨⟨by kernel_rfl,by kernel_rfl,by kernel_rfl⟩,trivial⟩⟩⟩⟩) ⟨by kernel_rfl,fun w=>by kernel_rfl⟩ (fun _=>⟨zBq,by decide,fun _=>by kernel_rfl⟩) (fun _=>KeyB.agg zBq (by decide) rfl rfl (dd:=.struct (prog.fieldsOf 208)) (z:=.agg #[.int .i64 0,.int .i64 0,.int .i64 0,.int .i64 0]) (sz:=4) (by_:=32) ⟨by kernel_rfl,by kernel_rfl⟩ rfl (fun e x w=>by kernel_rfl))
def i210:TI:=⟨.func #[208] #[4] false,.nilFunc,1,8,[],t210,0,false⟩
theorem zHG:i210.ok prog 210:=yR ⟨by kernel_rfl,by kernel_rfl⟩ rfl (ZP rfl) (ya rfl)
def zIZ:TI:=⟨.map 208 4,.map none,1,8,[],t220,0,false⟩
theorem zHF:zIZ.ok prog 220:=yR ⟨by kernel_rfl,by kernel_rfl⟩ rfl (ZP rfl) (ya rfl)
theorem zHk:EqT prog 224 t224 4:=Ky (z:=.agg #[.int .i64 0,.int .i64 0,.int .i64 0,.int .i64 0,.int .i64 0,.int .i64 0,.int .i64 0,.int .i64 0,.int .i64 0,.int .i64 0,.int .i64 0,.int .i64 0]) (sz:=12) (by_:=96) ⟨by kernel_rfl,by kernel_rfl⟩ (dd':=.struct (prog.fieldsOf 106)) (z':=.agg #[.int .i64 0,.int .i64 0,.int .i64 0,.int .i64 0]) (k:=4) (by_':=32) ⟨by kernel_rfl,by kernel_rfl⟩ rfl rfl zBr
def zIY:TI:=⟨.array 3 106,.agg #[.int .i64 0,.int .i64 0,.int .i64 0,.int .i64 0,.int .i64 0,.int .i64 0,.int .i64 0,.int .i64 0,.int .i64 0,.int .i64 0,.int .i64 0,.int .i64 0],12,96,[],t224,4,false⟩
theorem zHE:zIY.ok prog 224:=yR ⟨by kernel_rfl,by kernel_rfl⟩ rfl (fun _=>⟨zHk,by decide,fun _=>by kernel_rfl⟩) (ya rfl)
def i233:TI:=⟨.func #[106,106] #[3] false,.nilFunc,1,8,[],t233,0,false⟩
theorem zHD:i233.ok prog 233:=yR ⟨by kernel_rfl,by kernel_rfl⟩ rfl (ZP rfl) (ya rfl)
theorem zHj:EqT prog 245 t245 1:=tD (z:=.int .u64 0) (sz:=1) (by_:=8) ⟨by kernel_rfl,by kernel_rfl⟩
def zIX:TI:=⟨.int .u64,.int .u64 0,1,8,[],t245,1,false⟩
theorem zHC:zIX.ok prog 245:=yR ⟨by kernel_rfl,by kernel_rfl⟩ rfl (fun _=>⟨zHj,by decide,fun _=>by kernel_rfl⟩) (ya rfl)
theorem zHi:EqT prog 246 t246 2:=Ky (z:=.agg #[.int .i64 0,.int .i64 0]) (sz:=2) (by_:=16) ⟨by kernel_rfl,by kernel_rfl⟩ (dd':=.int .i64) (z':=.int .i64 0) (k:=1) (by_':=8) ⟨by kernel_rfl,by kernel_rfl⟩ rfl rfl eq3
def zIW:TI:=⟨.array 2 3,.agg #[.int .i64 0,.int .i64 0],2,16,[],t246,2,false⟩
theorem zHB:zIW.ok prog 246:=yR ⟨by kernel_rfl,by kernel_rfl⟩ rfl (fun _=>⟨zHi,by decide,fun _=>by kernel_rfl⟩) (ya rfl)
def zIV:=iS 246 t247
theorem zHA:zIV.ok prog 247:=XH ⟨by kernel_rfl,by kernel_rfl⟩
def T:TE:=[(3,i3),(4,i4),(5,i5),(9,i9),(22,i22),(23,i23),(26,i26),(28,i28),(30,i30),(31,i31),(33,i33),(34,i34),(36,i36),(41,i41),(43,i43),(48,i48),(62,i62),(73,i73),(78,i78),(81,i81),(85,i85),(87,i87),(104,zIj),(106,zFz),(107,i107),(117,i117),(130,i130),(136,zIi),(140,zIh),(147,zIg),(156,zFy),(158,zIf),(166,zIe),(173,i173),(185,zId),(189,zIc),(191,zIb),(198,i198),(202,zIa),(203,i203),(208,i208),(210,i210),(220,zIZ),(224,zIY),(233,i233),(245,zIX),(246,zIW),(247,zIV)]
theorem zAx:TOk prog T:=zV ok3 (zV ok4 (zV ok5 (zV ok9 (zV zLl (zV zLk (zV zLj (zV zLi (zV zLh (zV zLg (zV zLf (zV zLe (zV zLd (zV zLc (zV zLb (zV zLa (zV zLZ (zV zLY (zV zLX (zV zLW (zV zLV (zV zLU (zV zHZ (zV zHY (zV zHX (zV zHW (zV zHV (zV zHU (zV zHT (zV zHS (zV zHR (zV zHQ (zV zHP (zV zHO (zV zHN (zV zHM (zV zHL (zV zHK (zV zHJ (zV zHI (zV zHH (zV zHG (zV zHF (zV zHE (zV zHD (zV zHC (zV zHB (zV zHA (VT _))))))))))))))))))))))))))))))))))))))))))))))))
theorem E0:EK prog T [] [] [] [] [] []:=e0 zAx mixed
end Go.Dn
end
section
namespace Go.Up
open Go
def EG(d:Nat){β:Type}(e:Except String (World×β)):Prop:=∀r,e=.ok r->r.1.drawn=d
theorem EG.bind{d:Nat}{α β:Type}{x:Except String α}{f:α->Except String (World×β)}(h:∀a,EG d (f a)):EG d (x >>= f):=by
 intro r hr
 cases x with
 |error e=>cases hr
 |ok a=>exact h a r hr
theorem EG.throw{d:Nat}{β:Type}{s:String}:EG d (MonadExcept.throw s:Except String (World×β)):=fun r hr=>by cases hr
theorem nG(p:Program)(w:World)(a:Addr)(u:TypeId)(k:Addr)(v:Value)(b:Bool):EG w.drawn (w.viewStore p a u k v b):=by
 unfold World.viewStore;dsimp only
 repeat' first
  |exact EG.throw
  |exact EG.error
  |(intro r hr;cases hr;rfl)
  |refine EG.bind fun _=>?_
  |split
theorem Mj(w:World)(a:Addr)(n:Nat):(w.freeze a n).drawn=w.drawn:=by grind [World.freeze]
theorem zFQ{α:Type}(k:Ask α):∀(w:World),w.drawn<=(w.ask k).2.drawn:=by
 induction k with
 |done a=>intro w;exact zMS _
 |ask what range k ih =>
  intro w;unfold World.ask;grind
theorem zCE(w:World)(c:Sys):w.drawn<=(w.sys c).2.drawn:=by
 unfold World.sys;have h:=zFQ (Kernel.perform c w.os) w
 grind
def RU(d:Nat){α:Type}:Result α->Prop
 |.ok _ w=>d<=w.drawn
 |.halt _ w=>d<=w.drawn
theorem RU.le{d d':Nat}{α:Type}{r:Result α}(h:RU d r)(hd:d'<=d):RU d' r:=by
 cases r<;>exact zMX hd h
theorem As{p:Program}{w w':World}{a:Addr}{v:Value}{b:Bool}{l:List Addr}(h:w.farStore p a v b=.ok (w',l)):w'.drawn=w.drawn:=by
 unfold World.farStore at h;split at h
 ·split at h
  ·rename_i r hr
   cases h
   exact nG _ _ _ _ _ _ _ _ hr
  ·cases h
 ·cases h
theorem l6{α:Type}(p:Program)(e:Sem α):∀w:World,RU w.drawn (e.run p w):=by
 induction e with
 |pure a=>intro w;exact zMS _
 |load m a k ih =>
  intro w;simp only[Sem.run];split
  ·grind
  ·split
   ·grind
   ·exact zMS _
 |store m a v k ih =>
  intro w
  have key:RU w.drawn (match w.cell? a with
   |some _=>if w.frozen? a then .halt (.unsupported (.unsafePointer "a write to bytes that a string shares")) w else k.run p (w.setCell a v)
   |none=>match w.farStore p a v (m == .atomic) with
    |.ok (w,_)=>k.run p w
    |.error h=>.halt h w):=by
   split
   ·split
    ·exact zMS _
    ·exact(ih (w.setCell a v)).le (by simp[World.setCell])
   ·split
    ·rename_i w' l hw
     exact(ih _).le (by rw[As hw];omega)
    ·exact zMS _
  cases v<;>first|exact key|exact zMS _
 |new o k ih=>intro w;exact ih _ { w with heap:=w.heap.push o }
 |shape r k ih=>intro w;exact ih _ _
 |freeze a n k ih=>intro w;exact(ih (w.freeze a n)).le (by simp[Mj])
 |frozen a k ih=>intro w;exact ih _ _
 |getObj r k ih =>
  intro w;simp only[Sem.run];split
  ·exact zMS _
  ·grind
  ·exact zMS _
 |setObj r o k ih =>
  intro w;simp only[Sem.run];split
  ·exact zMS _
  ·grind
  ·exact zMS _
 |choose q k ih =>
  intro w;simp only[Sem.run];split
  ·grind
  ·exact(ih _ { w with drawn:=w.drawn+1 }).le (zMb _)
 |sys c k ih=>intro w;exact(ih _ _).le (zCE w c)
 |program k ih=>intro w;exact ih _ _
 |mark m k ih=>intro w;exact ih _
 |halt h=>intro w;exact zMS _
theorem Gu{α:Type}(p:Program)(e:Sem α)(w:World)(es:Array Event):RU w.drawn (e.runT p w es).1:=by
 grind [Sem.runT_fst,l6]
theorem kr{α:Type}{p:Program}{e:Sem α}{w w':World}{a:α}(h:e.run p w=.ok a w'):w.drawn<=w'.drawn:=by
 have:=l6 p e w;rw[h]at this;exact this
theorem VQ{α:Type}{p:Program}{e:Sem α}{w w':World}{a:Halt}(h:e.run p w=.halt a w'):w.drawn<=w'.drawn:=by
 have:=l6 p e w;rw[h]at this;exact this
def GU(d:Nat):GStep->Prop
 |.go _ w _|.comm _ _ _ _ w _|.spawn _ _ w _|.count _ w _|.timer _ _ w _|.alone _ _ w _|.newcoro _ _ _ w _|.coroswitch _ _ _ w _|.collect _ w _|.watch _ w _=>d<=w.drawn
 |.ended _ _ _=>True
theorem GU.le{d d':Nat}{s:GStep}(h:GU d s)(hd:d'<=d):GU d' s:=by
 cases s<;>first|exact zMX hd h|trivial
theorem GU.after{d:Nat}{es:Array Event}{s:GStep}(h:GU d s):GU d (GStep.after es s):=by
 cases s<;>exact h
theorem Qj(fr:Frame)(a:List ByteArray)(m:String)(b:Bool)(w:World):GU w.drawn (dieOf fr a m b w):=zMS _
theorem Zn(fr:Frame)(m:String)(w:World):GU w.drawn (endThrow fr m w):=zMS _
theorem Xx(p:Program)(fr:Frame)(v:Value)(w:World):GU w.drawn (endPrinting p fr v w):=by
 unfold endPrinting;dsimp only;split
 ·exact Zn _ _ _
 ·trivial
theorem D5(w:World)(fd:Nat)(t:ByteArray)(o:Outcome):GU w.drawn (endWith w fd t o):=by
 unfold endWith;dsimp only;split
 ·split<;>trivial
 ·trivial
 ·trivial
theorem w8(p:Program)(fr:Frame)(callers:List Frame)(dying:Option Dying)(m:String)(w:World):GU w.drawn (endFatal p fr callers dying m w):=by
 unfold endFatal;dsimp only;split
 ·rename_i h;exact(Qj _ _ _ _ _).le (kr h)
 ·trivial
 ·trivial
theorem K9{α:Type}{p:Program}{e:Sem α}{w:World}{es:Array Event}{r:Result α×Array Event}(h:e.runT p w es=r):RU w.drawn r.1:=by grind [Gu]
theorem DM(p:Program)(fr:Frame)(d:Dying)(f:Fatal)(w:World):GU w.drawn (writeOn p fr d f w):=by
 unfold writeOn;dsimp only;split
 ·trivial
 ·split
  ·rename_i h;exact K9 h
  ·rename_i h;exact K9 h
  ·trivial
  ·trivial
theorem Yy(p:Program)(main:Bool)(fr:Frame)(callers:List Frame)(dying:Option Dying)(v:Value)(w:World):GU w.drawn (doReturn p main fr callers dying v w):=by
 unfold doReturn;split
 ·split<;>exact zMS _
 ·split
  ·exact zMS _
  ·trivial
  ·split
   ·exact zMS _
   ·split
    ·exact zMS _
    ·trivial
theorem zFH(p:Program)(fr:Frame)(d:Dying)(w:World):GU w.drawn (die p fr d w):=by
 unfold die;dsimp only;split
 ·grind [DM]
 ·split
  ·split
   ·exact zMS _
   grind [D5]
  ·split
   ·exact zMS _
   ·split
    ·rename_i h;exact kr h
    ·trivial
   ·refine GU.after ?_
    generalize hr:(Sem.runT p _ w #[])=r;have h:=K9 hr
    clear hr;split<;>rename_i h'<;>first|trivial|skip
    ·rw[h']at h;exact h
    ·rw[h']at h;exact h
    ·rw[h']at h;exact(Xx _ _ _ _).le h
   ·trivial
theorem GU.ite{d:Nat}{p:Prop}[Decidable p]{a b:GStep}(h1:GU d a)(h2:GU d b):GU d (if p then a else b):=by grind
theorem uR(p:Program)(fr:Frame)(callers:List Frame)(dying:Option Dying)(d:Deferred)(w:World):GU w.drawn (callDeferred p fr callers dying d w):=by
 unfold callDeferred;refine GU.ite trivial ?_;dsimp only;refine GU.after ?_;generalize hr:(Sem.runT p _ w #[])=r;have h:=K9 hr
 clear hr;split<;>rename_i h'<;>rw[h']at h<;>first
  |trivial
  |exact h
  |exact(w8 _ _ _ _ _ _).le h
  |exact(Zn _ _ _).le h
  |(split<;>exact h)
theorem Is(p:Program)(main:Bool)(fr:Frame)(callers:List Frame)(dying:Option Dying)(w:World):GU w.drawn (unwind p main fr callers dying w):=by
 unfold unwind;split
 ·dsimp only
  refine GU.after ?_;generalize hr:(Sem.runT p _ w #[])=r;have h:=K9 hr
  clear hr;split<;>rename_i h'<;>rw[h']at h<;>first|trivial|exact h
 ·grind [uR]
 ·split
  ·trivial
  ·split
   ·trivial
   ·split
    ·exact zMS _
    ·split
     ·split
      ·exact zMS _
      ·split
       ·rename_i h;exact kr h
       ·trivial
       ·trivial
     ·split
      ·exact Xx _ _ _ _
      ·trivial
  ·split
   ·grind [Yy]
   ·dsimp only
    refine GU.after ?_;generalize hr:(Sem.runT p _ w #[])=r;have h:=K9 hr
    clear hr;split<;>rename_i h'<;>rw[h']at h<;>first|trivial|exact(Yy _ _ _ _ _ _ _).le h
theorem Qh(p:Program)(fr:Frame)(callers:List Frame)(dying:Option Dying)(g:Nat)(w:World):GU w.drawn (early p fr callers dying g w):=by
 have nY:∀w':World,w.drawn<=w'.drawn->GU w.drawn (match w'.heap[g]? with
  |some (.pending c elem)=>GStep.go { frame:=fr,callers,status:=.running,dying } { w' with heap:=w'.heap.setIfInBounds g (.cells c elem) }
  |_=>.ended (.stuck "early: the variable does not wait" (fr.pos p)) w'):=by
  intro w' h;split
  ·exact h
  ·trivial
 unfold early;dsimp only
 repeat' first
  |exact nY _ (zMS _)
  |trivial
  |exact zMS _
  |(rename_i h;exact nY _ (kr h))
  |(rename_i h;exact kr h)
  |split
theorem Kk(p:Program)(listen:Bool)(fr:Frame)(callers:List Frame)(dying:Option Dying)(s:Sem Next)(w:World):GU w.drawn (stepG.apply p listen fr callers dying s w):=by
 unfold stepG.apply;dsimp only;refine GU.after ?_;have h:RU w.drawn (if listen then s.runT p w #[] else (s.run p w,#[])).1:=by
  grind [Gu,l6]
 generalize (if listen then s.runT p w #[] else (s.run p w,#[]))=r at h
 clear s;split<;>rename_i h'<;>rw[h']at h<;>first
  |trivial
  |exact h
  |exact(w8 _ _ _ _ _ _).le h
  |exact(Zn _ _ _).le h
  |exact(Qh _ _ _ _ _ _).le h
  |exact GU.ite ((Zn _ _ _).le h) h
  |(split<;>first|exact h|exact(Zn _ _ _).le h)
theorem Vw(p:Program)(listen:Bool)(fr:Frame)(callers:List Frame)(dying:Option Dying)(w:World):GU w.drawn (stepG.oper p listen fr callers dying w):=by
 unfold stepG.oper;split
 ·trivial
 grind [Kk]
theorem GU.elim{d:Nat}{α:Type}{o:Option α}{a:GStep}{f:α->GStep}(h1:GU d a)(h2:∀x,GU d (f x)):GU d (o.elim a f):=by
 cases o
 ·exact h1
 grind
theorem Wj(p:Program)(main:Bool)(listen:Bool)(fr:Frame)(callers:List Frame)(dying:Option Dying)(w:World):GU w.drawn (stepG.exec p main listen fr callers dying w):=by
 unfold stepG.exec;dsimp only;split
 all_goals first
  |exact zMS _
  |trivial
  |exact Kk _ _ _ _ _ _ _
  |(refine GU.elim ?_ (fun _=>zMS _);split;exact GU.ite (zMS _) trivial;refine GU.after ?_;generalize hr:(Sem.runT _ _ _ #[])=r;have h:=K9 hr;clear hr;split<;>rename_i h'<;>rw[h']at h<;>first|trivial|exact(Yy _ _ _ _ _ _ _).le h)
  |(refine GU.elim trivial fun _=>Kk _ _ _ _ _ _ _;done)
  |(split;exact GU.ite (zMS _) trivial;refine GU.after ?_;generalize hr:(Sem.runT _ _ _ #[])=r;have h:=K9 hr;clear hr;split<;>rename_i h'<;>rw[h']at h<;>first|trivial|exact(Yy _ _ _ _ _ _ _).le h)
  |(refine GU.ite (Vw _ _ _ _ _ _) (zMS _);done)
  |(refine GU.ite (zMS _) ?_;split<;>rename_i h<;>first|trivial|exact kr h)
  |(refine GU.after ?_;generalize hr:(Sem.runT p _ w #[])=r;have h:=K9 hr;clear hr;split<;>rename_i h'<;>rw[h']at h<;>first|trivial|exact h|exact(Kk _ _ _ _ _ _ _).le h)
  |(split<;>first|exact zMS _|trivial)
theorem NV(p:Program)(main:Bool)(g:Goroutine)(w:World)(listen:Bool):GU w.drawn (stepG p main g w listen):=by
 unfold stepG;grind [zFH,Wj,Is]
def SU(d:Nat):Stepped->Prop
 |.next m=>d<=m.world.drawn
 |.ended _ _=>True
theorem SU.le{d d':Nat}{s:Stepped}(h:SU d s)(hd:d'<=d):SU d' s:=by
 cases s<;>first|exact zMX hd h|trivial
theorem SU.ite{d:Nat}{p:Prop}[Decidable p]{a b:Stepped}(h1:SU d a)(h2:SU d b):SU d (if p then a else b):=by grind
theorem SU.zFx{d:Nat}{β:Type}{p:Prop}[Decidable p]{a b:Stepped×β}(h1:SU d a.1)(h2:SU d b.1):SU d (if p then a else b).1:=by grind
theorem HN(p:Program)(gs:Array Goroutine)(rest:Rest)(w:World):SU w.drawn (look p gs rest w):=by
 unfold look;dsimp only;split
 ·refine SU.ite trivial ?_
  split
  ·trivial
  ·split<;>rename_i h<;>first
    |trivial
    |(have h1:=kr h;exact h1)
 ·trivial
theorem nD{rest:Rest}{cases:Array CommCase}{w w':World}(h:waitingAt rest cases w=some w'):w'.drawn=w.drawn:=by
 grind [waitingAt]
theorem tM(p:Program)(rest:Rest)(gs:Array Goroutine)(i:Nat)(g:Goroutine)(cases:Array CommCase)(blocking:Bool)(shape:CommShape)(w:World):SU w.drawn (communicate p rest gs i g cases blocking shape w).1:=by
 unfold communicate;dsimp only;refine SU.zFx trivial (SU.zFx (SU.zFx ?_ (zMS _)) ?_)
 ·split
  ·rename_i h;show _<=_;rw[nD h];omega
  ·trivial
 ·split
  ·trivial
  ·rename_i h
   have hu:=kr h;clear h;split
   ·split
    ·rename_i h2;exact zMX hu (VQ h2)
    ·trivial
   ·exact hu
   ·exact hu
   ·split
    ·exact hu
    ·split
     ·rename_i h2
      have h3:=zMX hu (kr h2);exact h3
     ·trivial
   ·exact hu
   ·exact hu
   ·trivial
theorem Qi(w:World)(c:Nat):(drain w c).2.drawn=w.drawn:=by grind [drain]
theorem pJ(m:Machine)(k:Nat)(t:Timer)(a b:Nat):(retime m k t a b).2.world.drawn=m.world.drawn:=by
 grind [retime,Qi]
theorem MD{m m':Machine}{v:Addr}(h:timerOp.opened m v=some m'):m'.world.drawn=m.world.drawn:=by
 grind [timerOp.opened]
theorem Bp{m m1 m':Machine}{v:Addr}{f:Nat->Timer->Value×Machine}{u:Value}(hf:∀k t,(f k t).2.world.drawn=m1.world.drawn)(h:timerOp.named m v f=.ok (u,m')):m'.world.drawn=m1.world.drawn:=by
 grind [timerOp.named]
theorem DO{m m':Machine}{op:TimerOp}{v:Value}(h:timerOp m op=.ok (v,m')):m'.world.drawn=m.world.drawn:=by
 unfold timerOp at h;split at h
 ·split at h
  ·cases h;rfl
  grind
 ·grind [Bp,pJ]
 ·grind [Bp,pJ,MD]
 ·cases h;rfl
theorem I3(p:Program)(m:Machine)(i:Nat)(listen:Bool):SU m.world.drawn (runT p m i listen).1:=by
 unfold runT;dsimp only;have h:=NV p (i == 0) (m.gs.swapAt! i { (default:Goroutine) with status:=.finished }).1 m.world listen
 generalize stepG p (i == 0) (m.gs.swapAt! i { (default:Goroutine) with status:=.finished }).1 m.world listen=s at h
 cases s with
 |ended=>trivial
 |comm=>exact(tM _ _ _ _ _ _ _ _ _).le h
 |go=>exact h
 |spawn=>exact h
 |count=>exact SU.ite trivial h
 |alone=>exact h
 |collect=>exact(HN _ _ _ _).le h
 |watch=>exact h
 |newcoro=>exact h
 |coroswitch g c exit w es =>
  dsimp only;split
  ·exact h
  ·exact h
  ·trivial
 |timer g op w es =>
  dsimp only;split
  ·rename_i h2
   have h3:=DO h2;show _<=_
   rw[h3];exact h
  ·exact h
  ·trivial
  ·trivial
theorem Np(p:Program)(m:Machine)(k:Nat):SU m.world.drawn (serve p m k):=by
 unfold serve;dsimp only;split
 ·trivial
 ·exact zMS _
 ·split
  ·trivial
  ·exact zMS _
def VU(d:Nat):Move->Prop
 |.goroutine m _=>d<=m.world.drawn
 |.machine s _=>SU d s
theorem VU.le{d d':Nat}{s:Move}(h:VU d s)(hd:d'<=d):VU d' s:=by
 cases s with
 |goroutine m i=>exact zMX hd h
 |machine s ops=>exact SU.le h hd
theorem VU.ite{d:Nat}{p:Prop}[Decidable p]{a b:Move}(h1:VU d a)(h2:VU d b):VU d (if p then a else b):=by grind
theorem qn(p:Program)(m:Machine):VU m.world.drawn (askOn p m):=by
 unfold askOn;dsimp only;split
 ·trivial
 ·rename_i h
  have hu:=kr h;clear h;refine VU.ite ((Np _ _ _).le hu) ?_;split
  ·split
   ·exact hu
   ·refine VU.ite hu ?_
    split<;>trivial
  ·split
   ·split
    ·trivial
    ·rename_i h
     have h1:=kr h;refine VU.ite (zMX hu h1) ?_;split
     ·trivial
     ·rename_i h;have h2:=kr h;exact zMX hu (zMX h1 h2)
   ·split
    ·trivial
    ·rename_i h
     have h0:=kr h;split
     ·trivial
     ·rename_i h
      have h1:=kr h;refine VU.ite (zMX hu (zMX h0 h1)) ?_;split
      ·trivial
      ·rename_i h;have h2:=kr h;exact zMX hu (zMX h0 (zMX h1 h2))
    ·rename_i h
     have h0:=kr h;exact zMX hu h0
    ·rename_i h
     have h0:=kr h;split
     ·trivial
     ·rename_i h
      have h1:=kr h;refine VU.ite (zMX hu (zMX h0 h1)) ?_;split
      ·trivial
      ·rename_i h;have h2:=kr h;exact zMX hu (zMX h0 (zMX h1 h2))
theorem Cd(p:Program)(m:Machine):VU m.world.drawn (ask p m):=by
 unfold ask;split
 ·split
  ·trivial
  ·rename_i h
   have h1:=kr h;have h2:=HN p m.gs m.rest ‹World›
   split
   ·rename_i m' h3;rw[h3]at h2;exact(qn _ _).le (zMX h1 h2)
   ·exact h2.le h1
  ·rename_i h
   have h1:=kr h;exact(qn _ _).le h1
 ·exact qn _ _
theorem WW(p:Program)(m:Machine):VU m.world.drawn (move p m):=by
 unfold move;split
 ·exact VU.ite (zMS _) trivial
 ·split
  ·exact VU.ite (zMS _) (Cd p _)
  ·exact Cd p m
theorem VY{p:Program}{m m':Machine}(h:step p m=.next m'):m.world.drawn<=m'.world.drawn:=by
 unfold step stepT at h;have h1:=WW p m
 split at h
 ·rename_i h2
  rw[h2]at h1;have h3:=I3 p ‹Machine› ‹Nat› true
  rw[h]at h3;exact zMX h1 h3
 ·rename_i h2
  rw[h2]at h1;dsimp only at h;rw[h]at h1;exact h1
theorem Vk{p:Program}{n:Nat}:∀ {m m':Machine},runN p n m=.next m'->m.world.drawn<=m'.world.drawn:=by
 induction n with
 |zero=>intro m m' h;cases h;omega
 |succ n ih =>
  intro m m' h;unfold runN at h;split at h
  ·rename_i h1;exact zMX (VY h1) (ih h)
  grind
theorem Ca{P:Program}{f:FuncId}{args:Array Value}{w:World}{R:Ending->World->Prop}(h:Calls P f args w R):Calls P f args w fun e w'=>R e w'/\(∀v,e=.returned v->w.drawn<=w'.drawn):=by
 intro cs;obtain⟨e,w',fr,h1,h2,h3⟩:=h cs;refine⟨e,w',fr,⟨h1,?_⟩,h2,h3⟩;rintro v rfl;obtain⟨n,hn⟩:=h2;exact Vk hn
end Go.Up
#print axioms Go.Up.Ca
end
section
namespace Go.Den
open Go Go.RowKit Go.Eng Go.Lift
open Go.Sort (SWO grow ahead putRow Holds HoldsK flatK putRowK)
open Go.Proofs (ltOf CmpLays sortWorldK)
theorem qg:∀ {t:Ty},t.nar=true->∀x:t.D,(j0 t x).length=t.sz:=by
 intro t
 induction t with
 |int k=>intro _ x;rfl
 |bool=>intro _ x;rfl
 |str=>intro _ x;rfl
 |nil=>intro _ x;rfl
 |cons a b iha ihb =>
  simp_all [Ty.nar,j0,Ty.sz]
 |_=>intro h;cases h
theorem Qg:∀ {t:Ty},t.nar=true->∀x:t.D,∀v∈j0 t x,v.oneCell'=true:=by
 intro t h x v hv;have:=Ha (mg h) v hv
 cases v<;>first|rfl|cases this
theorem Qd{w w':World}(h:Ext w w')(hd:w.drawn<=w'.drawn):∃q os,w'=grow (w.drewN q) os:=by
 refine⟨w'.drawn-w.drawn,w'.heap.extract w.heap.size w'.heap.size,?_⟩;have h1:=h.os
 have h2:=h.tape;have h3:=h.output
 have h4:=h.size;have h5:=h.block
 obtain⟨hp,tp,dr,os,ou⟩:=w;obtain⟨hp',tp',dr',os',ou'⟩:=w';simp only at h1 h2 h3 h4 h5 hd;subst h1 h2 h3;unfold grow World.drewN;simp only
 congr 1
 ·grind
 ·omega
theorem Qq{P:Program}{e:Ty}(hn:e.nar=true)(ha:e.agg=true)[Inhabited e.D]{cf:e.D->e.D->Int}{F:e.D×e.D×Unit->Comp (Int×Unit)}(hF:∀x y,∃n,(F (x,y,())).run n=some (cf x y,()))
  {O:zQ} {w:World} (hO:OkO O w) {g:Nat} {cb:Array Value} (hg:FnOk P g)
  (h4:∀O' w',OkO O' w'->zd 0 O w O' w'->∀vs x,(Ty.cons e (.cons e .nil)).args P O' w' vs x->∀n y,(F x).run n=some y->Ii P (.func (.func g) #[] cb) vs.toArray w' (fun w'' v=>∃rs,kU rs v/\(Ty.cons (.int .i64) .nil).args P O' w'' rs y))
  {b:Nat} (hb:b<w.heap.size) (aV:O b≠0) (size:Nat):CmpLays P g cb (j0 e) e.sz cf b 0 size w:=by
 intro m os dk hdk x y;obtain⟨n,hn'⟩:=hF x y;have pV:w.heap.size<=(sortWorldK (j0 e) e.sz w b 0 m dk os).heap.size:=by simp[sortWorldK,grow,putRowK,putRow,Go.Sort.mapBlock,ahead]
 have mM:∀c,c<w.heap.size->c≠b->(sortWorldK (j0 e) e.sz w b 0 m dk os).heap[c]?=w.heap[c]?:=by
  intro c hc fE;unfold sortWorldK;rw[Go.Sort.heap_grow_old _ _ (by simp_all [putRowK])]
  simp[putRowK,putRow,Go.Sort.mapBlock,ahead,Array.getElem?_modify,Ne.symm fE]
 have hk:zd 0 O w O (sortWorldK (j0 e) e.sz w b 0 m dk os):=⟨pV,fun c hc h0=>⟨h0,mM c hc (fun e=>aV (e ▸ h0))⟩⟩
 have ho:OkO O (sortWorldK (j0 e) e.sz w b 0 m dk os):=fun c hc=>hO c (by omega)
 have hv:∀x:e.D,(e.gr P).v O (sortWorldK (j0 e) e.sz w b 0 m dk os) (.agg (j0 e x).toArray) x:=fun x=>⟨_,uo hn x,by rw[Ty.jJ,ha];rfl⟩
 obtain⟨f,ys,h5,h6⟩:=h4 O _ ho hk [.agg (j0 e x).toArray,.agg (j0 e y).toArray] (x,y,()) ⟨_,_,rfl,hv x,_,_,rfl,hv y,rfl⟩ n _ hn';obtain⟨fn,g1,g2,g3⟩:=hg.h;simp only[Deferred.ofValue,Sem.run_bind,Sem.run_pure,Result.andThen,invoke,callFunc,run_program,g1]at h5;simp[g2,g3]at h5;obtain⟨rfl,rfl⟩:=h5;refine Calls.mono (Go.Up.Ca h6) ?_;rintro e' w' ⟨⟨v,rfl,hE,rs,ht,v1,aU,rfl,oY,sT⟩,hd⟩
 obtain⟨cs,cJ,aY⟩:=oY;rw[show cs=[Value.int .i64 (cf x y)] from cJ]at aY
 have hvs':aU=[]:=sT;subst hvs';refine⟨?_,Qd hE (hd _ rfl)⟩;rcases ht with ht|ht
 ·cases ht
 ·rw[ht];show Ending.returned v1=_;rw[aY];rfl
theorem qF{e:Ty}(ha:e.agg=true)(x:e.D):(gh e x).cells=(j0 e x).toArray:=by unfold gh;rw[ha];rfl
theorem BW{e:Ty}(hn:e.nar=true){P:Program}{O:zQ}{w:World}:∀ {vs:List Value} {xs:List e.D},yx (e.gr P) O w vs xs->vs=xs.map (gh e)
 | [],[],_=>rfl
 |v::vs,x::xs,h=>by rw[List.map_cons,<-BW hn h.2,UZ (mg hn) h.1]
 | [],_::_,h=>h.elim
 |_::_,[],h=>h.elim
theorem pK{e:Ty}(hn:e.nar=true){P:Program}{O:zQ}{w:World}:∀(xs:List e.D),yx (e.gr P) O w (xs.map (gh e)) xs
 | []=>trivial
 |x::xs=>⟨⟨_,uo hn x,by rw[Ty.jJ];rfl⟩,pK hn xs⟩
section enc
variable {e:Ty} (hn:e.nar=true) (ha:e.agg=true)
include hn ha
theorem Mk(x:e.D):(gh e x).cells.size=e.sz:=by grind [qF,qg]
theorem AG(xs:List e.D):∀v∈xs.map (gh e),v.cells.size=e.sz:=by
 intro v hv;obtain⟨x,_,rfl⟩:=List.mem_map.1 hv;grind [Mk]
theorem CG [Inhabited e.D](xs:List e.D){t:Nat}(ht:t<xs.length * e.sz):(flat (xs.map (gh e)))[t]?=some ((flatK (j0 e) e.sz xs.toArray)[t]!):=by
 have h0:0<e.sz:=Nat.pos_of_ne_zero fun h=>by grind
 have hq:t / e.sz<xs.length:=Nat.div_lt_of_lt_mul (by grind)
 have hr:t % e.sz<e.sz:=Nat.mod_lt _ h0;rw[Go.Sort.get_flatK _ _ _ _ (by omega)]
 have h1:=Zt (AG hn ha xs) (t / e.sz) (gh e xs[t / e.sz]) (by grind) (t % e.sz) hr
 grind [Nat.div_add_mod',qF,qg]
theorem D3 [Inhabited e.D](xs:List e.D):(flatK (j0 e) e.sz xs.toArray).toList=flat (xs.map (gh e)):=by
 apply List.ext_getElem?;intro t;by_cases ht:t<xs.length * e.sz
 ·grind [CG,flatK]
 ·rw[List.getElem?_eq_none (by simpa using ht),List.getElem?_eq_none (by grind [Kf,AG,List.length_map])]
theorem Mh [Inhabited e.D]{w:World}{b:Nat}{cur:Array Value}{T:TypeId}{xs:List e.D}(hb:w.heap[b]?=some (.cells cur T (0,0)))(h:cur.toList.take (xs.length * e.sz)=flat (xs.map (gh e))):HoldsK (j0 e) e.sz w b 0 xs.toArray:=by
 intro j hj;have hj':j<xs.length * e.sz:=by simpa using hj
 refine⟨?_,by grind [World.frozen?]⟩
 have h1:=CG hn ha xs hj';rw[<-h,List.getElem?_take_of_lt hj']at h1;simp_all [World.cell?]
theorem QW{P:Program}{ρ:Go.Shelf.Ren}(L:Go.Proofs.SlLaysF0.n6 P ρ)(aE:∀w,(isAgg (ρ.t 24)).run P w=.ok true w)(zE:∀w,(Go.sizeOf (ρ.t 24)).run P w=.ok e.sz w)[Inhabited e.D]{T:TypeId}
  {cf:e.D->e.D->Int} (hO:SWO (ltOf cf)) (hT:∀x y,(ltOf cf) x y=false->(ltOf cf) y x=false->x=y) {F:e.D×e.D×Unit->Comp (Int×Unit)} (hF:∀x y,∃n,(F (x,y,())).run n=some (cf x y,()))
  {O:zQ} {w:World} (hw:OkO O w) {u v:Value} {xs:List e.D} (hA:zAy (e.gr P) T O w u xs) (hv:((Ty.fn (.cons e (.cons e .nil)) (.cons (.int .i64) .nil)).gr P).v O w v F) (hl:xs.length<=LIM) :
  Calls P (ρ.f 6) #[u,v] w (AY (e.gr P) T O w u (xs.mergeSort fun x y=>!(ltOf cf) y x) (zFh false u)):=by
 obtain⟨⟨vs,h1,h2⟩,h3⟩:=hA;have sT:=BW hn h2
 subst sT;obtain⟨cs,⟨u',e1,⟨e2,e3⟩,e4⟩,e5⟩:=hv;obtain⟨g,cb,rfl,hg⟩:=e3 rfl;have hvu:v=.func (.func g) #[] cb:=by rw[e5,e1];rfl
 subst hvu;have fA:(xs.map (gh e)).length=xs.length:=List.length_map _
 have pV:(e.gr P).sz=e.sz:=Ty.yj P e;rcases h1.row.2 with ⟨f1,f2⟩|⟨b,cap,cur,f1,f2,f3,f4,f5,f6,f7⟩
 ·have hx:xs=[]:=List.eq_nil_of_length_eq_zero (by omega)
  subst hx;subst f1;refine Calls.mono (Go.Proofs.AnyF.slices_SortFunc_none L none 0 _ w) ?_;rintro e' w' ⟨he,rfl⟩;exact⟨_,.slice none 0 0,he,⟨⟨rfl,rfl,rfl,zMS _,fun _ _ _=>rfl⟩,.inl rfl⟩,⟨[],OwnS.nil _ _ _ _,by simp[yx]⟩,rfl,rfl⟩
 ·unfold LIM at hl
  subst f1;rw[fA]at f4 f7 h1 |-;rw[pV]at f6 f7;have hb:b<w.heap.size:=(zMp.1 f3).1
  have aV:O b≠0:=h3 b rfl;have eg:∀args w,(callFunc g args).run P w=.ok (.enter g args) w:=by
   intro args w;obtain⟨fn,g1,g2,g3⟩:=hg.h;grind [callFunc,Sem.run_bind,Sem.run_pure,Result.andThen,run_program]
  have hB8:=Qq (P:=P) hn ha hF hw (cb:=cb) hg e4 hb aV xs.toArray.size;have xW:=Go.Proofs.AnyQ.slices_SortFunc_total L e.sz aE zE (j0 e) (qg hn) (Qg hn) cf hO g cb b 0 cap xs.toArray w eg hB8 (Mh hn ha f3 f7) hb (by grind) hT
  rw[List.size_toArray]at xW;refine Calls.mono xW ?_;rintro e' w' ⟨he,n,os,rfl⟩;simp only[];generalize sS:(xs.mergeSort fun x y=>!(ltOf cf) y x)=ys
  have oA:ys.length=xs.length:=by grind [List.length_mergeSort]
  have hB9:(sortWorldK (j0 e) e.sz w b 0 n ys.toArray os).heap[b]?=some (.cells (Go.Sort.putCells id 0 (flatK (j0 e) e.sz ys.toArray) cur) T (0,0)):=by
   unfold sortWorldK;rw[Go.Sort.heap_grow_old _ _ (by simpa[putRowK,putRow,Go.Sort.mapBlock,ahead] using hb)]
   simp[putRowK,putRow,Go.Sort.mapBlock,ahead,Array.getElem?_modify,f3,Go.Sort.onCells]
  have hgr:w.grownBy (sortWorldK (j0 e) e.sz w b 0 n ys.toArray os) (some b):=by
   refine⟨rfl,rfl,rfl,by simp[sortWorldK,grow,putRowK,putRow,Go.Sort.mapBlock,ahead],fun k hk fE=>?_⟩
   unfold sortWorldK;rw[Go.Sort.heap_grow_old _ _ (by simpa[putRowK,putRow,Go.Sort.mapBlock,ahead] using hk)]
   have:b≠k:=fun e=>fE (by rw[e])
   simp[putRowK,putRow,Go.Sort.mapBlock,ahead,Array.getElem?_modify,this]
  have hC0:(Go.Sort.putCells id 0 (flatK (j0 e) e.sz ys.toArray) cur).toList.take (xs.length * e.sz)=flat (ys.map (gh e)):=by
   rw[<-D3 hn ha ys];have fH:xs.length * e.sz<=cur.size:=by rw[f6];exact Nat.mul_le_mul_right _ f4
   apply List.ext_getElem?;intro j;by_cases hj:j<xs.length * e.sz
   ·have h5:j<cur.size:=by omega
    have h6:j<(flatK (j0 e) e.sz ys.toArray).size:=by simpa[oA] using hj
    rw[List.getElem?_take_of_lt hj,Array.getElem?_toList,Array.getElem?_toList,Array.getElem?_eq_getElem h6];simp only[Go.Sort.putCells,Array.getElem?_mapIdx,Array.getElem?_eq_getElem h5,Option.map_some,Nat.zero_le,true_and,Nat.zero_add,Nat.sub_zero];grind
   ·rw[List.getElem?_take_eq_none (by omega),List.getElem?_eq_none (by simpa[oA] using hj)]
  refine⟨_,.slice (some ⟨b,0,none⟩) xs.length cap,he,⟨hgr,.inl rfl⟩,⟨ys.map (gh e),⟨?_,?_⟩,pK hn ys⟩,rfl,rfl⟩
  ·grind [AG]
  ·rw[pV,List.length_map,oA]
   refine⟨by grind [Kf,AG,List.length_map],.inr ⟨b,cap,_,rfl,Nat.zero_le _,hB9,f4,f5,?_,hC0⟩⟩
   grind [Go.Sort.putCells]
end enc
instance:Inhabited Pln:=⟨((0,0,0,()),0,())⟩
abbrev Um:Ty:=.cons (.cons (.int .i64) (.cons (.int .i64) (.cons (.int .i64) .nil))) (.cons (.int .i64) .nil)
instance:Inhabited Um.D:=⟨(((0:Int),(0:Int),(0:Int),()),(0:Int),())⟩
theorem X9(x y:Pln):ltOf Xv x y=true↔LtP x y:=by simp[ltOf,KG]
theorem JP(x y:Pln):ltOf Xv x y=false↔¬LtP x y:=by grind [X9]
theorem Ge:SWO (ltOf Xv) where
 irrefl x:=(JP x x).2 LtP.irr
 trans x y z h1 h2:=(X9 x z).2 (((X9 x y).1 h1).trans ((X9 y z).1 h2))
 ntrans x y z h1 h2:=by
  rw[JP]at *;intro h3;rcases LtP.tri y z with h|h|h
  ·exact h2 h
  ·grind
  ·exact h1 (h3.trans h)
theorem Mn(x y:Pln)(h1:ltOf Xv x y=false)(h2:ltOf Xv y x=false):x=y:=by
 grind [JP,LtP.tri]
theorem MU(l:List Pln):(l.mergeSort fun x y=>!(ltOf Xv) y x)=Jm l:=by
 refine List.Perm.eq_of_pairwise (le:=fun p q=>¬LtP q p) (fun a b _ _ h1 h2=>?_) ?_ (BM l) ((List.mergeSort_perm _ _).trans (pD l).symm)
 ·grind [LtP.tri]
 ·have:=List.pairwise_mergeSort (le:=fun x y:Pln=>!(ltOf Xv) y x) (fun a b c h1 h2=>?_) (fun a b=>?_) l
  ·grind [JP]
  ·simp only[Bool.not_eq_true']at *
   exact Ge.ntrans c b a h2 h1
  grind [LtP.asym,X9]
theorem Nk{P:Program}{ρ:Go.Shelf.Ren}(L:Go.Proofs.SlLaysF0.n6 P ρ){dd:TypeDesc}{z:Value}{by_:Nat}(hT:Eng.Ty P (ρ.t 24) dd z 4 by_)(hd:vP dd=true){T:TypeId}(hf:FnOk P (ρ.f 6)) :
  FO.ok P (ρ.f 6) ⟨Um,T,.cons (.fn (.cons Um (.cons Um .nil)) (.cons (.int .i64) .nil)) .nil,false,fun xs x=>Ct xs x.1⟩:=by
 refine⟨hf,fun O w hw u xs hA vs z hz n ys hy=>?_⟩
 obtain⟨v,aU,rfl,hv,sT⟩:=hz;rw[show aU=[] from sT]
 have hy':(Ct xs z.1).run n=some ys:=hy;unfold Ct at hy';split at hy'
 ·rename_i h
  have:=run_pure hy';subst this;have hm:=MU xs
  have:=QW (P:=P) (e:=Um) rfl rfl L (fun w=>by rw[hT.YM,hd]) hT.zz (T:=T) Ge Mn h.2 hw hA hv h.1
  refine Calls.mono this fun e w' he=>?_
  rw[<-hm];exact he
 ·cases hy'
end Go.Den
end
section
namespace Go.Proofs
open Go.Shelf
def Tryz.pE:Go.Shelf.Ren:=⟨fun|6=>203|15=>222|14=>221|28=>241|29=>242|20=>233|21=>234|22=>235|23=>236|24=>237|25=>238|26=>239|27=>240|46=>244|47=>245|48=>246|49=>247|50=>248|57=>249|n=>n,fun|22=>107|24=>106|25=>233|3=>3|39=>245|0=>0|53=>257|55=>259|4=>4|46=>250|45=>249|50=>254|5=>5|9=>9|66=>260|70=>264|76=>266|77=>267|n=>n,fun|n=>n⟩
theorem Tryz.zGS:Go.Proofs.SlLaysF0.n6 Tryz.prog Tryz.pE:={
 mixed:=by kernel_rfl
 f6:=⟨Tryz.f203.name,by decide,Tryz.func203.trans (zMh some (by kernel_rfl))⟩
 f14:=⟨Tryz.f221.name,by decide,Tryz.func221.trans (zMh some (by kernel_rfl))⟩
 f15:=Tryz.func222.trans (zMh some (by kernel_rfl))
 f20:=⟨Tryz.f233.name,by decide,Tryz.func233.trans (zMh some (by kernel_rfl))⟩
 f21:=⟨Tryz.f234.name,by decide,Tryz.func234.trans (zMh some (by kernel_rfl))⟩
 f22:=⟨Tryz.f235.name,by decide,Tryz.func235.trans (zMh some (by kernel_rfl))⟩
 f23:=⟨Tryz.f236.name,by decide,Tryz.func236.trans (zMh some (by kernel_rfl))⟩
 f24:=⟨Tryz.f237.name,by decide,Tryz.func237.trans (zMh some (by kernel_rfl))⟩
 f25:=⟨Tryz.f238.name,by decide,Tryz.func238.trans (zMh some (by kernel_rfl))⟩
 f26:=⟨Tryz.f239.name,by decide,Tryz.func239.trans (zMh some (by kernel_rfl))⟩
 f27:=⟨Tryz.f240.name,by decide,Tryz.func240.trans (zMh some (by kernel_rfl))⟩
 f28:=Tryz.func241.trans (zMh some (by kernel_rfl))
 f29:=Tryz.func242.trans (zMh some (by kernel_rfl))
 f46:=⟨Tryz.f244.name,by decide,Tryz.func244.trans (zMh some (by kernel_rfl))⟩
 f47:=Tryz.func245.trans (zMh some (by kernel_rfl))
 f48:=Tryz.func246.trans (zMh some (by kernel_rfl))
 f49:=⟨Tryz.f247.name,by decide,Tryz.func247.trans (zMh some (by kernel_rfl))⟩
 f50:=⟨Tryz.f248.name,by decide,Tryz.func248.trans (zMh some (by kernel_rfl))⟩
 f57:=⟨Tryz.f249.name,by decide,Tryz.func249.trans (zMh some (by kernel_rfl))⟩
 t0:=Tryz.underlying0
 a0:=Tryz.isAgg0
 z0:=Tryz.sizeOf0
 v0:=Tryz.zeroValue0
 t3:=Tryz.underlying3
 a3:=Tryz.isAgg3
 z3:=Tryz.sizeOf3
 v3:=Tryz.zeroValue3
 t4:=Tryz.underlying4
 a4:=Tryz.isAgg4
 z4:=Tryz.sizeOf4
 v4:=Tryz.zeroValue4
 t5:=Tryz.underlying5
 a5:=Tryz.isAgg5
 z5:=Tryz.sizeOf5
 v5:=Tryz.zeroValue5
 t9:=Tryz.underlying9
 a9:=Tryz.isAgg9
 z9:=Tryz.sizeOf9
 v9:=Tryz.zeroValue9
 t22:=Tryz.underlying107
 a22:=Tryz.isAgg107
 z22:=Tryz.sizeOf107
 v22:=Tryz.zeroValue107
 t25:=Tryz.underlying233
 a25:=Tryz.isAgg233
 z25:=Tryz.sizeOf233
 v25:=Tryz.zeroValue233
 t39:=Tryz.underlying245
 a39:=Tryz.isAgg245
 z39:=Tryz.sizeOf245
 v39:=Tryz.zeroValue245
 t45:=Tryz.underlying249
 a45:=Tryz.isAgg249
 z45:=Tryz.sizeOf249
 v45:=Tryz.zeroValue249
 t46:=Tryz.underlying250
 a46:=Tryz.isAgg250
 z46:=Tryz.sizeOf250
 v46:=Tryz.zeroValue250
 t50:=Tryz.underlying254
 a50:=Tryz.isAgg254
 z50:=Tryz.sizeOf254
 v50:=Tryz.zeroValue254
 t53:=Tryz.underlying257
 a53:=Tryz.isAgg257
 z53:=Tryz.sizeOf257
 v53:=Tryz.zeroValue257
 t55:=Tryz.underlying259
 a55:=Tryz.isAgg259
 z55:=Tryz.sizeOf259
 v55:=Tryz.zeroValue259
 t66:=Tryz.underlying260
 a66:=Tryz.isAgg260
 z66:=Tryz.sizeOf260
 v66:=Tryz.zeroValue260
 t70:=Tryz.underlying264
 a70:=Tryz.isAgg264
 z70:=Tryz.sizeOf264
 v70:=Tryz.zeroValue264
 t76:=Tryz.underlying266
 a76:=Tryz.isAgg266
 z76:=Tryz.sizeOf266
 v76:=Tryz.zeroValue266
 t77:=Tryz.underlying267
 a77:=Tryz.isAgg267
 z77:=Tryz.sizeOf267
 v77:=Tryz.zeroValue267 }
end Go.Proofs
end
section
set_option maxRecDepth 20000
namespace Go.Dn
open Go Go.Proofs Go.RowKit Go.Eng Go.Lift Go.Den
def Jb(f:Func):Code:=f.body.getD .skip
theorem zIT{α:Type}{l:List α}(h:l.length=4):∃a b c d,l=[a,b,c,d]:=by
 match l,h with
 | [a,b,c,d],_=>exact⟨a,b,c,d,rfl⟩
theorem zGW:RecG prog 99 Tryz.f99 (cl (Jb Tryz.f99)) (cr (Jb Tryz.f99)) 4 4 5 43 t43:=by
 have hT:=(zAx 43 i43 (by kernel_rfl)).ty
 have eT:∀w,(underlying 43).run prog w=.ok (.int .i64) w:=fun w=>by simp only[underlying,hT.u];rfl
 have hz:∀w,(zeroValue 43).run prog w=.ok i43.z w:=hT.kP;have lB:∀g,Fence.wide.fn g:=fun _=>trivial
 refine⟨Tryz.func99,⟨_,Tryz.func99,rfl,by kernel_rfl⟩,rfl,Tryz.results99,by decide,fun caps hc c₀ cs w v hv hu Q hQ=>?_,fun caps hc c₀ cs w hu Q hQ=>?_⟩
 ·obtain⟨a,b,c,d,rfl⟩:=zIT hc
  dsimp only [cl,Jb,Tryz.f99,Option.getD];apply wpSIn_region;show wpOpsSIn _ _ _ _ _ [0,1,2,3,4,5,6] _ _ _
  simp[wpOpsSIn,go_sem,recoverD,hu,Instr.typeAssert,eT,lB,Act.eval,Act.put];refine hQ _ w (Ext.refl w) ⟨?_,rfl⟩ ?_ ?_ ?_
  ·simp
  ·intro i u hi
   match i,hi with
   |0,hi=>simpa[Act.get] using hi
   |1,hi=>simpa[Act.get] using hi
   |2,hi=>simpa[Act.get] using hi
   |3,hi=>simpa[Act.get] using hi
  ·simp[Act.get]
  ·simp[Act.get]
 ·obtain⟨a,b,c,d,rfl⟩:=zIT hc
  dsimp only [cl,Jb,Tryz.f99,Option.getD];apply wpSIn_region;show wpOpsSIn _ _ _ _ _ [0,1,2,3,4,5,6] _ _ _
  simp[wpOpsSIn,go_sem,recoverD,hu,Instr.typeAssert,eT,lB,hz,Act.eval,Act.put];refine hQ _ w (Ext.refl w) ⟨?_,rfl⟩ ?_ ?_
  ·simp
  ·intro i u hi
   match i,hi with
   |0,hi=>simpa[Act.get] using hi
   |1,hi=>simpa[Act.get] using hi
   |2,hi=>simpa[Act.get] using hi
   |3,hi=>simpa[Act.get] using hi
  ·simp[Act.get]
end Go.Dn
end
section
set_option maxRecDepth 20000
namespace Go.Dn
open Go Go.Proofs Go.RowKit Go.Eng Go.Lift Go.Den
theorem zCU:RecG prog 108 Tryz.f108 (cl (Jb Tryz.f108)) (cr (Jb Tryz.f108)) 1 6 2 156 t156:=by
 have hT:=(zAx 156 zFy (by kernel_rfl)).ty
 have eT:∀w,(underlying 156).run prog w=.ok (.struct (prog.fieldsOf 156)) w:=hT.gf;have hz:∀w,(zeroValue 156).run prog w=.ok (.agg #[]) w:=hT.kP
 have pV:∀w,(sizeOf 156).run prog w=.ok 0 w:=hT.zz;have lB:∀g,Fence.wide.fn g:=fun _=>trivial
 refine⟨Tryz.func108,⟨_,Tryz.func108,rfl,by kernel_rfl⟩,rfl,Tryz.results108,by decide,fun caps hc c₀ cs w v hv hu Q hQ=>?_,fun caps hc c₀ cs w hu Q hQ=>?_⟩
 ·obtain⟨a,rfl⟩:=List.length_eq_one_iff.1 hc
  have hv:v=.agg #[]:=by
   obtain⟨O,w',z,cs',h1,h2⟩:=hv;have h1:cs'=[]:=h1
   subst h1;exact h2
  subst hv;dsimp only [cl,Jb,Tryz.f108,Option.getD];apply wpSIn_region;show wpOpsSIn _ _ _ _ _ [0,1,2,3,4,5,6,7] _ _ _
  simp[wpOpsSIn,go_sem,recoverD,hu,Instr.typeAssert,eT,lB,hz,pV,Act.eval,Act.put];refine hQ _ _ (Ext.alloc w _) ⟨?_,rfl⟩ ?_ ?_ ?_
  ·simp
  ·intro i u hi
   match i,hi with
   |0,hi=>simpa[Act.get] using hi
  ·simp[Act.get]
  ·simp[Act.get]
 ·obtain⟨a,rfl⟩:=List.length_eq_one_iff.1 hc
  dsimp only [cl,Jb,Tryz.f108,Option.getD];apply wpSIn_region;show wpOpsSIn _ _ _ _ _ [0,1,2,3,4,5,6,7] _ _ _
  simp[wpOpsSIn,go_sem,recoverD,hu,Instr.typeAssert,eT,lB,hz,pV,Act.eval,Act.put];refine hQ _ _ (Ext.alloc w _) ⟨?_,rfl⟩ ?_ ?_
  ·simp
  ·intro i u hi
   match i,hi with
   |0,hi=>simpa[Act.get] using hi
  ·simp[Act.get]
end Go.Dn
end
