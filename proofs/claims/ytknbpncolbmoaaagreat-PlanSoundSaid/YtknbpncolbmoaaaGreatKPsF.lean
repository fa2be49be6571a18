/- Lemmas behind a claim. -/
import Derived.Test.YtknbpncolbmoaaaGreatKPsE
set_option linter.unusedSimpArgs false
set_option linter.unusedVariables false
open Go.Lift.Comp (zA Qo zM YJ)
section
namespace Go.Geo
open Go Go.Eng Go.Lift Go.Den Go.F
variable {α β γ δ ε σ τ:Type}
theorem mc{s:List Cell}(hl:s.length<9223372036854775807){body:Int->Comp (Comp.Step Int (Unit⊕Int))}(hb:∀(i:Nat) c,s[i]?=some c->(body (i:Int)).val=some (if chk c=0 then .next ((i+1:Nat):Int) else .done (.inr (chk c))))(he:(body (s.length:Int)).val=some (.done (.inl ()))) :
  ∃r:Unit⊕Int,(match r with|.inl _=>0|.inr n=>n)=ja s/\(Comp.loop body 0).val=some r:=by
 have key:∀(ys zs:List Cell),s=zs++ys->∃r:Unit⊕Int,(match r with|.inl _=>0|.inr n=>n)=ja ys/\(Comp.loop body (zs.length:Int)).val=some r:=by
  intro ys
  induction ys with
  |nil =>
   intro zs hx;refine⟨.inl (),rfl,?_⟩;rw[zM,show zs.length=s.length by rw[hx];simp,he];rfl
  |cons y ys ih =>
   intro zs hx;have hy:s[zs.length]?=some y:=by rw[hx];simp
   unfold ja;by_cases h:chk y=0
   ·obtain⟨r,h1,h2⟩:=ih (zs++[y]) (by rw[hx];simp)
    refine⟨r,by rw[zLr h];exact h1,?_⟩
    rw[zM,hb _ _ hy,zLr h,zLP];simpa using h2
   ·refine⟨.inr (chk y),by rw[zLs h],?_⟩
    rw[zM,hb _ _ hy,zLs h,zLP]
 exact key s [] rfl
theorem uD(s:List Cell):(Yr s).val=some (sck s,()):=by
 unfold Yr sck;by_cases h:16<s.length
 ·rw[zLr (by rw[yd,zC];omega),zLr h,Comp.zB]
 ·rw[zLs (by rw[yd,zC];omega),zLs h]
  obtain⟨r,h1,h2⟩:=mc (s:=s) (by omega)
   (body:=(fun (x:Int)=>if ltI x (zF s)=true then
        (idx s x).bind fun x_1=>(Go.F.gU x_1).bind fun x_2=>if neI x_2.1 0=true then Comp.pure (.done (Sum.inr x_2.1)) else Comp.pure (.next (zJ .i64 x 1))
       else Comp.pure (.done (Sum.inl ()))))
   (fun i c hc=>by
    have gF:=zK hc;rw[zLr (by rw[zH,zC];omega),zA,zO hc,zLP,zA,jl,zLP,zN (by omega)]
    by_cases h:chk c=0
    ·rw[zLs (by rw[z6];simp[h]),zLr h,Comp.zB]
    ·rw[zLr (by rw[z6];exact h),zLs h,Comp.zB])
   (by rw[zLs (by rw[zH,zC];omega),Comp.zB])
  rw[zA];refine(zLi (fun o=>Option.bind o _) h2).trans ?_
  rw[zLP,<-h1];cases r<;>exact Comp.zB _
theorem XX(c:Cell){s:List Cell}(hl:s.length<9223372036854775807):(jD c s).val=some (sap c s,()):=by
 unfold jD;have h1:(zI s fun z=>gj z.1 c).val=some (s.any fun q=>!apa c q,()) :=
  Zs (xs:=s) (f:=fun z=>gj z.1 c) (p:=fun q=>!apa c q) hl fun q _=>by
   show (gj q c).val=_
   unfold gj;rw[zA,jm,zLP,Comp.zB];rfl
 rw[zA,h1,zLP,Comp.zB,yP];unfold sap;rw[List.all_eq_not_any_not]
theorem Bx{p:Pln}(h:okB p):(YW p).val=some (yq p,()):=by
 obtain⟨⟨h1,h2,h3⟩,h4⟩:=h;unfold YW wB;rw[zA,Comp.zB,zLP,Comp.zB,JW (by omega),YG (by simp only;omega),YG (by simp only;omega),YG (by simp only;omega)]
 unfold yq;simp only[Int.zero_sub]
theorem CK{c:Cell}{p:Pln}(h:c.length<=1000):(zL [c,[p]]).val=some (c++[p],()):=by
 have:=my (z:=((0,0,0,()),0,())) (xs:=[c,[p]]) (by simp;unfold LIM;omega) (by simp)
 simp only[List.flatten_cons,List.flatten_nil,zLx]at this;exact this
theorem rq{piece:Cell}{fs:List Pln}(hl:fs.length<=1000)(hB:∀p∈fs,okB p):(jg piece fs).val=some ((gp piece fs).map fun o=>(o,())):=by
 unfold jg;have key:∀(ys zs:List Pln) (rest:Cell),fs=zs++ys->∃e:Unit⊕Unit,(YC
       (fun (x:List (Pln)×Int)=>if ltI x.2 (zF fs)=true then
         (idx fs x.2).bind fun x_1=>if geI (zF x.1) 48=true then tell [(none,())] (Comp.pure ([],.done (Sum.inr ())))
          else
           (Go.F.YW x_1).bind fun x_2=>(Go.F.zL [x.1,[x_2.1]]).bind fun y=>(Go.F.gN y.1).bind fun y_1=>if gtI (zF y_1.1) 0=true then
               tell [(some y_1.1,())]
                ((Go.F.zL [x.1,[x_1]]).bind fun y=>(Go.F.gN y.1).bind fun y=>Comp.pure ([],.next (y.1,zJ .i64 x.2 1)))
              else
               (Go.F.zL [x.1,[x_1]]).bind fun y=>(Go.F.gN y.1).bind fun y=>Comp.pure ([],.next (y.1,zJ .i64 x.2 1))
        else Comp.pure ([],.done (Sum.inl ()))) (rest,(zs.length:Int))).val=some ((gp rest ys).map fun o=>(o,()),e):=by
  intro ys
  induction ys with
  |nil =>
   intro zs rest hx;exact⟨.inl (),Jq (by rw[zLs (by rw[zH,zC,hx];simp),Comp.zB];rfl)⟩
  |cons p ys ih =>
   intro zs rest hx;have hy:fs[zs.length]?=some p:=by rw[hx];simp
   have gF:=zK hy;have hp:=hB p (zLW hy)
   by_cases hr:48<=rest.length
   ·refine⟨.inr (),Jq ?_⟩
    rw[zLr (by rw[zH,zC];show (zs.length:Int)<_;omega),zA,zO hy,zLP,zLr (by rw[Ye,zC];show _<=((rest.length:Nat):Int);omega),Yg,Comp.zB]
    unfold gp;rw[zLr hr];rfl
   ·obtain⟨e,he⟩:=ih (zs++[p]) (ln (rest++[p])) (by rw[hx];simp)
    refine⟨e,?_⟩;have eJ:(gp rest (p::ys)).map (fun o=>(o,()))=(bif decide (ln (rest++[yq p])=[]) then [] else [(some (ln (rest++[yq p])),())])++(gp (ln (rest++[p])) ys).map fun o=>(o,()):=by
     conv=>lhs;unfold gp
     rw[zLs hr,List.map_append];cases decide (ln (rest++[yq p])=[])<;>rfl
    rw[eJ];refine tM (s':=(ln (rest++[p]),((zs.length+1:Nat):Int))) ?_ (by simpa using he)
    rw[zLr (by rw[zH,zC];show (zs.length:Int)<_;omega),zA,zO hy,zLP,zLs (by rw[Ye,zC];show ¬_<=((rest.length:Nat):Int);omega),
     zA,Bx hp,zLP,zA,CK (by show rest.length<=1000;omega),zLP,zA,KQ,zLP]
    have ht:((Go.F.zL [rest,[p]]).bind fun y=>(Go.F.gN y.1).bind fun y=>(Comp.pure ([],.next (y.1,zJ .i64 (zs.length:Int) 1)):Comp (List (Option Cell×Unit)×Comp.Step (Cell×Int) (Unit⊕Unit)))).val=some ([],.next (ln (rest++[p]),((zs.length+1:Nat):Int))):=by
     rw[zA,CK (by omega),zLP,zA,KQ,zLP,Comp.zB,zN (by omega)]
    by_cases h0:ln (rest++[yq p])=[]
    ·rw[zLs (by rw[yd,zC,h0];simp),zLu h0]
     exact ht
    ·rw[zLr (by rw[yd,zC];have:=List.length_pos_iff.2 h0;show (0:Int)<((ln (rest++[yq p])).length:Int);omega),Yg,zLt h0]
     refine(zLi (Option.map _) ht).trans ?_;rfl
 obtain⟨e,he⟩:=key fs [] piece rfl;rw[zA,zA];refine(zLi (fun o=>Option.bind (Option.bind o _) _) he).trans ?_
 rw[zLP,Yg];have h3:∀e:Unit⊕Unit,(match e with|Sum.inl x=>Comp.pure ([],())|Sum.inr x=>Comp.pure ([],()):Comp (List (Option Cell×Unit)×Unit)).val=some ([],()):=fun e=>by cases e<;>exact Comp.zB _
 refine(zLi (fun o=>Option.bind (Option.map _ o) _) (h3 e)).trans ?_
 simp only[Option.map_some,zLP,zLx];exact Comp.zB _
theorem pK{a:List Cell}{b:Int}:∀(L:List (Option Cell)) (out:List Cell),(∀c,some c∈L->c≠[])->out.length+L.length<=1000000->(K1
                   (fun (x :
                      List (List (Pln))×Int×List (List (Pln)))
                     (d:Option (List (Pln))×Unit) =>
                    match d.1 with
                    |none=>Comp.pure (.done ([],Int.ofNat 9))
                    |some xs =>
                     amb (uM xs) (Comp.pure (.done ([],Int.ofNat 9)))
                      ((app x.2.2 [xs]).bind fun zs=>Comp.pure (.next (x.1,x.2.1,zs))))
                   (L.map fun o=>(o,())) (a,b,out)).val=some (if vu L=true then .done ([],9) else .next (a,b,out++yM L):Comp.Step (List Cell×Int×List Cell) (List Cell×Int))
 | [],out,_,_=>by
  show (Comp.pure _).val=_
  rw[Comp.zB];simp[vu,yM]
 |none::L,out,_,_=>by
  show ((Comp.pure _).bind _).val=_
  rw[zA,Comp.zB,zLP,Comp.zB];rfl
 |some c::L,out,fC,kA=>by
  have hc:=fC c (by simp)
  simp only[zLZ]at kA;show ((amb (uM c) _ _).bind _).val=_
  have hn:uM c=false:=by cases c with
   |nil=>exact zLh rfl hc
   |cons _ _=>rfl
  have h1:(amb (uM c) (Comp.pure (.done ([],Int.ofNat 9))) ((app out [c]).bind fun zs=>Comp.pure (.next (a,b,zs))):Comp (Comp.Step (List Cell×Int×List Cell) (List Cell×Int))).val=some (.next (a,b,out++[c])):=by
   rw[hn];show ((app out [c]).bind _).val=_
   rw[zA,yO (by simp only[zLU];unfold LIM;omega),zLP,Comp.zB]
  rw[zA];refine(zLi (fun o=>Option.bind o _) h1).trans ?_
  rw[zLP];refine(pK L (out++[c]) (fun c' h=>fC c' (zLb _ h)) (by simp only[zLS,zLU];omega)).trans ?_
  show some (if vu L=true then _ else _)=some (if vu L=true then _ else _)
  simp only[yM,zLl,List.singleton_append]
theorem wQ{pieces:List Cell}(q:Cell)(hl:pieces.length<=200):(kB pieces q).val=some ((wth pieces q).1,(wth pieces q).2,()):=by
 unfold kB;rw[zA,Zb,zLP,yP];by_cases hf:ful q=true
 ·rw[zLs (by simp[hf]),zA,KQ,zLP]
  have hq:=W1 (c:=q)
  have key:∀(ys zs:List Cell) (out:List Cell),pieces=zs++ys->out.length+ys.length * 49<=20000->∃r,(match r with
    |.inl x=>some x.2.2
    |.inr _=>none)=wo q ys out/\(∀x,r=.inr x->x=([],9))/\(∀x,r=.inl x->x.1=[]/\x.2.1=0)/\(Comp.loop
        (fun (x:Int×List (List (Pln))×Int×List (List (Pln)))=>if ltI x.1 (zF pieces)=true then
          jn
           (fun (x_1:List (List (Pln))×Int×List (List (Pln)))=>Comp.pure (.next (zJ .i64 x.1 1,x_1.1,x_1.2.1,x_1.2.2)))
           fun (j :
             List (List (Pln))×Int×List (List (Pln))->Comp
               (Comp.Step
                (Int×List (List (Pln))×Int×List (List (Pln)))
                (List (List (Pln))×Int×List (List (Pln)) ⊕
                 List (List (Pln))×Int))) =>
           (idx pieces x.1).bind fun x_1=>(Go.F.kU x_1 q).bind fun x_2=>if x_2.1=true then (app x.2.2.2 [x_1]).bind fun zs=>j (x.2.1,x.2.2.1,zs)
             else
              (Go.F.Zd x_1 (ln q)).bind fun (x_3:Comp (List (Option (List (Pln))×Unit))×Unit)=>x_3.1.bind fun (xs:List (Option (List (Pln))×Unit))=>(K1
                   (fun (x :
                      List (List (Pln))×Int×List (List (Pln)))
                     (d:Option (List (Pln))×Unit) =>
                    match d.1 with
                    |none=>Comp.pure (.done ([],Int.ofNat 9))
                    |some xs =>
                     amb (uM xs) (Comp.pure (.done ([],Int.ofNat 9)))
                      ((app x.2.2 [xs]).bind fun zs=>Comp.pure (.next (x.1,x.2.1,zs))))
                   xs (x.2.1,x.2.2.1,x.2.2.2)).bind fun (r :
                   Comp.Step
                    (List (List (Pln))×Int×List (List (Pln)))
                    (List (List (Pln))×Int)) =>
                 match r with
                 |.next x=>j (x.1,x.2.1,x.2.2)
                 |.done e=>Comp.pure (.done (Sum.inr (e.1,e.2)))
         else Comp.pure (.done (Sum.inl (x.2.1,x.2.2.1,x.2.2.2)))) ((zs.length:Int),[],0,out)).val=some r:=by
   intro ys
   induction ys with
   |nil =>
    intro zs out hx kA;refine⟨.inl ([],0,out),rfl,(fun x h=>nomatch h),(fun x h=>by cases h;exact⟨rfl,rfl⟩),?_⟩
    rw[zM,zLs (by rw[zH,zC,hx];simp),Comp.zB];rfl
   |cons y ys ih =>
    intro zs out hx kA;simp only[zLZ]at kA;have hy:pieces[zs.length]?=some y:=by rw[hx];simp
    have gF:=zK hy;by_cases ha:apa y q=true
    ·obtain⟨r,h1,h2,h3,h4⟩:=ih (zs++[y]) (out++[y]) (by rw[hx];simp) (by simp only[zLS,zLU];omega)
     refine⟨r,by rw[h1];conv=>rhs;unfold wo;rw[zLr ha],h2,h3,?_⟩
     rw[zM,zLr (by rw[zH,zC];show (zs.length:Int)<_;omega),vk,zA,zO hy,zLP,zA,jm,zLP,zLr ha,zA,
      yO (by simp only[zLU];unfold LIM;show out.length+1<=_;omega),zLP,Comp.zB,zLP,zN (by omega)]
     simpa using h4
    ·have hp:(Zd y (ln q)).val=some (jg y (ln q),()):=by unfold Zd;exact Comp.zB _
     have hfo:=pK (a:=[]) (b:=0) (gp y (ln q)) out (fun c h=>zAw h) (by have:=l7 (fs:=ln q) (rest:=y);omega)
     by_cases hn:vu (gp y (ln q))=true
     ·refine⟨.inr ([],9),by conv=>rhs;unfold wo;rw[zLs ha,zLr hn],(fun x h=>by cases h;rfl),(fun x h=>nomatch h),?_⟩
      rw[zLr hn]at hfo;rw[zM,zLr (by rw[zH,zC];show (zs.length:Int)<_;omega),vk,zA,zO hy,zLP,zA,jm,zLP,zLs ha,zA,hp,zLP,zA,
       rq (by omega) hq.2,zLP,zA]
      refine(zLi (fun o=>Option.bind (Option.bind o _) _) hfo).trans ?_
      rw[zLP,Comp.zB];rfl
     ·have hs:=JO (l:=gp y (ln q))
      have hg:=l7 (fs:=ln q) (rest:=y);obtain⟨r,h1,h2,h3,h4⟩:=ih (zs++[y]) (out++yM (gp y (ln q))) (by rw[hx];simp) (by simp only[zLS];omega)
      refine⟨r,by rw[h1];conv=>rhs;unfold wo;rw[zLs ha,zLs hn],h2,h3,?_⟩
      rw[zLs hn]at hfo;rw[zM,zLr (by rw[zH,zC];show (zs.length:Int)<_;omega),vk,zA,zO hy,zLP,zA,jm,zLP,zLs ha,zA,hp,zLP,zA,
       rq (by omega) hq.2,zLP,zA]
      refine(zLi (fun o=>Option.bind (Option.bind o _) _) hfo).trans ?_
      rw[zLP,Comp.zB,zLP,zN (by omega)]
      simpa using h4
  obtain⟨r,h1,h2,h3,h4⟩:=key pieces [] [] rfl (by simp;omega)
  rw[zA];refine(zLi (fun o=>Option.bind o _) h4).trans ?_
  rw[zLP];unfold wth;rw[zLr hf,<-h1]
  cases r with
  |inl x =>
   simp only;by_cases kA:200<x.2.2.length
   ·rw[zLr (by rw[yd,zC];omega),zLr kA,Comp.zB]
   ·rw[zLs (by rw[yd,zC];omega),zLs kA,Comp.zB]
  |inr x =>
   rw[h2 x rfl];exact Comp.zB _
 ·rw[zLr (by simpa using hf),Comp.zB]
  unfold wth;rw[zLs hf]
theorem I7(c:Cell)(s:List Cell):(Yq c s).val=some ((mns c s).1,(mns c s).2,()):=by
 unfold Yq mns;rw[zA,jl,zLP];by_cases hc:chk c=0
 ·rw[zLs (by rw[z6];simp[hc]),zLr hc,zA,uD,zLP]
  by_cases hs:sck s=0
  ·have kA:s.length<=16:=by
    unfold sck at hs;split at hs
    ·cases hs
    ·omega
   rw[zLs (by rw[z6];simp[hs]),zLr hs,zA,Zb,zLP,yP]
   by_cases hf:ful c=true
   ·rw[zLs (by simp[hf]),zLr hf,zA,KQ,zLP]
    have key:∀(ys zs:List Cell) (pcs:List Cell),s=zs++ys->pcs.length<=200->∃r:List Cell⊕List Cell×Int,(match r with
      |.inl x=>(x,0)
      |.inr x =>
            x)=ZN pcs ys/\(Comp.loop
            (fun (x:List (List (Pln))×Int)=>if ltI x.2 (zF s)=true then
              (idx s x.2).bind fun x_1=>(Go.F.kB x.1 x_1).bind fun x_2=>if neI x_2.2.1 0=true then Comp.pure (.done (Sum.inr ([],x_2.2.1)))
                else Comp.pure (.next (x_2.1,zJ .i64 x.2 1))
             else Comp.pure (.done (Sum.inl x.1))) (pcs,(zs.length:Int))).val=some r:=by
     intro ys
     induction ys with
     |nil =>
      intro zs pcs hx kA;refine⟨.inl pcs,rfl,?_⟩;rw[zM,zLs (by rw[zH,zC,hx];simp),Comp.zB];rfl
     |cons y ys ih =>
      intro zs pcs hx hlen';have hy:s[zs.length]?=some y:=by rw[hx];simp
      have gF:=zK hy;unfold ZN;by_cases he:(wth pcs y).2=0
      ·obtain⟨r,h1,h2⟩:=ih (zs++[y]) (wth pcs y).1 (by rw[hx];simp) (E8 hlen')
       refine⟨r,by rw[zLr he];exact h1,?_⟩
       rw[zM,zLr (by rw[zH,zC];show (zs.length:Int)<_;omega),zA,zO hy,zLP,zA,wQ y hlen',zLP,zLs (by rw[z6];simp[he]),Comp.zB,zN (by omega),zLP]
       simpa using h2
      ·refine⟨.inr ([],(wth pcs y).2),by rw[zLs he],?_⟩
       rw[zM,zLr (by rw[zH,zC];show (zs.length:Int)<_;omega),zA,zO hy,zLP,zA,wQ y hlen',zLP,zLr (by rw[z6];exact he),Comp.zB,zLP]
    obtain⟨r,h1,h2⟩:=key s [] [ln c] rfl (by simp)
    rw[zA];refine(zLi (fun o=>Option.bind o _) h2).trans ?_
    rw[zLP,<-h1];cases r<;>exact Comp.zB _
   ·rw[zLr (by simpa using hf),zLs hf,Comp.zB]
  ·rw[zLr (by rw[z6];exact hs),zLs hs,Comp.zB]
 ·rw[zLr (by rw[z6];exact hc),zLs hc,Comp.zB]
theorem Ds(s:List Cell)(c:Cell):(kt s c).val=some ((cov s c).1,(cov s c).2,()):=by
 unfold kt cov;rw[zA,I7,zLP,Comp.zB,gy];unfold eqI;rw[zC]
 congr 3
 by_cases h:(mns c s).1.length=0
 ·simp[h]
 ·simp[h]
theorem AQ(s:List Cell):(jY s).val=some (sck s,()):=by
 unfold jY sck;by_cases h:16<s.length
 ·rw[zLr (by rw[yd,zC];omega),zLr h,Comp.zB]
 ·rw[zLs (by rw[yd,zC];omega),zLs h]
  obtain⟨r,h1,h2⟩:=mc (s:=s) (by omega)
   (body:=(fun (x:Int)=>if ltI x (zF s)=true then
        (idx s x).bind fun x_1=>(Go.F.zZ x_1).bind fun x_2=>if neI x_2.1 0=true then Comp.pure (.done (Sum.inr x_2.1)) else Comp.pure (.next (zJ .i64 x 1))
       else Comp.pure (.done (Sum.inl ()))))
   (fun i c hc=>by
    have gF:=zK hc;rw[zLr (by rw[zH,zC];omega),zA,zO hc,zLP,zA,jq,zLP,zN (by omega)]
    by_cases h:chk c=0
    ·rw[zLs (by rw[z6];simp[h]),zLr h,Comp.zB]
    ·rw[zLr (by rw[z6];exact h),zLs h,Comp.zB])
   (by rw[zLs (by rw[zH,zC];omega),Comp.zB])
  rw[zA];refine(zLi (fun o=>Option.bind o _) h2).trans ?_
  rw[zLP,<-h1];cases r<;>exact Comp.zB _
theorem wU(c:Cell){s:List Cell}(hl:s.length<9223372036854775807):(yv c s).val=some (sap c s,()):=by
 unfold yv;have h1:=Zt s (fun q=>apa c q) (c:=(Sum.inr false:Unit⊕Bool)) (d:=Sum.inl ())
  (body:=(fun (x:Int)=>if ltI x (zF s)=true then
       (idx s x).bind fun x_1=>(Go.F.zd c x_1).bind fun x_2=>if ntB x_2.1=true then Comp.pure (.done (Sum.inr false)) else Comp.pure (.next (zJ .i64 x 1))
      else Comp.pure (.done (Sum.inl ()))))
  (fun i q hq=>by
   have gF:=zK hq;rw[zLr (by rw[zH,zC];omega),zA,zO hq,zLP,zA,ZR,zLP,yP,zN (by omega)]
   cases apa c q<;>exact Comp.zB _)
  (by rw[zLs (by rw[zH,zC];omega),Comp.zB])
 rw[zA];refine(zLi (fun o=>Option.bind o _) h1).trans ?_
 rw[zLP];unfold sap;cases s.all fun q=>apa c q<;>exact Comp.zB _
theorem Il{p:Pln}(h:okB p):(vJ p).val=some (yq p,()):=Bx h
theorem Aq{c:Cell}{p:Pln}(h:c.length<=1000):(yJ c p).val=some (c++[p],()):=by
 unfold yJ;rw[zA,yO (by simp;unfold LIM;omega),zLP,zA,yO (by simp;unfold LIM;omega),zLP,Comp.zB]
 simp
def prt(piece:Cell)(fs:List Pln):List Cell×Int:=if vu (gp piece fs)=true then ([],9) else (yM (gp piece fs),0)
theorem Dj{l m:List (Option α)}:vu (l++m)=(vu l || vu m):=by
 induction l with
 |nil=>simp[vu]
 |cons x l ih=>cases x<;>simp[vu,ih]
theorem Ih{l m:List (Option α)}:yM (l++m)=yM l++yM m:=by
 induction l with
 |nil=>simp[yM]
 |cons x l ih=>cases x<;>simp[yM,ih]
theorem DN{piece:Cell}{fs:List Pln}(hl:fs.length<=1000)(hB:∀p∈fs,okB p):(gJ piece fs).val=some ((prt piece fs).1,(prt piece fs).2,()):=by
 unfold gJ
 have key:∀(ys zs:List Pln) (rest:Cell) (out:List Cell),fs=zs++ys->out.length+ys.length<=10000->∃r:List Cell⊕List Cell×Int,(match r with
   |.inl x=>(x,0)
   |.inr x=>x)=(if vu (gp rest ys)=true then ([],9) else (out++yM (gp rest ys),0))/\(Comp.loop
     (fun (x:List (List (Pln))×List (Pln)×Int)=>if ltI x.2.2 (zF fs)=true then
       if geI (zF x.2.1) 48=true then Comp.pure (.done (Sum.inr ([],9)))
       else
        (idx fs x.2.2).bind fun x_1=>(Go.F.vJ x_1).bind fun x_2=>(Go.F.yJ x.2.1 x_2.1).bind fun y=>(Go.F.zn y.1).bind fun x_3=>jn
             (fun (x_4:List (List (Pln)))=>(idx fs x.2.2).bind fun x_5=>(Go.F.yJ x.2.1 x_5).bind fun y=>(Go.F.zn y.1).bind fun x_6=>Comp.pure (.next (x_4,x_6.1,zJ .i64 x.2.2 1)))
             fun (j :
               List (List (Pln))->Comp
                 (Comp.Step (List (List (Pln))×List (Pln)×Int)
                  (List (List (Pln))⊕List (List (Pln))×Int))) =>
             if gtI (zF x_3.1) 0=true then (app x.1 [x_3.1]).bind fun zs=>j zs
             else j x.1
      else Comp.pure (.done (Sum.inl x.1))) (out,rest,(zs.length:Int))).val=some r:=by
  intro ys
  induction ys with
  |nil =>
   intro zs rest out hx _;refine⟨.inl out,by simp[gp,vu,yM],?_⟩
   rw[zM,zLs (by rw[zH,zC,hx];simp),Comp.zB];rfl
  |cons p ys ih =>
   intro zs rest out hx kA;simp only[zLZ]at kA;have hy:fs[zs.length]?=some p:=by rw[hx];simp
   have gF:=zK hy;have hp:=hB p (zLW hy)
   by_cases hr:48<=rest.length
   ·refine⟨.inr ([],9),by unfold gp;rw[zLr hr];rfl,?_⟩
    rw[zM,zLr (by rw[zH,zC];show (zs.length:Int)<_;omega),zLr (by rw[Ye,zC];show _<=((rest.length:Nat):Int);omega),Comp.zB];rfl
   ·let out2:List Cell:=if ln (rest++[yq p])=[] then out else out++[ln (rest++[yq p])]
    have hC8:out2.length<=out.length+1:=by
     show (if ln (rest++[yq p])=[] then out else out++[ln (rest++[yq p])]).length<=_
     split<;>simp
    obtain⟨r,h1,h2⟩:=ih (zs++[p]) (ln (rest++[p])) out2 (by rw[hx];simp) (by omega)
    refine⟨r,?_,?_⟩
    ·rw[h1]
     have eJ:gp rest (p::ys)=(bif decide (ln (rest++[yq p])=[]) then [] else [some (ln (rest++[yq p]))])++gp (ln (rest++[p])) ys:=by
      conv=>lhs;unfold gp
      rw[zLs hr]
     rw[eJ,Dj,Ih];show (if _ then _ else ((if ln (rest++[yq p])=[] then out else out++[ln (rest++[yq p])])++_,_))=_
     by_cases h0:ln (rest++[yq p])=[]
     ·rw[zLu h0,zLr h0];simp[vu,yM]
     ·rw[zLt h0,zLs h0];simp[vu,yM]
    ·have ht:∀o:List Cell,((idx fs (zs.length:Int)).bind fun x_5=>(Go.F.yJ rest x_5).bind fun y=>(Go.F.zn y.1).bind fun x_6=>(Comp.pure (.next (o,x_6.1,zJ .i64 (zs.length:Int) 1)):Comp (Comp.Step (List Cell×Cell×Int) (List Cell⊕List Cell×Int)))).val=some (.next (o,ln (rest++[p]),((zs.length+1:Nat):Int))):=fun o=>by
      rw[zA,zO hy,zLP,zA,Aq (by omega),zLP,zA,XD,zLP,Comp.zB,zN (by omega)]
     rw[zM,zLr (by rw[zH,zC];show (zs.length:Int)<_;omega),zLs (by rw[Ye,zC];show ¬_<=((rest.length:Nat):Int);omega),
      zA,zO hy,zLP,zA,Il hp,zLP,zA,Aq (by show rest.length<=1000;omega),zLP,zA,XD,zLP,vk]
     have tP:(if gtI (zF (ln (rest++[yq p]))) 0=true then (app out [ln (rest++[yq p])]).bind fun zs1=>((idx fs (zs.length:Int)).bind fun x_5=>(Go.F.yJ rest x_5).bind fun y=>(Go.F.zn y.1).bind fun x_6=>(Comp.pure (.next (zs1,x_6.1,zJ .i64 (zs.length:Int) 1)):Comp (Comp.Step (List Cell×Cell×Int) (List Cell⊕List Cell×Int))))
       else ((idx fs (zs.length:Int)).bind fun x_5=>(Go.F.yJ rest x_5).bind fun y=>(Go.F.zn y.1).bind fun x_6=>(Comp.pure (.next (out,x_6.1,zJ .i64 (zs.length:Int) 1)):Comp (Comp.Step (List Cell×Cell×Int) (List Cell⊕List Cell×Int))))).val=some (.next (out2,ln (rest++[p]),((zs.length+1:Nat):Int))):=by
      show _=some (Comp.Step.next (if ln (rest++[yq p])=[] then out else out++[ln (rest++[yq p])],_,_))
      by_cases h0:ln (rest++[yq p])=[]
      ·rw[zLs (by rw[yd,zC,h0];simp),zLr h0]
       exact ht out
      ·rw[zLr (by rw[yd,zC];have:=List.length_pos_iff.2 h0;omega),zLs h0,zA,yO (by simp only[zLU];unfold LIM;omega),zLP]
       exact ht _
     refine(zLi (fun o=>Option.bind o _) tP).trans ?_
     rw[zLP];simpa using h2
 obtain⟨r,h1,h2⟩:=key fs [] piece [] rfl (by simp;omega)
 rw[zA];refine(zLi (fun o=>Option.bind o _) h2).trans ?_
 rw[zLP]
 have hp:prt piece fs=(match (generalizing:=false) r with
   |.inl x=>(x,0)
   |.inr x=>x):=by rw[h1];rfl
 rw[hp];cases r<;>exact Comp.zB _
theorem KB{pieces:List Cell}(q:Cell)(hl:pieces.length<=200):(yy pieces q).val=some ((wth pieces q).1,(wth pieces q).2,()):=by
 unfold yy;rw[zA,YQ,zLP,yP];by_cases hf:ful q=true
 ·rw[zLs (by simp[hf])]
  have hq:=W1 (c:=q)
  have key:∀(ys zs:List Cell) (out:List Cell),pieces=zs++ys->out.length+ys.length * 49<=20000->∃r:List Cell⊕List Cell×Int,(match r with
    |.inl x=>some x
    |.inr _=>none)=wo q ys out/\(∀x,r=.inr x->x=([],9))/\(Comp.loop
       (fun (x:List (List (Pln))×Int)=>if ltI x.2 (zF pieces)=true then
         jn (fun (x_1:List (List (Pln)))=>Comp.pure (.next (x_1,zJ .i64 x.2 1)))
          fun (j :
            List (List (Pln))->Comp
              (Comp.Step (List (List (Pln))×Int)
               (List (List (Pln))⊕List (List (Pln))×Int))) =>
          (idx pieces x.2).bind fun x_1=>(Go.F.zd x_1 q).bind fun x_2=>if x_2.1=true then
             (idx pieces x.2).bind fun x_3=>(app x.1 [x_3]).bind fun zs=>j zs
            else
             (idx pieces x.2).bind fun x_3=>(Go.F.zn q).bind fun x_4=>(Go.F.gJ x_3 x_4.1).bind fun x_5=>if neI x_5.2.1 0=true then Comp.pure (.done (Sum.inr ([],x_5.2.1)))
                else (app x.1 x_5.1).bind fun zs=>j zs
        else Comp.pure (.done (Sum.inl x.1))) (out,(zs.length:Int))).val=some r:=by
   intro ys
   induction ys with
   |nil =>
    intro zs out hx kA;refine⟨.inl out,rfl,(fun x h=>nomatch h),?_⟩
    rw[zM,zLs (by rw[zH,zC,hx];simp),Comp.zB];rfl
   |cons y ys ih =>
    intro zs out hx kA;simp only[zLZ]at kA;have hy:pieces[zs.length]?=some y:=by rw[hx];simp
    have gF:=zK hy;by_cases ha:apa y q=true
    ·obtain⟨r,h1,h2,h4⟩:=ih (zs++[y]) (out++[y]) (by rw[hx];simp) (by simp only[zLS,zLU];omega)
     refine⟨r,by rw[h1];conv=>rhs;unfold wo;rw[zLr ha],h2,?_⟩
     rw[zM,zLr (by rw[zH,zC];show (zs.length:Int)<_;omega),vk,zA,zO hy,zLP,zA,ZR,zLP,zLr ha,zA,zO hy,zLP,zA,
      yO (by simp only[zLU];unfold LIM;show out.length+1<=_;omega),zLP,Comp.zB,zLP,zN (by omega)]
     simpa using h4
    ·have oF:=DN (piece:=y) (fs:=ln q) (by omega) hq.2
     by_cases hn:vu (gp y (ln q))=true
     ·have hp:prt y (ln q)=([],9):=by unfold prt;rw[zLr hn]
      refine⟨.inr ([],9),by conv=>rhs;unfold wo;rw[zLs ha,zLr hn],(fun x h=>by cases h;rfl),?_⟩
      rw[hp]at oF;rw[zM,zLr (by rw[zH,zC];show (zs.length:Int)<_;omega),vk,zA,zO hy,zLP,zA,ZR,zLP,zLs ha,zA,zO hy,zLP,zA,
       XD,zLP,zA,oF,zLP,zLr (by rw[z6];show (9:Int)≠0;decide),Comp.zB]
      rfl
     ·have hp:prt y (ln q)=(yM (gp y (ln q)),0):=by unfold prt;rw[zLs hn]
      have hs:=JO (l:=gp y (ln q));have hg:=l7 (fs:=ln q) (rest:=y)
      obtain⟨r,h1,h2,h4⟩:=ih (zs++[y]) (out++yM (gp y (ln q))) (by rw[hx];simp) (by simp only[zLS];omega)
      refine⟨r,by rw[h1];conv=>rhs;unfold wo;rw[zLs ha,zLs hn],h2,?_⟩
      rw[hp]at oF;rw[zM,zLr (by rw[zH,zC];show (zs.length:Int)<_;omega),vk,zA,zO hy,zLP,zA,ZR,zLP,zLs ha,zA,zO hy,zLP,zA,
       XD,zLP,zA,oF,zLP,zLs (by rw[z6];simp),zA,yO (by unfold LIM;show out.length+(yM (gp y (ln q))).length<=_;omega),zLP,Comp.zB,zLP,zN (by omega)]
      simpa using h4
  obtain⟨r,h1,h2,h4⟩:=key pieces [] [] rfl (by simp;omega)
  rw[zA];refine(zLi (fun o=>Option.bind o _) h4).trans ?_
  rw[zLP];unfold wth;rw[zLr hf,<-h1]
  cases r with
  |inl x =>
   simp only;by_cases kA:200<x.length
   ·rw[zLr (by rw[yd,zC];omega),zLr kA,Comp.zB]
   ·rw[zLs (by rw[yd,zC];omega),zLs kA,Comp.zB]
  |inr x =>
   rw[h2 x rfl];exact Comp.zB _
 ·rw[zLr (by simpa using hf),Comp.zB]
  unfold wth;rw[zLs hf]
theorem pE:∀(s:List Cell),ZN [] s=([],0)
 | []=>rfl
 |q::s=>by
  have h:wth [] q=([],0):=by
   unfold wth;split
   ·rfl
   ·rfl
  unfold ZN;rw[h];exact pE s
theorem DO(c:Cell)(s:List Cell):(jX c s).val=some ((mns c s).1,(mns c s).2,()):=by
 unfold jX mns;rw[zA,jq,zLP,vk];by_cases hc:chk c=0
 ·rw[zLr (by rw[yi];exact hc),zLr hc,zA,AQ,zLP]
  by_cases hs:sck s=0
  ·have kA:s.length<=16:=by
    unfold sck at hs;split at hs
    ·cases hs
    ·omega
   show (if neI (sck s) 0=true then _ else _:Comp (List Cell×Int×Unit)).val=_
   rw[zLs (by rw[z6];simp[hs]),zLr hs,zA,YQ,zLP,vk]
   have key:∀(ys zs:List Cell) (pcs:List Cell),s=zs++ys->pcs.length<=200->∃r:List Cell⊕List Cell×Int,(match r with
     |.inl x=>(x,0)
     |.inr x =>
           x)=ZN pcs ys/\(Comp.loop
           (fun (x:List (List (Pln))×Int)=>if ltI x.2 (zF s)=true then
             (idx s x.2).bind fun x_1=>(Go.F.yy x.1 x_1).bind fun x_2=>if neI x_2.2.1 0=true then Comp.pure (.done (Sum.inr ([],x_2.2.1)))
               else Comp.pure (.next (x_2.1,zJ .i64 x.2 1))
            else Comp.pure (.done (Sum.inl x.1))) (pcs,(zs.length:Int))).val=some r:=by
    intro ys
    induction ys with
    |nil =>
     intro zs pcs hx kA;refine⟨.inl pcs,rfl,?_⟩;rw[zM,zLs (by rw[zH,zC,hx];simp),Comp.zB];rfl
    |cons y ys ih =>
     intro zs pcs hx hlen';have hy:s[zs.length]?=some y:=by rw[hx];simp
     have gF:=zK hy;unfold ZN;by_cases he:(wth pcs y).2=0
     ·obtain⟨r,h1,h2⟩:=ih (zs++[y]) (wth pcs y).1 (by rw[hx];simp) (E8 hlen')
      refine⟨r,by rw[zLr he];exact h1,?_⟩
      rw[zM,zLr (by rw[zH,zC];show (zs.length:Int)<_;omega),zA,zO hy,zLP,zA,KB y hlen',zLP,zLs (by rw[z6];simp[he]),Comp.zB,zN (by omega),zLP]
      simpa using h2
     ·refine⟨.inr ([],(wth pcs y).2),by rw[zLs he],?_⟩
      rw[zM,zLr (by rw[zH,zC];show (zs.length:Int)<_;omega),zA,zO hy,zLP,zA,KB y hlen',zLP,zLr (by rw[z6];exact he),Comp.zB,zLP]
   have tail:∀pcs:List Cell,pcs.length<=200->((Comp.loop
            (fun (x:List (List (Pln))×Int)=>if ltI x.2 (zF s)=true then
              (idx s x.2).bind fun x_1=>(Go.F.yy x.1 x_1).bind fun x_2=>if neI x_2.2.1 0=true then Comp.pure (.done (Sum.inr ([],x_2.2.1)))
                else Comp.pure (.next (x_2.1,zJ .i64 x.2 1))
             else Comp.pure (.done (Sum.inl x.1)))
            (pcs,0)).bind fun (x:List (List (Pln))⊕List (List (Pln))×Int)=>match x with
          |Sum.inl x=>(Comp.pure (x,0,()):Comp (List Cell×Int×Unit))
          |Sum.inr x=>Comp.pure (x.1,x.2,())).val=some ((ZN pcs s).1,(ZN pcs s).2,()):=by
    intro pcs hp;obtain⟨r,h1,h2⟩:=key s [] pcs rfl hp;rw[zA];refine(zLi (fun o=>Option.bind o _) h2).trans ?_
    rw[zLP,<-h1];cases r<;>exact Comp.zB _
   by_cases hf:ful c=true
   ·rw[zLr hf,zLr hf,zA,XD,zLP,zA,yO (by simp;unfold LIM;omega),zLP]
    exact tail [ln c] (by simp)
   ·rw[zLs hf,zLs hf]
    refine(tail [] (by simp)).trans ?_
    rw[pE]
  ·show (if neI (sck s) 0=true then _ else _:Comp (List Cell×Int×Unit)).val=_
   rw[zLr (by rw[z6];exact hs),zLs hs,Comp.zB]
 ·rw[zLs (by rw[yi];exact hc),zLs hc]
  show (if neI (chk c) 0=true then _ else _:Comp (List Cell×Int×Unit)).val=_
  rw[zLr (by rw[z6];exact hc),Comp.zB]
theorem AX(s:List Cell)(c:Cell):(vE s c).val=some ((cov s c).1,(cov s c).2,()):=by
 unfold vE cov;rw[zA,DO,zLP,Comp.zB,gy];unfold eqI;rw[zC]
 congr 3
 by_cases h:(mns c s).1.length=0
 ·simp[h]
 ·simp[h]
abbrev Part:=vC×List Cell×List Int×Unit
abbrev vN:=List Bool×List Bool×List Cell×Unit
abbrev Eff:=List Cell×List Cell×Int×List Int×Unit
abbrev Job:=Part×vN×List Eff×Unit
def j5(w:Int):Bool:=decide (w<1) || decide (3<w)
def Xu:List Cell->List Cell->Bool
 |_,[]=>true
 |seen,c::l=>ful c && (sap c seen && Xu (seen++[c]) l)
def ckP(p:Part):Int :=
 if p.2.1.length=0\/16<p.2.1.length then 2 else if p.2.2.1.length≠p.2.1.length\/p.2.2.1.any j5=true then 1 else bif Xu [] p.2.1 then 0 else 13
def Yf(p:Part)(x:vN):Bool:=(decide (x.1.length=p.2.1.length) && decide (x.2.1.length=p.2.1.length)) && (decide (x.2.2.1.length<=24) && decide (ja x.2.2.1=0))
theorem JR{c:Cell}{s:List Cell}:ja (c::s)=if chk c=0 then ja s else chk c:=rfl
theorem ZC{s:List Cell}:ja s=0↔∀c∈s,chk c=0:=by
 induction s with
 |nil=>simp[ja]
 |cons c s ih =>
  unfold ja;by_cases h:chk c=0
  ·rw[zLr h,ih]
   constructor
   ·intro h2 d hd
    rcases zLV.1 hd with rfl|hd
    ·exact h
    ·exact h2 d hd
   ·exact fun h2 d hd=>h2 d (zLb _ hd)
  ·rw[zLs h]
   exact⟨fun e=>zLh e h,fun h2=>zLh (h2 c (by simp)) h⟩
theorem KU{s t:List Cell}:ja (s++t)=if ja s=0 then ja t else ja s:=by
 induction s with
 |nil=>simp[ja]
 |cons c s ih =>
  rw[List.cons_append,JR,JR];by_cases h:chk c=0
  ·rw[zLr h,zLr h,ih]
  ·rw[zLs h,zLs h,zLs h]
theorem XS{s:List Cell}(hl:s.length<9223372036854775807):(yY s).val=some (ja s,()):=by
 unfold yY;obtain⟨r,h1,h2⟩:=mc (s:=s) hl
  (body:=(fun (x:Int)=>if ltI x (zF s)=true then
       (idx s x).bind fun x_1=>(Go.F.zZ x_1).bind fun x_2=>if neI x_2.1 0=true then Comp.pure (.done (Sum.inr x_2.1)) else Comp.pure (.next (zJ .i64 x 1))
      else Comp.pure (.done (Sum.inl ()))))
  (fun i c hc=>by
   have gF:=zK hc;rw[zLr (by rw[zH,zC];omega),zA,zO hc,zLP,zA,jq,zLP,zN (by omega)]
   by_cases h:chk c=0
   ·rw[zLs (by rw[z6];simp[h]),zLr h,Comp.zB]
   ·rw[zLr (by rw[z6];exact h),zLs h,Comp.zB])
  (by rw[zLs (by rw[zH,zC];omega),Comp.zB])
 rw[zA];refine(zLi (fun o=>Option.bind o _) h2).trans ?_
 rw[zLP,<-h1];cases r<;>exact Comp.zB _
theorem Uy{xs:List α}{k:Nat}(h:k<=xs.length):(sub xs 0 (k:Int)).val=some (xs.take k):=by
 rw[YK (by omega)];simp
theorem uC{p:Part}(hw:p.2.2.1.length<9223372036854775807):(Yp p).val=some (ckP p,()):=by
 unfold Yp ckP;by_cases h1:p.2.1.length=0\/16<p.2.1.length
 ·rw[zLr (by rw[gx,zLp,yi,yd,zC];omega),zLr h1,Comp.zB]
 ·rw[zLs (by rw[gx,zLp,yi,yd,zC];omega),zLs h1,zA]
  have hc:(zj p.2.2.1 fun z=>vy z.1).val=some (p.2.2.1.any j5,()) :=
   Zs (xs:=p.2.2.1) (f:=fun z=>vy z.1) (p:=j5) hw fun w _=>by
    show (vy w).val=_
    unfold vy;rw[Comp.zB,gx];rfl
  have dD:(Comp.loop
        (fun (x:Int)=>if ltI x (zF p.2.1)=true then
          (idx p.2.1 x).bind fun x_1=>(Go.F.jz x_1).bind fun x_2=>(Comp.gd (ntB (ntB x_2.1)) (sub p.2.1 0 x) []).bind fun x_3=>(Comp.gd (ntB (ntB x_2.1)) (Go.F.jD x_1 x_3) (false,())).bind fun x_4=>if sel (ntB x_2.1) true (ntB x_4.1)=true then Comp.pure (.done (Sum.inr 13))
              else Comp.pure (.next (zJ .i64 x 1))
         else Comp.pure (.done (Sum.inl ():Unit⊕Int)))
        0).val=some (bif Xu [] p.2.1 then .inl () else .inr 13):=by
   have key:∀(ys zs:List Cell),p.2.1=zs++ys->(Comp.loop
        (fun (x:Int)=>if ltI x (zF p.2.1)=true then
          (idx p.2.1 x).bind fun x_1=>(Go.F.jz x_1).bind fun x_2=>(Comp.gd (ntB (ntB x_2.1)) (sub p.2.1 0 x) []).bind fun x_3=>(Comp.gd (ntB (ntB x_2.1)) (Go.F.jD x_1 x_3) (false,())).bind fun x_4=>if sel (ntB x_2.1) true (ntB x_4.1)=true then Comp.pure (.done (Sum.inr 13))
              else Comp.pure (.next (zJ .i64 x 1))
         else Comp.pure (.done (Sum.inl ():Unit⊕Int))) (zs.length:Int)).val=some (bif Xu zs ys then .inl () else .inr 13):=by
    intro ys
    induction ys with
    |nil =>
     intro zs hx;rw[zM,zLs (by rw[zH,zC,hx];simp),Comp.zB];rfl
    |cons y ys ih =>
     intro zs hx;have hy:p.2.1[zs.length]?=some y:=by rw[hx];simp
     have gF:=zK hy;have ht:p.2.1.take zs.length=zs:=by rw[hx];simp
     rw[zM,zLr (by rw[zH,zC];omega),zA,zO hy,zLP,zA,Zb,zLP]
     unfold Xu
     cases hf:ful y with
     |false =>
      rw[zA];show Option.bind (Option.bind (Comp.pure _).val _) _=_
      rw[Comp.zB,zLP,zA];show Option.bind (Option.bind (Comp.pure _).val _) _=_
      rw[Comp.zB,zLP,zLr (by rfl),Comp.zB];rfl
     |true =>
      rw[zA];show Option.bind (Option.bind (sub p.2.1 0 (zs.length:Int)).val _) _=_
      rw[Uy (by omega),zLP,ht,zA]
      show Option.bind (Option.bind (jD y zs).val _) _=_
      rw[XX y (by omega),zLP]
      cases ha:sap y zs with
      |false=>rw[zLr (by rfl),Comp.zB];rfl
      |true =>
       rw[zLs (by simp[sel,ntB]),Comp.zB,zN (by omega),zLP]
       simpa using ih (zs++[y]) (by rw[hx];simp)
   exact key p.2.1 [] rfl
  have bE:∀b:Bool,((Comp.pure (bif b then Sum.inl () else Sum.inr 13):Comp (Unit⊕Int)).bind fun (x:Unit⊕Int)=>match x with
      |Sum.inl x=>(Comp.pure (0,()):Comp (Int×Unit))
      |Sum.inr x=>Comp.pure (x,())).val=some (bif b then 0 else 13,()):=fun b=>by
   cases b<;>(rw[zA,Comp.zB,zLP];exact Comp.zB _)
  by_cases h2:p.2.2.1.length≠p.2.1.length
  ·have e:neI (zF p.2.2.1) (zF p.2.1)=true:=by rw[z6,zC,zC];omega
   rw[e];show Option.bind (Comp.pure _).val _=_
   rw[Comp.zB,zLP,zLr (by rfl),Comp.zB,zLr (.inl h2)]
  ·have e:neI (zF p.2.2.1) (zF p.2.1)=false:=by unfold neI;rw[zLt];rw[zC,zC];omega
   rw[e];show Option.bind (zj p.2.2.1 fun z=>vy z.1).val _=_
   rw[hc,zLP];by_cases h3:p.2.2.1.any j5=true
   ·rw[zLr (by rw[h3];rfl),Comp.zB,zLr (.inr h3)]
   ·rw[zLs (by simpa[sel] using h3),zLs (by rintro(h|h);exact h2 h;exact h3 h),zA]
    refine(zLi (fun o=>Option.bind o _) dD).trans ?_
    rw[zLP];have:=bE (Xu [] p.2.1)
    rw[zA,Comp.zB,zLP]at this;exact this
theorem Y7{p:Part}(hw:p.2.2.1.length<9223372036854775807):(gI p).val=some (ckP p,()):=by
 unfold gI ckP;by_cases h1:p.2.1.length=0\/16<p.2.1.length
 ·rw[zLr (by rw[gx,zLp,zH,yd,zC];omega),zLr h1,Comp.zB]
 ·rw[zLs (by rw[gx,zLp,zH,yd,zC];omega),zLs h1]
  by_cases h2:p.2.2.1.length≠p.2.1.length
  ·rw[zLr (by rw[z6,zC,zC];omega),Comp.zB,zLr (.inl h2)]
  ·rw[zLs (by rw[z6,zC,zC];omega)]
   have hw1:=Zt p.2.2.1 (fun w=>!j5 w) (c:=(Sum.inr 1:Unit⊕Int)) (d:=Sum.inl ())
    (body:=(fun (x:Int)=>if ltI x (zF p.2.2.1)=true then
         (idx p.2.2.1 x).bind fun x_1=>(Comp.gd (ntB (ltI x_1 1)) (idx p.2.2.1 x) (Int.ofNat 0)).bind fun x_2=>if sel (ltI x_1 1) true (gtI x_2 3)=true then Comp.pure (.done (Sum.inr 1))
           else Comp.pure (.next (zJ .i64 x 1))
        else Comp.pure (.done (Sum.inl ()))))
    (fun i w hx=>by
     have gF:=zK hx;rw[zLr (by rw[zH,zC];omega),zA,zO hx,zLP,zA,Qo,zO hx,zN (by omega)]
     unfold j5;by_cases h1:w<1
     ·have:ltI w 1=true:=by rw[zH];exact h1
      simp[this,yP,sel,h1]
     ·have:ltI w 1=false:=by unfold ltI;exact zLt h1
      by_cases h3:3<w
      ·have h4:gtI w 3=true:=by rw[yd];exact h3
       simp[this,yP,sel,h1,h3,h4]
      ·have h4:gtI w 3=false:=by unfold gtI;exact zLt (by omega)
       simp[this,yP,sel,h1,h3,h4])
    (by rw[zLs (by rw[zH,zC];omega),Comp.zB])
   have fF:(p.2.2.1.all fun w=>!j5 w) = !p.2.2.1.any j5:=by rw[List.all_eq_not_any_not];simp
   rw[fF]at hw1;rw[zA];refine(zLi (fun o=>Option.bind o _) hw1).trans ?_
   rw[zLP];by_cases h3:p.2.2.1.any j5=true
   ·rw[h3,zLr (.inr rfl)]
    exact Comp.zB _
   ·have h3':p.2.2.1.any j5=false:=by simpa using h3
    rw[h3',zLs (by rintro(h|h);exact h2 h;cases h)]
    have inner:∀(k:Nat) (c:Cell),p.2.1[k]?=some c->(Comp.loop
                 (fun (x_3:Int)=>if ltI x_3 (k:Int)=true then
                   (idx p.2.1 x_3).bind fun x_4=>(idx p.2.1 (k:Int)).bind fun x=>(Go.F.zd x_4 x).bind fun x=>if ntB x.1=true then Comp.pure (.done (Sum.inr 13))
                      else Comp.pure (.next (zJ .i64 x_3 1))
                  else Comp.pure (.done (Sum.inl ():Unit⊕Int)))
                 0).val=some (bif sap c (p.2.1.take k) then .inl () else .inr 13):=by
     intro k c hc;have hk:=zK hc
     have h5:=Zt (p.2.1.take k) (fun q=>apa c q) (c:=(Sum.inr 13:Unit⊕Int)) (d:=Sum.inl ())
      (body:=(fun (x_3:Int)=>if ltI x_3 (k:Int)=true then
                   (idx p.2.1 x_3).bind fun x_4=>(idx p.2.1 (k:Int)).bind fun x=>(Go.F.zd x_4 x).bind fun x=>if ntB x.1=true then Comp.pure (.done (Sum.inr 13))
                      else Comp.pure (.next (zJ .i64 x_3 1))
                  else Comp.pure (.done (Sum.inl ():Unit⊕Int))))
      (fun i q hq=>by
       have hi:=zK hq;rw[zLm]at hi;have hq':p.2.1[i]?=some q:=by rw[<-hq,List.getElem?_take_of_lt (by omega)]
       rw[zLr (by rw[zH];omega),zA,zO hq',zLP,zA,zO hc,zLP,zA,ZR,zLP,yP,Qg q c,zN (by omega)]
       cases apa c q<;>exact Comp.zB _)
      (by rw[zLs (by rw[zH,zLm];omega),Comp.zB])
     exact h5
    have key:∀(ys zs:List Cell),p.2.1=zs++ys->(Comp.loop
         (fun (x:Int)=>if ltI x (zF p.2.1)=true then
           (idx p.2.1 x).bind fun x_1=>(Go.F.zy x_1).bind fun x_2=>if ntB x_2.1=true then Comp.pure (.done (Sum.inr 13))
             else
              (Comp.loop
                 (fun (x_3:Int)=>if ltI x_3 x=true then
                   (idx p.2.1 x_3).bind fun x_4=>(idx p.2.1 x).bind fun x=>(Go.F.zd x_4 x).bind fun x=>if ntB x.1=true then Comp.pure (.done (Sum.inr 13))
                      else Comp.pure (.next (zJ .i64 x_3 1))
                  else Comp.pure (.done (Sum.inl ())))
                 0).bind fun (x_3:Unit⊕Int)=>match x_3 with
               |Sum.inl x_4=>Comp.pure (.next (zJ .i64 x 1))
               |Sum.inr x=>Comp.pure (.done (Sum.inr x))
          else Comp.pure (.done (Sum.inl ():Unit⊕Int))) (zs.length:Int)).val=some (bif Xu zs ys then .inl () else .inr 13):=by
     intro ys
     induction ys with
     |nil =>
      intro zs hx;rw[zM,zLs (by rw[zH,zC,hx];simp),Comp.zB];rfl
     |cons y ys ih =>
      intro zs hx;have hy:p.2.1[zs.length]?=some y:=by rw[hx];simp
      have gF:=zK hy;have ht:p.2.1.take zs.length=zs:=by rw[hx];simp
      rw[zM,zLr (by rw[zH,zC];omega),zA,zO hy,zLP,zA,YQ,zLP,yP]
      unfold Xu
      cases hf:ful y with
      |false=>rw[zLr (by simp),Comp.zB];rfl
      |true =>
       rw[zLs (by simp),zA]
       have h6:=inner zs.length y hy;rw[ht]at h6;refine(zLi (fun o=>Option.bind (Option.bind o _) _) h6).trans ?_
       cases ha:sap y zs with
       |false=>rw[zLP];exact(zLi (fun o=>Option.bind o _) (Comp.zB _)).trans rfl
       |true =>
        rw[zLP];refine(zLi (fun o=>Option.bind o _) (Comp.zB _)).trans ?_
        rw[zLP,zN (by omega)]
        simpa using ih (zs++[y]) (by rw[hx];simp)
    have h7:=key p.2.1 [] rfl;show (Comp.bind (Comp.loop _ _) _).val=_
    rw[zA];refine(zLi (fun o=>Option.bind o _) h7).trans ?_
    rw[zLP];cases Xu [] p.2.1<;>exact Comp.zB _
theorem G6{xs:List α}{ys:List β}:eqI (zF xs) (zF ys)=decide (xs.length=ys.length):=by
 rw[Bool.eq_iff_iff,yi,decide_eq_true_iff,zC,zC];omega
theorem Vw{xs:List α}{n:Nat}:leI (zF xs) (n:Int)=decide (xs.length<=n):=by
 rw[Bool.eq_iff_iff,Sw,decide_eq_true_iff,zC];omega
theorem B4(p:Part)(x:vN):sel (sel (eqI (zF x.1) (zF p.2.1)) (eqI (zF x.2.1) (zF p.2.1)) false) (leI (zF x.2.2.1) 24) false=((decide (x.1.length=p.2.1.length) && decide (x.2.1.length=p.2.1.length)) && decide (x.2.2.1.length<=24)):=by
 rw[gy,gy,G6,G6,show (24:Int)=((24:Nat):Int) from rfl,Vw]
theorem B5(p:Part)(x:vN):Yf p x=(((decide (x.1.length=p.2.1.length) && decide (x.2.1.length=p.2.1.length)) && decide (x.2.2.1.length<=24)) && decide (ja x.2.2.1=0)):=by
 unfold Yf;rw[Bool.and_assoc (decide (x.1.length=p.2.1.length) && decide (x.2.1.length=p.2.1.length))]
theorem rH(p:Part)(x:vN):(JP p x).val=some (Yf p x,()):=by
 unfold JP;rw[B4,B5,zA]
 cases hb:((decide (x.1.length=p.2.1.length) && decide (x.2.1.length=p.2.1.length)) && decide (x.2.2.1.length<=24)) with
 |false =>
  show Option.bind (Comp.pure _).val _=_
  rw[Comp.zB,zLP,Comp.zB];rfl
 |true =>
  have hl:x.2.2.1.length<=24:=by
   rw[zLR]at hb;simpa using hb.2
  have h1:(zI x.2.2.1 fun z=>jH z.1).val=some (x.2.2.1.any fun c=>decide (chk c≠0),()) :=
   Zs (xs:=x.2.2.1) (f:=fun z=>jH z.1) (p:=fun c=>decide (chk c≠0)) (by omega) fun c _=>by
    show (jH c).val=_
    unfold jH;rw[zA,jl,zLP,Comp.zB];rfl
  show Option.bind (zI x.2.2.1 fun z=>jH z.1).val _=_
  rw[h1,zLP,Comp.zB,gy,Bool.true_and,Bool.true_and,yP]
  congr 2
  by_cases h:ja x.2.2.1=0
  ·rw[zLu h]
   have:=ZC.1 h;rw[Bool.not_eq_true',List.any_eq_false];intro c hc;simp[this c hc]
  ·rw[zLt h]
   simp only[Bool.not_eq_false',List.any_eq_true];rw[ZC]at h;simp only[Classical.not_forall]at h;obtain⟨c,hc,h2⟩:=h;exact⟨c,hc,by simpa using h2⟩
theorem rf(p:Part)(x:vN):(gY p x).val=some (Yf p x,()):=by
 unfold gY;rw[B4,B5,zA]
 cases hb:((decide (x.1.length=p.2.1.length) && decide (x.2.1.length=p.2.1.length)) && decide (x.2.2.1.length<=24)) with
 |false =>
  show Option.bind (Comp.pure _).val _=_
  rw[Comp.zB,zLP,Comp.zB];rfl
 |true =>
  have hl:x.2.2.1.length<=24:=by
   rw[zLR]at hb;simpa using hb.2
  show Option.bind (yY x.2.2.1).val _=_
  rw[XS (by omega),zLP,Comp.zB];rfl
def fit(p:Part)(x:vN):Int:=if ckP p=0 then bif Yf p x then 0 else 4 else ckP p
theorem rl{s:List Cell}(hl:s.length<=1000000)(hc:∀c∈s,c.length<=1000000):(gZ s).val=some (s,()):=by
 unfold gZ;have h1:=ky s.length (fun k l=>match s[k]? with|some c=>l++[c]|none=>l) (fun k l=>l++s.drop k) (fun l k=>l.length=k)
  (body:=(fun (x:List (List (Pln))×Int)=>if ltI x.2 (zF s)=true then
       (idx s x.2).bind fun x_1=>(app [] x_1).bind fun zs=>(app x.1 [zs]).bind fun zs=>Comp.pure (Comp.Step.next (zs,zJ .i64 x.2 1))
      else Comp.pure (Comp.Step.done x.1)))
  (fun l k hk hI=>by
   obtain⟨c,hc'⟩:=zS (xs:=s) (k:=k) hk;have aR:=hc c (zLW hc')
   refine⟨?_,by rw[hc'];simp[hI],by rw[drop_cons hc',hc'];simp⟩
   rw[hc'];simp only;rw[zLr (by rw[zH,zC];show (k:Int)<_;omega),zA,zO hc',zLP,zA,yO (by simp;unfold LIM;omega),zLP,zA,yO (by simp only[zLU];unfold LIM;omega),zLP,Comp.zB,zN (by omega),List.nil_append])
  (fun l=>by rw[zLs (by rw[zH,zC];simp),Comp.zB]) (fun l=>by rw[List.drop_length];simp) 0 [] (Nat.zero_le _) rfl
 rw[zA];refine(zLi (fun o=>Option.bind o _) h1).trans ?_
 rw[zLP,Comp.zB];simp
def nr(s:List Cell)(c:Cell):List Cell:=s.filter fun z=>!apa z c
theorem DP{s:List Cell}(c:Cell)(hl:s.length<=1000000):(vX s c).val=some (nr s c,()):=by
 unfold vX;have h1:=ky s.length (fun k l=>match s[k]? with|some z=>if (!apa z c)=true then l++[z] else l|none=>l) (fun k l=>l++nr (s.drop k) c) (fun l k=>l.length<=k)
  (body:=(fun (x:List (List (Pln))×Int)=>if ltI x.2 (zF s)=true then
       (idx s x.2).bind fun x_1=>(Go.F.zd x_1 c).bind fun x_2=>jn (fun (x_3:List (List (Pln)))=>Comp.pure (Comp.Step.next (x_3,zJ .i64 x.2 1)))
          fun (j :
            List (List (Pln))->Comp
              (Comp.Step (List (List (Pln))×Int) (List (List (Pln))))) =>
          if ntB x_2.1=true then
           (idx s x.2).bind fun x_3=>(app x.1 [x_3]).bind fun zs=>j zs
          else j x.1
      else Comp.pure (Comp.Step.done x.1)))
  (fun l k hk hI=>by
   obtain⟨z,hz⟩:=zS (xs:=s) (k:=k) hk;refine⟨?_,?_,?_⟩
   ·rw[hz]
    simp only;rw[zLr (by rw[zH,zC];show (k:Int)<_;omega),zA,zO hz,zLP,zA,ZR,zLP,vk,yP]
    by_cases h:(!apa z c)=true
    ·rw[zLr h,zLr h,zA,zO hz,zLP,zA,yO (by simp only[zLU];unfold LIM;omega),zLP,Comp.zB,zN (by omega)]
    ·rw[zLs h,zLs h,Comp.zB,zN (by omega)]
   ·rw[hz]
    simp only;split<;>first|omega|(simp;omega)
   ·rw[drop_cons hz,hz]
    unfold nr;by_cases h:(!apa z c)=true
    ·show _=(if (!apa z c)=true then l++[z] else l)++_
     rw[zLr h,List.filter_cons,zLr h];simp
    ·show _=(if (!apa z c)=true then l++[z] else l)++_
     rw[zLs h,List.filter_cons,zLs h])
  (fun l=>by rw[zLs (by rw[zH,zC];simp),Comp.zB]) (fun l=>by rw[List.drop_length];simp[nr]) 0 [] (Nat.zero_le _) (by simp)
 rw[zA];refine(zLi (fun o=>Option.bind o _) h1).trans ?_
 rw[zLP,Comp.zB];simp
def sur(all:List Cell)(c:Cell)(s:Bool):Bool:=bif s then true else (cov (nr all c) c).1
def tch(cuts touches:List Cell)(c:Cell)(t:Bool):Bool:=(t || !sap c cuts) || !sap c touches
def apE(all:List Cell):List Cell->List Bool->Int
 |c::C,s::S=>bif s then apE all C S else if (cov (nr all c) c).2=0 then apE all C S else (cov (nr all c) c).2
 |_,_=>0
def apS(all:List Cell)(C:List Cell)(S:List Bool):List Bool:=List.zipWith (sur all) C S
def apT(cuts touches:List Cell)(C:List Cell)(T:List Bool):List Bool:=List.zipWith (tch cuts touches) C T
def zP:vN:=([],[],[],())
def apl(p:Part)(x:vN)(cuts touches:List Cell):vN×Int :=
 if fit p x=0 then if ja (cuts++touches)=0 then if 24<x.2.2.1.length+cuts.length then (zP,2)
  else if apE (x.2.2.1++cuts) p.2.1 x.1=0 then ((apS (x.2.2.1++cuts) p.2.1 x.1,apT cuts touches p.2.1 x.2.1,x.2.2.1++cuts,()),0) else (zP,apE (x.2.2.1++cuts) p.2.1 x.1)
  else (zP,ja (cuts++touches)) else (zP,fit p x)
theorem Uw{t a b:Bool}{A B:Comp (Bool×Unit)}(hA:A.val=some (a,()))(hB:B.val=some (b,()))(K:Bool->Comp β) :
  ((Comp.gd (ntB t) A (false,())).bind fun x6=>(Comp.gd (ntB (sel t true (ntB x6.1))) B (false,())).bind fun x7=>K (sel (sel t true (ntB x6.1)) true (ntB x7.1))).val=(K ((t || !a) || !b)).val:=by
 rw[zA]
 cases t with
 |true =>
  show Option.bind (Comp.pure _).val _=_
  rw[Comp.zB,zLP,zA];show Option.bind (Comp.pure _).val _=_
  rw[Comp.zB,zLP];rfl
 |false =>
  show Option.bind A.val _=_
  rw[hA,zLP,zA]
  cases a with
  |false =>
   show Option.bind (Comp.pure _).val _=_
   rw[Comp.zB,zLP];rfl
  |true =>
   show Option.bind B.val _=_
   rw[hB,zLP];rfl
theorem nX{f:α->β->γ}{l:List α}{m:List β}{k:Nat}{a:α}{b:β}(h1:l[k]?=some a)(h2:m[k]?=some b):(List.zipWith f l m)[k]?=some (f a b):=by
 rw[List.getElem?_zipWith,h1,h2]
theorem J9{p:Part}{x:vN}(hf:fit p x=0):ckP p=0/\Yf p x=true/\x.1.length=p.2.1.length/\x.2.1.length=p.2.1.length/\x.2.2.1.length<=24/\ja x.2.2.1=0/\p.2.1.length<=16/\p.2.2.1.length=p.2.1.length:=by
 have tS:ckP p=0:=by
  unfold fit at hf;split at hf
  ·assumption
  ·exact hf
 have b9:Yf p x=true:=by
  unfold fit at hf;rw[zLr tS]at hf
  cases h:Yf p x with
  |true=>rfl
  |false=>rw[h]at hf;cases hf
 have hfb':=b9;unfold Yf at b9;simp only[zLR,zLj]at b9;obtain⟨⟨f1,f2⟩,f3,f4⟩:=b9;have hck':=tS
 unfold ckP at tS;split at tS
 ·cases tS
 ·rename_i h
  split at tS
  ·cases tS
  ·rename_i h'
   exact⟨hck',hfb',f1,f2,f3,f4,by omega,by omega⟩
theorem DT{p:Part}{x:vN}{cuts touches:List Cell}(hw:p.2.2.1.length<9223372036854775807)(aR:cuts.length<=100000000)(cH:touches.length<=100000000):(jW p x cuts touches).val=some ((apl p x cuts touches).1,(apl p x cuts touches).2,()):=by
 unfold jW apl;rw[zA,Y7 hw,zLP];by_cases tS:ckP p=0
 ·rw[zLs (by rw[z6];simp[tS]),zA,rf,zLP,yP]
  cases b9:Yf p x with
  |false =>
   have hf:fit p x=4:=by unfold fit;rw[zLr tS,b9];rfl
   rw[zLr (by simp),zLs (by rw[hf];decide),hf,Comp.zB];rfl
  |true =>
   have hf:fit p x=0:=by unfold fit;rw[zLr tS,b9];rfl
   obtain⟨_,_,f1,f2,f3,f4,hn,hwn⟩:=J9 hf;rw[zLs (by simp),zLr hf,zA,XS (by omega),zLP,vk]
   have cA:zJ .i64 (zF x.2.2.1) (zF cuts)=((x.2.2.1.length+cuts.length:Nat):Int):=by rw[zC,zC,ye (by omega)];omega
   by_cases aY:ja cuts=0
   ·rw[zLr (by rw[yi];exact aY),zA,XS (by omega),zLP]
    have hE:ja (cuts++touches)=ja touches:=by rw[KU,zLr aY]
    rw[hE];show (if neI (ja touches) 0=true then _ else _:Comp (vN×Int×Unit)).val=_
    by_cases he:ja touches=0
    ·rw[zLs (by rw[z6];simp[he]),zLr he]
     by_cases cT:24<x.2.2.1.length+cuts.length
     ·rw[zLr (by rw[yd,cA];omega),zLr cT,Comp.zB];rfl
     ·rw[zLs (by rw[yd,cA];omega),zLs cT]
      have oG:∀c∈x.2.2.1,c.length<=1000000:=fun c hc=>by have:=(ZE (ZC.1 f4 c hc)).1;omega
      have oH:∀c∈cuts,c.length<=1000000:=fun c hc=>by have:=(ZE (ZC.1 aY c hc)).1;omega
      rw[zA,rl (by omega) oG,zLP,zA,rl (by omega) oH,zLP,zA,yO (by show x.2.2.1.length+cuts.length<=_;unfold LIM;omega),zLP]
      simp only;generalize fF:x.2.2.1++cuts=all;have sR:all.length<=24:=by rw[<-fF];simp;omega
      have hSl:(apS all p.2.1 x.1).length=x.1.length:=by unfold apS;rw[List.length_zipWith];omega
      have hTl:(apT cuts touches p.2.1 x.2.1).length=x.2.1.length:=by unfold apT;rw[List.length_zipWith];omega
      have key:∀(m k:Nat),k+m=p.2.1.length->(Comp.loop
                 (fun
                   (x_1 :
                    Int ×
                     (List Bool×List Bool×List (List (Pln))×Unit) ×
                      List Bool×List Bool×List (List (Pln))×Unit) =>
                  if ltI x_1.1 (zF p.2.1)=true then
                   (idx p.2.1 x_1.1).bind fun (x_2:List (Pln)) =>
                    (idx x.2.1 x_1.1).bind fun (x_3:Bool) =>
                     (Comp.gd (ntB x_3) (Go.F.yv x_2 cuts) (false,())).bind fun (x_4:Bool×Unit) =>
                      (Comp.gd (ntB (sel x_3 true (ntB x_4.1))) (Go.F.yv x_2 touches) (false,())).bind
                       fun (x_5:Bool×Unit) =>
                       (app x_1.2.2.2.1 [sel (sel x_3 true (ntB x_4.1)) true (ntB x_5.1)]).bind fun (zs:List Bool) =>
                        (idx x.1 x_1.1).bind fun (x_6:Bool) =>
                         jn
                          (fun (x_7:Bool×List Bool×List Bool×List (List (Pln))×Unit) =>
                           (app x_1.2.2.1 [x_7.1]).bind fun (zs_1:List Bool) =>
                            Comp.pure (Comp.Step.next (zJ .i64 x_1.1 1,x_7.2,zs_1,zs,x_1.2.2.2.2.1,())))
                          fun
                           (j :
                            Bool×List Bool×List Bool×List (List (Pln))×Unit ->
                             Comp
                              (Comp.Step
                               (Int ×
                                (List Bool×List Bool×List (List (Pln))×Unit) ×
                                 List Bool×List Bool×List (List (Pln))×Unit)
                               ((List Bool×List Bool×List (List (Pln))×Unit) ×
                                 List Bool×List Bool×List (List (Pln))×Unit ⊕
                                Int×List Bool×List Bool×List (List (Pln))×Unit))) =>
                          if ntB x_6=true then
                           (Go.F.vX x_1.2.2.2.2.1 x_2).bind
                            fun (y:List (List (Pln))×Unit) =>
                            (Go.F.vE y.1 x_2).bind fun (x_7:Bool×Int×Unit) =>
                             if neI x_7.2.1 0=true then Comp.pure (Comp.Step.done (Sum.inr (x_7.2.1,[],[],[],())))
                             else j (x_7.1,x_1.2.1)
                          else j (x_6,x_1.2.1)
                  else Comp.pure (Comp.Step.done (Sum.inl (x_1.2.1,x_1.2.2.1,x_1.2.2.2.1,x_1.2.2.2.2.1,()))))
              ((k:Int),zP,(apS all p.2.1 x.1).take k,(apT cuts touches p.2.1 x.2.1).take k,all,())).val =
        some (if apE all (p.2.1.drop k) (x.1.drop k)=0 then .inl (zP,apS all p.2.1 x.1,apT cuts touches p.2.1 x.2.1,all,()) else .inr (apE all (p.2.1.drop k) (x.1.drop k),zP)):=by
       intro m
       induction m with
       |zero =>
        intro k hk;rw[zM,zLs (by rw[zH,zC];show ¬((k:Int)<_);omega),Comp.zB,zLP]
        rw[List.drop_eq_nil_of_le (show p.2.1.length<=k by omega),List.drop_eq_nil_of_le (show x.1.length<=k by omega),List.take_of_length_le (by omega),List.take_of_length_le (by omega)]
        rfl
       |succ m ih =>
        intro k hk;obtain⟨c,hc⟩:=zS (xs:=p.2.1) (k:=k) (by omega)
        obtain⟨s,hs⟩:=zS (xs:=x.1) (k:=k) (by omega)
        obtain⟨t,ht⟩:=zS (xs:=x.2.1) (k:=k) (by omega)
        have gS:(apS all p.2.1 x.1)[k]?=some (sur all c s):=nX hc hs;have gT:(apT cuts touches p.2.1 x.2.1)[k]?=some (tch cuts touches c t):=nX hc ht
        have hT2:(apT cuts touches p.2.1 x.2.1).take k++[tch cuts touches c t]=(apT cuts touches p.2.1 x.2.1).take (k+1):=by rw[List.take_add_one,gT];rfl
        have hS2:∀v,sur all c s=v->(apS all p.2.1 x.1).take k++[v]=(apS all p.2.1 x.1).take (k+1):=fun v hv=>by rw[List.take_add_one,gS,hv];rfl
        have lT:((apT cuts touches p.2.1 x.2.1).take k).length<=16:=by rw[zLm];omega
        have lS:((apS all p.2.1 x.1).take k).length<=16:=by rw[zLm];omega
        rw[zM,zLr (by rw[zH,zC];show (k:Int)<_;omega),zA,zO hc,zLP,zA,zO ht,zLP]
        have hE:apE all (p.2.1.drop k) (x.1.drop k)=bif s then apE all (p.2.1.drop (k+1)) (x.1.drop (k+1)) else if (cov (nr all c) c).2=0 then apE all (p.2.1.drop (k+1)) (x.1.drop (k+1)) else (cov (nr all c) c).2:=by
         rw[drop_cons hc,drop_cons hs];rfl
        have hj:∀v zs,((app ((apS all p.2.1 x.1).take k) [v]).bind fun (zs_1:List Bool) =>
                            (Comp.pure (Comp.Step.next (zJ .i64 (k:Int) 1,zP,zs_1,zs,all,())):Comp (Comp.Step (Int×vN×vN) (vN×vN⊕Int×vN)))).val=some (.next (((k+1:Nat):Int),zP,(apS all p.2.1 x.1).take k++[v],zs,all,())):=fun v zs=>by
         rw[zA,yO (by simp only[zLU];unfold LIM;omega),zLP,Comp.zB,zN (by omega)]
        refine(zLi (fun o=>Option.bind o _) (Uw (wU c (s:=cuts) (by omega)) (wU c (s:=touches) (by omega)) (fun tt =>
                       (app ((apT cuts touches p.2.1 x.2.1).take k) [tt]).bind fun (zs:List Bool) =>
                        (idx x.1 (k:Int)).bind fun (x_6:Bool) =>
                          if ntB x_6=true then
                           (Go.F.vX all c).bind
                            fun (y:List (List (Pln))×Unit) =>
                            (Go.F.vE y.1 c).bind fun (x_7:Bool×Int×Unit) =>
                             if neI x_7.2.1 0=true then Comp.pure (Comp.Step.done (Sum.inr (x_7.2.1,[],[],[],())))
                             else ((app ((apS all p.2.1 x.1).take k) [x_7.1]).bind fun (zs_1:List Bool) =>
                            (Comp.pure (Comp.Step.next (zJ .i64 (k:Int) 1,zP,zs_1,zs,all,())):Comp (Comp.Step (Int×vN×vN) (vN×vN⊕Int×vN))))
                          else ((app ((apS all p.2.1 x.1).take k) [x_6]).bind fun (zs_1:List Bool) =>
                            (Comp.pure (Comp.Step.next (zJ .i64 (k:Int) 1,zP,zs_1,zs,all,())):Comp (Comp.Step (Int×vN×vN) (vN×vN⊕Int×vN))))))).trans ?_
        rw[zA,yO (by simp only[zLU];unfold LIM;omega),zLP,show (apT cuts touches p.2.1 x.2.1).take k++[(t || !sap c cuts) || !sap c touches]=(apT cuts touches p.2.1 x.2.1).take (k+1) from hT2,zA,zO hs,zLP,yP]
        cases s with
        |true =>
         rw[zLs (by simp),hj,zLP,hS2 true rfl,hE]
         exact ih (k+1) (by omega)
        |false =>
         rw[zLr (by simp),zA,DP c (by omega),zLP,zA,AX,zLP,hE]
         by_cases xO:(cov (nr all c) c).2=0
         ·rw[zLs (by rw[z6];simp[xO]),hj,zLP,hS2 (cov (nr all c) c).1 rfl,cond_false,zLr xO]
          exact ih (k+1) (by omega)
         ·rw[zLr (by rw[z6];exact xO),Comp.zB,zLP,cond_false,zLs xO,zLs xO]
          rfl
      have h0:=key p.2.1.length 0 (by omega)
      simp only[List.take_zero,List.drop_zero]at h0;rw[zA];refine(zLi (fun o=>Option.bind o _) h0).trans ?_
      rw[zLP];by_cases hE0:apE all p.2.1 x.1=0
      ·rw[zLr hE0,zLr hE0];exact Comp.zB _
      ·rw[zLs hE0,zLs hE0];exact Comp.zB _
    ·rw[zLr (by rw[z6];exact he),zLs he,Comp.zB];rfl
   ·have hE:ja (cuts++touches)=ja cuts:=by rw[KU,zLs aY]
    rw[zLs (by rw[yi];exact aY),hE,zLs aY]
    show (if neI (ja cuts) 0=true then _ else _:Comp (vN×Int×Unit)).val=_
    rw[zLr (by rw[z6];exact aY),Comp.zB];rfl
 ·have hf:fit p x=ckP p:=by unfold fit;rw[zLs tS]
  rw[zLr (by rw[z6];exact tS),hf,zLs tS,Comp.zB];rfl
def wt(p:Part)(k:Nat):Int:=p.2.2.1.getD k 0
def cl(p:Part)(k:Nat):Cell:=p.2.1.getD k []
theorem gV{xs:List α}{k:Nat}{z v:α}(h:xs[k]?=some v):xs.getD k z=v:=by rw[zLk,h];rfl
def UW(a m:Nat)(g:Nat->Bool):Bool:=(List.range' a m).any g
theorem CS{body:Int->Comp (Comp.Step Int ε)}(g:Nat->Bool){c d:ε}:∀(m a:Nat),(∀(i:Nat),a<=i->i<a+m->(body (i:Int)).val=some (if g i=true then .done c else .next ((i+1:Nat):Int)))->(body ((a+m:Nat):Int)).val=some (.done d)->(Comp.loop body (a:Int)).val=some (bif UW a m g then c else d)
 |0,a,hb,he=>by rw[zM];rw[Nat.add_zero]at he;rw[he];rfl
 |m+1,a,hb,he=>by
  have ih:=CS g m (a+1) (fun i h1 h2=>hb i (by omega) (by omega)) (by rw[show a+1+m=a+(m+1) by omega];exact he)
  rw[zM,hb a (zLT _) (by omega)]
  unfold UW;rw[List.range'_succ,List.any_cons]
  cases hg:g a with
  |true=>rfl
  |false=>exact ih
def rQ(l:List Int):Bool:=!UW 1 (l.length-1) fun k=>decide (l.getD k 0<=l.getD (k-1) 0)
theorem kr{l:List Int}(hl:l.length<=1000000):(jk l).val=some (rQ l,()):=by
 unfold jk rQ;have h1:=CS (fun k=>decide (l.getD k 0<=l.getD (k-1) 0)) (c:=(Sum.inr false:Unit⊕Bool)) (d:=Sum.inl ()) (body:=(fun (x:Int)=>if ltI x (zF l)=true then
       (idx l x).bind fun x_1=>(idx l (gQ .i64 x 1)).bind fun x_2=>if leI x_1 x_2=true then Comp.pure (Comp.Step.done (Sum.inr false)) else Comp.pure (Comp.Step.next (zJ .i64 x 1))
      else Comp.pure (Comp.Step.done (Sum.inl ())))) (l.length-1) 1
  (fun k h1 h2=>by
   obtain⟨a,ha⟩:=zS (xs:=l) (k:=k) (by omega)
   obtain⟨b,hb⟩:=zS (xs:=l) (k:=k-1) (by omega)
   have hi:(idx l (gQ .i64 (k:Int) 1)).val=some b:=by
    rw[YG (by omega),show (k:Int)-1=((k-1:Nat):Int) by omega];exact zO hb
   rw[zLr (by rw[zH,zC];omega),zA,zO ha,zLP,zA,hi,zLP,gV ha,gV hb,zN (by omega)]
   by_cases h:a<=b
   ·rw[zLr (by rw[Sw];exact h),zLr (by simpa using h),Comp.zB]
   ·rw[zLs (by rw[Sw];exact h),zLs (by simpa using h),Comp.zB])
  (by rw[zLs (by rw[zH,zC];omega),Comp.zB])
 rw[zA];refine(zLi (fun o=>Option.bind o _) h1).trans ?_
 rw[zLP];cases UW 1 (l.length-1) fun k=>decide (l.getD k 0<=l.getD (k-1) 0)<;>exact Comp.zB _
theorem u6{l:List Int}(hl:l.length<=1000000):(jQ l).val=some (rQ l,()):=kr hl
def uB(n k:Nat)(x:Int):Bool:=(decide (x<0) || decide ((n:Int)<=x)) || decide (x=(k:Int))
def eE(n k:Nat)(x:Eff):Int:=if ja (x.1++x.2.1)=0 then if x.2.2.1<1\/1048576<x.2.2.1 then 3 else bif x.2.2.2.1.any (uB n k) then 3 else bif rQ x.2.2.2.1 then 0 else 7 else ja (x.1++x.2.1)
def SmE(x:Eff):Prop:=x.1.length<=100000/\x.2.1.length<=100000/\x.2.2.2.1.length<=100000
theorem Bv{s:List Cell}{body:Int->Comp (Comp.Step Int (Unit⊕Int))}(hb:∀(i:Nat) c,s[i]?=some c->(body (i:Int)).val=some (if chk c=0 then .next ((i+1:Nat):Int) else .done (.inr (chk c))))(he:(body (s.length:Int)).val=some (.done (.inl ()))) :
  (Comp.loop body 0).val=some (if ja s=0 then .inl () else .inr (ja s)):=by
 have key:∀(ys zs:List Cell),s=zs++ys->(Comp.loop body (zs.length:Int)).val=some (if ja ys=0 then .inl () else .inr (ja ys)):=by
  intro ys
  induction ys with
  |nil =>
   intro zs hx;rw[zM,show zs.length=s.length by rw[hx];simp,he];rfl
  |cons y ys ih =>
   intro zs hx;have hy:s[zs.length]?=some y:=by rw[hx];simp
   rw[JR];by_cases h:chk y=0
   ·rw[zLr h,zM,hb _ _ hy,zLr h,zLP]
    simpa using ih (zs++[y]) (by rw[hx];simp)
   ·rw[zLs h,zLs h,zM,hb _ _ hy,zLs h,zLP]
 exact key s [] rfl
theorem wg{n k:Nat}{x:Eff}(hs:SmE x)(hn:n<=100000){ln0:Int}(hl:ln0=(n:Int)){inc:List Int->Comp (Bool×Unit)}(hinc:∀l,l.length<=1000000->(inc l).val=some (rQ l,())){body:Int->Comp (Comp.Step Int (Unit⊕Int))}
  (hb:∀(i:Nat) w,x.2.2.2.1[i]?=some w->(body (i:Int)).val=some (if uB n k w=true then .done (.inr 3) else .next ((i+1:Nat):Int))) (he:(body (x.2.2.2.1.length:Int)).val=some (.done (.inl ()))) :
  (if sel (ltI x.2.2.1 1) true (gtI x.2.2.1 1048576)=true then Comp.pure (3,())
      else
       (Comp.loop body 0).bind fun (x_3:Unit⊕Int)=>match x_3 with
        |Sum.inl x_4 =>
         (inc x.2.2.2.1).bind fun x=>if ntB x.1=true then Comp.pure (7,()) else (Comp.pure (0,()):Comp (Int×Unit))
        |Sum.inr x=>Comp.pure (x,())).val=some (if x.2.2.1<1\/1048576<x.2.2.1 then 3 else bif x.2.2.2.1.any (uB n k) then 3 else bif rQ x.2.2.2.1 then 0 else 7,()):=by
 obtain⟨s1,s2,s3⟩:=hs;by_cases hc:x.2.2.1<1\/1048576<x.2.2.1
 ·rw[zLr (by rw[gx,zLp,zH,yd];exact hc),zLr hc,Comp.zB]
 ·rw[zLs (by rw[gx,zLp,zH,yd];exact hc),zLs hc,zA]
  have h1:=Zt x.2.2.2.1 (fun w=>!uB n k w) (c:=(Sum.inr 3:Unit⊕Int)) (d:=Sum.inl ()) (body:=body)
   (fun i w hw=>by rw[hb i w hw];cases uB n k w<;>rfl) he
  have fF:(x.2.2.2.1.all fun w=>!uB n k w) = !x.2.2.2.1.any (uB n k):=by rw[List.all_eq_not_any_not];simp
  rw[fF]at h1;refine(zLi (fun o=>Option.bind o _) h1).trans ?_
  rw[zLP]
  cases x.2.2.2.1.any (uB n k) with
  |true=>exact Comp.zB _
  |false =>
   show ((inc x.2.2.2.1).bind fun x=>if ntB x.1=true then Comp.pure (7,()) else (Comp.pure (0,()):Comp (Int×Unit))).val=_
   rw[zA,hinc _ (by omega),zLP]
   cases rQ x.2.2.2.1<;>exact Comp.zB _
theorem Dq{L:List Eff}{k:Nat}{x:Eff}(hx:L[k]?=some x)(hs:SmE x)(hL:L.length<=100000):(Zg L (k:Int)).val=some (eE L.length k x,()):=by
 have hs':=hs;obtain⟨s1,s2,s3⟩:=hs;unfold Zg eE;have oE:(yR [x.1,x.2.1]).val=some (x.1++x.2.1,()):=by
  have:=my (z:=([]:Cell)) (xs:=[x.1,x.2.1]) (by simp;unfold LIM;omega) (by simp)
  simp only[List.flatten_cons,List.flatten_nil,zLx]at this;exact this
 rw[zA,zO hx,zLP,zA,oE,zLP];simp only;generalize fF:x.1++x.2.1=all;have sR:all.length<=200000:=by rw[<-fF];simp;omega
 have h2:=Bv (s:=all)
  (body:=(fun (x_1:Int)=>if ltI x_1 (zF all)=true then
         (idx all x_1).bind fun x=>(Go.F.gU x).bind fun x=>if neI x.1 0=true then Comp.pure (Comp.Step.done (Sum.inr x.1)) else Comp.pure (Comp.Step.next (zJ .i64 x_1 1))
        else Comp.pure (Comp.Step.done (Sum.inl ()))))
  (fun i c hc=>by
   have gF:=zK hc;rw[zLr (by rw[zH,zC];omega),zA,zO hc,zLP,zA,jl,zLP,zN (by omega)]
   by_cases h:chk c=0
   ·rw[zLs (by rw[z6];simp[h]),zLr h,Comp.zB]
   ·rw[zLr (by rw[z6];exact h),zLs h,Comp.zB])
  (by rw[zLs (by rw[zH,zC];omega),Comp.zB])
 rw[zA];refine(zLi (fun o=>Option.bind o _) h2).trans ?_
 rw[zLP];by_cases h0:ja all=0
 ·rw[zLr h0,zLr h0]
  refine wg (n:=L.length) (k:=k) hs' hL (ln0:=zF L) rfl (fun l hl=>kr hl) (fun i w hw=>?_) ?_
  ·have gF:=zK hw
   rw[zLr (by rw[zH,zC];omega),zA,zO hw,zLP,zN (by omega)]
   have e:sel (sel (ltI w 0) true (geI w (zF L))) true (eqI w (k:Int))=uB L.length k w:=by rw[gx,gx];rfl
   rw[e];cases uB L.length k w<;>exact Comp.zB _
  ·rw[zLs (by rw[zH,zC];omega),Comp.zB]
 ·rw[zLs h0,zLs h0];exact Comp.zB _
theorem AW{L:List Eff}{k:Nat}{x:Eff}(hx:L[k]?=some x)(hs:SmE x)(hL:L.length<=100000):(vv L (k:Int)).val=some (eE L.length k x,()):=by
 have hs':=hs;obtain⟨s1,s2,s3⟩:=hs;unfold vv eE;rw[zA,zO hx,zLP,zA,yO (by simp;unfold LIM;omega),zLP,zA,yO (by simp;unfold LIM;omega),zLP]
 simp only[List.nil_append];generalize fF:x.1++x.2.1=all;have sR:all.length<=200000:=by rw[<-fF];simp;omega
 have h2:=Bv (s:=all)
  (body:=(fun (x_1:Int)=>if ltI x_1 (zF all)=true then
         (idx all x_1).bind fun x=>(Go.F.zZ x).bind fun x=>if neI x.1 0=true then Comp.pure (Comp.Step.done (Sum.inr x.1)) else Comp.pure (Comp.Step.next (zJ .i64 x_1 1))
        else Comp.pure (Comp.Step.done (Sum.inl ()))))
  (fun i c hc=>by
   have gF:=zK hc;rw[zLr (by rw[zH,zC];omega),zA,zO hc,zLP,zA,jq,zLP,zN (by omega)]
   by_cases h:chk c=0
   ·rw[zLs (by rw[z6];simp[h]),zLr h,Comp.zB]
   ·rw[zLr (by rw[z6];exact h),zLs h,Comp.zB])
  (by rw[zLs (by rw[zH,zC];omega),Comp.zB])
 rw[zA];refine(zLi (fun o=>Option.bind o _) h2).trans ?_
 rw[zLP];by_cases h0:ja all=0
 ·rw[zLr h0,zLr h0]
  refine wg (n:=L.length) (k:=k) hs' hL (ln0:=zF L) rfl (fun l hl=>u6 hl) (fun i w hw=>?_) ?_
  ·have gF:=zK hw
   rw[zLr (by rw[zH,zC];omega),zA,zO hw,zLP,zN (by omega)]
   have e:uB L.length k w=((ltI w 0 || geI w (zF L)) || eqI w (k:Int)):=rfl
   rw[e]
   cases h1:ltI w 0 with
   |true =>
    rw[zA];show Option.bind (Comp.pure _).val _=_
    rw[Comp.zB,zLP,zA];show Option.bind (Comp.pure _).val _=_
    rw[Comp.zB,zLP];exact Comp.zB _
   |false =>
    rw[zA];show Option.bind (idx x.2.2.2.1 (i:Int)).val _=_
    rw[zO hw,zLP,zA]
    cases h2:geI w (zF L) with
    |true =>
     show Option.bind (Comp.pure _).val _=_
     rw[Comp.zB,zLP];exact Comp.zB _
    |false =>
     show Option.bind (idx x.2.2.2.1 (i:Int)).val _=_
     rw[zO hw,zLP];cases eqI w (k:Int)<;>exact Comp.zB _
  ·rw[zLs (by rw[zH,zC];omega),Comp.zB]
 ·rw[zLs h0,zLs h0];exact Comp.zB _
def efs(n:Nat):List Eff->Nat->Int
 | [],_=>0
 |x::l,k=>if eE n k x=0 then efs n l (k+1) else eE n k x
def Xd(L:List Eff):Nat:=(L.map fun x=>x.1.length).sum
def ckJ(j:Job):Int:=if fit j.1 j.2.1=0 then if 8<j.2.2.1.length then 2 else if efs j.2.2.1.length j.2.2.1 0=0 then if 24<j.2.1.2.2.1.length+Xd j.2.2.1 then 2 else 0 else efs j.2.2.1.length j.2.2.1 0 else fit j.1 j.2.1
theorem gk{j:Job}(hw:j.1.2.2.1.length<9223372036854775807)(hs:∀x∈j.2.2.1,SmE x):(kR j).val=some (ckJ j,()):=by
 unfold kR ckJ;rw[zA,uC hw,zLP];by_cases tS:ckP j.1=0
 ·rw[zLs (by rw[z6];simp[tS]),zA,rH,zLP,yP]
  cases b9:Yf j.1 j.2.1 with
  |false =>
   have hf:fit j.1 j.2.1=4:=by unfold fit;rw[zLr tS,b9];rfl
   rw[zLr (by simp),zLs (by rw[hf];decide),hf,Comp.zB]
  |true =>
   have hf:fit j.1 j.2.1=0:=by unfold fit;rw[zLr tS,b9];rfl
   obtain⟨_,_,f1,f2,f3,f4,hn,hwn⟩:=J9 hf;rw[zLs (by simp),zLr hf]
   by_cases h8:8<j.2.2.1.length
   ·rw[zLr (by rw[yd,zC];omega),zLr h8,Comp.zB]
   ·rw[zLs (by rw[yd,zC];omega),zLs h8]
    generalize hL:j.2.2.1=L at h8 hs;have key:∀(ys zs:List Eff) (c:Nat),L=zs++ys->c+ys.length * 100000<=10000000->(Comp.loop
          (fun (x:Int×Int)=>if ltI x.2 (zF L)=true then
            (idx L x.2).bind fun (x_1 :
               List (List (Pln))×List (List (Pln))×Int×List Int×Unit) =>
             (Go.F.Zg L x.2).bind fun x_2=>if neI x_2.1 0=true then Comp.pure (Comp.Step.done (Sum.inr x_2.1))
              else Comp.pure (Comp.Step.next (zJ .i64 x.1 (zF x_1.1),zJ .i64 x.2 1))
           else Comp.pure (Comp.Step.done (Sum.inl x.1:Int⊕Int))) ((c:Int),(zs.length:Int))).val=some (if efs L.length ys zs.length=0 then .inl ((c+Xd ys:Nat):Int) else .inr (efs L.length ys zs.length)):=by
     intro ys
     induction ys with
     |nil =>
      intro zs c hx _;rw[zM,zLs (by rw[zH,zC,hx];simp),Comp.zB];rfl
     |cons y ys ih =>
      intro zs c hx hc;have hy:L[zs.length]?=some y:=by rw[hx];simp
      have gF:=zK hy;have dO:=hs y (zLW hy)
      have hcy:=dO.1;simp only[zLZ]at hc;rw[zM,zLr (by rw[zH,zC];show (zs.length:Int)<_;omega),zA,zO hy,zLP,zA,Dq hy dO (by omega),zLP]
      show _=some (if (if eE L.length zs.length y=0 then efs L.length ys (zs.length+1) else eE L.length zs.length y)=0 then _ else Sum.inr (if eE L.length zs.length y=0 then efs L.length ys (zs.length+1) else eE L.length zs.length y))
      by_cases he:eE L.length zs.length y=0
      ·rw[zLs (by rw[z6];simp[he]),zLr he,Comp.zB,zLP,zN (by omega)]
       have cA:zJ .i64 (c:Int) (zF y.1)=((c+y.1.length:Nat):Int):=by rw[zC,ye (by omega)];omega
       rw[cA];have:=ih (zs++[y]) (c+y.1.length) (by rw[hx];simp) (by omega)
       rw[show (zs++[y]).length=zs.length+1 by simp]at this
       rw[show c+Xd (y::ys)=c+y.1.length+Xd ys by unfold Xd;rw[List.map_cons,List.sum_cons];omega]
       exact this
      ·rw[zLr (by rw[z6];exact he),zLs he,zLs he,Comp.zB,zLP]
    have h0:=key L [] j.2.1.2.2.1.length rfl (by omega)
    rw[zA];refine(zLi (fun o=>Option.bind o _) h0).trans ?_
    rw[zLP];simp only[List.length_nil];by_cases he:efs L.length L 0=0
    ·rw[zLr he,zLr he]
     show (if gtI ((j.2.1.2.2.1.length+Xd L:Nat):Int) 24=true then _ else _:Comp (Int×Unit)).val=_
     by_cases cT:24<j.2.1.2.2.1.length+Xd L
     ·rw[zLr (by rw[yd];omega),zLr cT,Comp.zB]
     ·rw[zLs (by rw[yd];omega),zLs cT,Comp.zB]
    ·rw[zLs he,zLs he];exact Comp.zB _
 ·have hf:fit j.1 j.2.1=ckP j.1:=by unfold fit;rw[zLs tS]
  rw[zLr (by rw[z6];exact tS),hf,zLs tS,Comp.zB]
theorem uE{j:Job}(hw:j.1.2.2.1.length<9223372036854775807)(hs:∀x∈j.2.2.1,SmE x):(gH j).val=some (ckJ j,()):=by
 unfold gH ckJ;rw[zA,Y7 hw,zLP];by_cases tS:ckP j.1=0
 ·rw[zLs (by rw[z6];simp[tS]),zA,rf,zLP,yP]
  cases b9:Yf j.1 j.2.1 with
  |false =>
   have hf:fit j.1 j.2.1=4:=by unfold fit;rw[zLr tS,b9];rfl
   rw[zLr (by simp),zLs (by rw[hf];decide),hf,Comp.zB]
  |true =>
   have hf:fit j.1 j.2.1=0:=by unfold fit;rw[zLr tS,b9];rfl
   obtain⟨_,_,f1,f2,f3,f4,hn,hwn⟩:=J9 hf;rw[zLs (by simp),zLr hf]
   by_cases h8:8<j.2.2.1.length
   ·rw[zLr (by rw[yd,zC];omega),zLr h8,Comp.zB]
   ·rw[zLs (by rw[yd,zC];omega),zLs h8]
    generalize hL:j.2.2.1=L at h8 hs;have key:∀(ys zs:List Eff) (c:Nat),L=zs++ys->c+ys.length * 100000<=10000000->(Comp.loop
          (fun (x:Int×Int)=>if ltI x.2 (zF L)=true then
            (Go.F.vv L x.2).bind fun x_1=>if neI x_1.1 0=true then Comp.pure (Comp.Step.done (Sum.inr x_1.1))
             else
              (idx L x.2).bind fun (x_2 :
                 List (List (Pln))×List (List (Pln))×Int×List Int×Unit) =>
               Comp.pure (Comp.Step.next (zJ .i64 x.1 (zF x_2.1),zJ .i64 x.2 1))
           else Comp.pure (Comp.Step.done (Sum.inl x.1:Int⊕Int))) ((c:Int),(zs.length:Int))).val=some (if efs L.length ys zs.length=0 then .inl ((c+Xd ys:Nat):Int) else .inr (efs L.length ys zs.length)):=by
     intro ys
     induction ys with
     |nil =>
      intro zs c hx _;rw[zM,zLs (by rw[zH,zC,hx];simp),Comp.zB];rfl
     |cons y ys ih =>
      intro zs c hx hc;have hy:L[zs.length]?=some y:=by rw[hx];simp
      have gF:=zK hy;have dO:=hs y (zLW hy)
      have hcy:=dO.1;simp only[zLZ]at hc;rw[zM,zLr (by rw[zH,zC];show (zs.length:Int)<_;omega),zA,AW hy dO (by omega),zLP]
      show _=some (if (if eE L.length zs.length y=0 then efs L.length ys (zs.length+1) else eE L.length zs.length y)=0 then _ else Sum.inr (if eE L.length zs.length y=0 then efs L.length ys (zs.length+1) else eE L.length zs.length y))
      by_cases he:eE L.length zs.length y=0
      ·rw[zLs (by rw[z6];simp[he]),zLr he,zA,zO hy,zLP,Comp.zB,zLP,zN (by omega)]
       have cA:zJ .i64 (c:Int) (zF y.1)=((c+y.1.length:Nat):Int):=by rw[zC,ye (by omega)];omega
       rw[cA];have:=ih (zs++[y]) (c+y.1.length) (by rw[hx];simp) (by omega)
       rw[show (zs++[y]).length=zs.length+1 by simp]at this
       rw[show c+Xd (y::ys)=c+y.1.length+Xd ys by unfold Xd;rw[List.map_cons,List.sum_cons];omega]
       exact this
      ·rw[zLr (by rw[z6];exact he),zLs he,zLs he,Comp.zB,zLP]
    have h0:=key L [] j.2.1.2.2.1.length rfl (by omega)
    rw[zA];refine(zLi (fun o=>Option.bind o _) h0).trans ?_
    rw[zLP];simp only[List.length_nil];by_cases he:efs L.length L 0=0
    ·rw[zLr he,zLr he]
     show (if gtI ((j.2.1.2.2.1.length+Xd L:Nat):Int) 24=true then _ else _:Comp (Int×Unit)).val=_
     by_cases cT:24<j.2.1.2.2.1.length+Xd L
     ·rw[zLr (by rw[yd];omega),zLr cT,Comp.zB]
     ·rw[zLs (by rw[yd];omega),zLs cT,Comp.zB]
    ·rw[zLs he,zLs he];exact Comp.zB _
 ·have hf:fit j.1 j.2.1=ckP j.1:=by unfold fit;rw[zLs tS]
  rw[zLr (by rw[z6];exact tS),hf,zLs tS,Comp.zB]
def opn(L:List Eff)(k:Int):Eff:=L.getD k.toNat ([],[],0,[],())
theorem mP{L:List Eff}{k:Int}(h:0<=k/\k<L.length):(idx L k).val=some (opn L k):=by
 obtain⟨x,hx⟩:=zS (xs:=L) (k:=k.toNat) (by omega)
 rw[KT h.1 hx];unfold opn;rw[gV hx]
structure SmJ(j:Job):Prop where
 w:j.1.2.2.1.length<9223372036854775807
 e:∀x∈j.2.2.1,SmE x
 n:j.2.2.1.length<=1000000
abbrev Drw:=List Int×Int×Unit
def DOk(n:Int)(d:Drw):Prop:=0<=d.2.1/\d.2.1<=n
theorem zDp{n m:Int}(hm:1<=m/\m<=1000000):Ok (kI n m) fun r=>0<=r.1/\r.1<m:=by
 unfold kI;rw[zLs (by rw[zH];omega),Ok.bind,Ok.rem (by omega),Ok.bind]
 have h1 : -m<n.tmod m/\n.tmod m<m:=by
  have:=Int.tmod_lt_of_pos n (show 0<m by omega)
  have h2 : -m<n.tmod m:=by
   rcases Int.le_total 0 n with hn|hn
   ·have:=Int.tmod_nonneg m hn;omega
   ·have h3:=Int.tmod_lt_of_pos (-n) (show 0<m by omega)
    rw[Int.neg_tmod]at h3;omega
  exact⟨h2,this⟩
 rw[ye (by omega),Ok.rem (by omega),Ok.pure]
 have h3:0<=n.tmod m+m:=by omega
 refine⟨?_,?_⟩
 ·show 0<=(n.tmod m+m).tmod m
  exact Int.tmod_nonneg m h3
 ·show (n.tmod m+m).tmod m<m
  exact Int.tmod_lt_of_pos _ (by omega)
theorem Vn{d:Drw}{m k:Int}(hm:1<=m/\m<=1000000)(hk:0<=k/\k<=1000000000)(hd:DOk k d):Ok (zG d m) fun r=>DOk (k+1) r.1.1/\(0<=r.2.1/\r.2.1<m):=by
 obtain⟨h1,h2⟩:=hd;unfold zG;by_cases h:(zF d.1)<=d.2.1
 ·rw[zLr (by rw[Ye];exact h),Ok.pure]
  refine⟨⟨h1,?_⟩,?_⟩
  ·show d.2.1<=k+1;omega
  ·show 0<=(0:Int)/\(0:Int)<m;omega
 ·rw[zC]at h
  rw[zLs (by rw[Ye,zC];exact h),ye (by omega),YG (by omega),show d.2.1+1-1=d.2.1 by omega,Ok.bind]
  obtain⟨x,hx⟩:=zS (xs:=d.1) (k:=d.2.1.toNat) (by omega)
  rw[Ok.idx h1 hx,Ok.bind];refine(zDp hm).mono fun r hr=>?_
  rw[Ok.pure];refine⟨⟨?_,?_⟩,hr⟩
  ·show 0<=d.2.1+1;omega
  ·show d.2.1+1<=k+1;omega
theorem zEV(a b:V3):Ok (zp a b) fun r=>r.1.length=6:=by
 unfold zp;rw[Ok.pure];rfl
def j4(b n:Nat)(C:List Cell):Prop:=C.length<=n/\∀c∈C,c≠[]/\c.length<=b
abbrev u5:=j4 10
theorem j4.snoc{b n:Nat}{C:List Cell}{c:Cell}(h:j4 b n C)(hc:c≠[]/\c.length<=b):j4 b (n+1) (C++[c]) :=
by
  refine⟨?_,fun d hd=>?_⟩
  · rw[zLS,zLU];have:=h.1;omega
  · rcases zLa.1 hd with hd|hd
    · exact h.2 d hd
    · rw[List.mem_singleton.1 hd];exact hc
theorem j4.mono{b n m:Nat}{C:List Cell}(h:j4 b n C)(xM:n<=m):j4 b m C:=⟨zLY h.1 xM,h.2⟩
theorem j4.wide{b d n:Nat}{C:List Cell}(h:j4 b n C)(cO:b<=d):j4 d n C:=⟨h.1,fun c hc=>⟨(h.2 c hc).1,zLY (h.2 c hc).2 cO⟩⟩
theorem Qy{c:Cell}(h:c.length=6):c≠[]/\c.length<=6:=by
 refine⟨fun e=>?_,?_⟩
 ·rw[e]at h;cases h
 ·omega
theorem ym{d:Drw}{m k:Int}{f:((Drw×Unit)×Int×Unit)->Comp α}{P:α->Prop}(hd:DOk k d)(hm:1<=m/\m<=1000000)(hk:0<=k/\k<=1000000000)
  (h:∀d' v,DOk (k+1) d'->0<=v->v<m->Ok (f ((d',()),v,())) P):Ok ((zG d m).bind f) P:=by
 rw[Ok.bind];exact(Vn hm hk hd).mono fun r hr=>h r.1.1 r.2.1 hr.1 hr.2.1 hr.2.2
theorem jC{k:α->Comp β}{b:(α->Comp β)->Comp β}{P:β->Prop}(I:α->Prop)(hb:∀j,(∀x,I x->Ok (j x) P)->Ok (b j) P)(hk:∀x,I x->Ok (k x) P):Ok (jn k b) P:=hb k hk
theorem d0(x:List Int):DOk 0 (x,0,()):=by unfold DOk;show (0:Int)<=0/\(0:Int)<=0;omega
theorem Y9{xs:List β}{i:Int}{f:β->Comp α}{P:α->Prop}(h0:0<=i)(h1:i<xs.length)(h:∀x,x∈xs->Ok (f x) P):Ok ((idx xs i).bind f) P:=by
 obtain⟨x,hx⟩:=zS (xs:=xs) (k:=i.toNat) (by omega)
 rw[Ok.bind,Ok.idx h0 hx];exact h x (zLW hx)
theorem E5:1000000<=LIM:=by decide
theorem vV{xs ys:List β}{f:List β->Comp α}{P:α->Prop}(hl:xs.length+ys.length<=1000000)(h:Ok (f (xs++ys)) P):Ok ((app xs ys).bind f) P:=by
 rw[Ok.bind,Ok.app (by have:=E5;omega)];exact h
theorem zEc{a b:V3}{f:Cell×Unit->Comp α}{P:α->Prop}(h:∀c:Cell,c.length=6->Ok (f (c,())) P):Ok ((zp a b).bind f) P:=by
 rw[Ok.bind];exact(zEV a b).mono fun r hr=>h r.1 hr
theorem Wn{ys:Cell}{f:Cell->Comp α}{P:α->Prop}(hn:ys≠[])(hl:ys.length<=1000000)(h:Ok (f ys) P):Ok ((zAJ ys).bind f) P:=by
 cases ys with
 |nil=>exact(hn rfl).elim
 |cons y ys =>
  show Ok ((app [] (y::ys)).bind f) P
  exact vV (by simpa using hl) h
theorem nH{a b:Bool}(h:sel a b false=true):a=true/\b=true:=by cases a<;>cases b<;>simp_all [sel]
def ZJ(p:Part):Prop:=u5 12 p.2.1/\p.2.1≠[]/\p.2.2.1.length=p.2.1.length
theorem WC{x0:List (List Int)}{p:Part}(hp:ZJ p):Ok (vG x0 p) fun r=>r.1.length<=4:=by
 unfold vG;rw[Ok.bind];have hq:∀n:Nat,n<9223372036854775807->True:=fun _ _=>trivial
 refine(Ok.loop (fun s:List Cell×Int=>0<=s.2/\s.2<=4/\(s.1.length:Int)=s.2) (fun s=>(4-s.2).toNat) (P:=fun r=>r.length<=4) ?_ ?_).mono fun r hr=>?_
 ·exact⟨by show (0:Int)<=0;omega,by show (0:Int)<=4;omega,rfl⟩
 ·rintro⟨C,i⟩ ⟨h1,h2,h3⟩
  dsimp only at h1 h2 h3 |-
  have hl:0<p.2.1.length:=by cases hc:p.2.1 with
   |nil=>exact(hp.2.1 hc).elim
   |cons _ _=>simp
  have cJ:=hp.1.1;split
  ·rename_i hc
   obtain⟨c1,c2⟩:=nH hc;rw[zH]at c1 c2;rw[zC]at c1;refine Y9 h1 c1 fun d hd=>?_
   refine ym (d0 d) (by decide) (by decide) fun d1 v1 e1 g1 g1'=>?_
   refine ym e1 (by rw[zC];omega) (by decide) fun d2 v2 e2 g2 g2'=>?_
   rw[zC]at g2';refine Y9 g2 g2' fun c hc=>?_
   obtain⟨k1,k2⟩:=hp.1.2 c hc;refine Wn k1 (by omega) ?_
   refine jC (fun x=>DOk 4 x.2) (fun j hj=>?_) fun x hx=>?_
   ·dsimp only
    split
    ·refine ym e2 (by decide) (by decide) fun d3 v3 e3 g3 g3'=>?_
     refine ym e3 (by decide) (by decide) fun d4 v4 e4 g4 g4'=>?_
     refine vV (by simp;omega) ?_
     exact hj _ e4
    ·exact hj _ ⟨e2.1,by have:=e2.2;show d2.2.1<=4;omega⟩
   ·refine jC (fun _=>True) (fun j hj=>?_) fun y _=>?_
    ·dsimp only
     split
     ·refine ym hx (by decide) (by decide) fun d3 v3 e3 g3 g3'=>?_
      refine ym e3 (by decide) (by decide) fun d4 v4 e4 g4 g4'=>?_
      refine ym e4 (by decide) (by decide) fun d5 v5 e5 g5 g5'=>?_
      refine ym e5 (by decide) (by decide) fun d6 v6 e6 g6 g6'=>?_
      refine ym e6 (by decide) (by decide) fun d7 v7 e7 g7 g7'=>?_
      refine ym e7 (by decide) (by decide) fun d8 v8 e8 g8 g8'=>?_
      exact zEc fun c _=>hj _ trivial
     ·exact hj _ trivial
    ·refine vV (by simp;omega) ?_
     rw[Ok.pure];dsimp only;rw[ye (by omega)]
     refine⟨⟨by omega,by omega,by rw[zLS,zLU];omega⟩,by omega⟩
  ·rw[Ok.pure];dsimp only;omega
 ·rw[Ok.pure];exact hr
def box(a b c d e f:Int):Cell:=[((1,0,0,()),d,()),((-1,0,0,()),-a,()),((0,1,0,()),e,()),((0,-1,0,()),-b,()),((0,0,1,()),f,()),((0,0,-1,()),-c,())]
theorem HQ{a b c d e f:Int}(h:((-1000<=a/\a<=1000) /\ -1000<=b/\b<=1000) /\ -1000<=c/\c<=1000):(zp (a,b,c,()) (d,e,f,())).val=some (box a b c d e f,()):=by
 unfold zp;rw[Comp.zB];have hn:∀x:Int, -1000<=x/\x<=1000->Yc .i64 x = -x:=fun x hx=>JW (by omega)
 simp only[hn a h.1.1,hn b h.1.2,hn c h.2];rfl
theorem Sr{p q r:Pln}(hp:okB p)(hq:okB q)(hr:okB r){x:Pnt}(h:mt p q r=some x):Bd 300000000000000 (x.1,x.2.1,x.2.2.1,())/\0<=x.2.2.2.1/\x.2.2.2.1<=600000000000:=by
 have hd:=Ex hp hq hr;obtain⟨n1,n2,n3⟩:=Ek hp hq hr;unfold mt at h;split at h
 ·cases h
 ·rename_i fC
  cases h
  generalize det p q r=w at hd fC;generalize num p q r=v at n1 n2 n3;have hg:(0:Int)<=((kh v w:Nat):Int):=Int.natCast_nonneg _
  have t:∀ {a k:Int}, -k<=a/\a<=k -> -k<=a.tdiv ((kh v w:Nat):Int)/\a.tdiv ((kh v w:Nat):Int)<=k:=fun {a k} ha=>by
   have:=GE (a:=a) (b:=((kh v w:Nat):Int));omega
  unfold mkP Bd;dsimp only;by_cases hw:w<0
  ·rw[zLr hw]
   refine⟨⟨t (by omega),t (by omega),t (by omega)⟩,Int.tdiv_nonneg (by omega) hg,(t (a := -w) (k:=600000000000) (by omega)).2⟩
  ·rw[zLs hw]
   exact⟨⟨t n1,t n2,t n3⟩,Int.tdiv_nonneg (by omega) hg,(t (a:=w) hd).2⟩
def Sep(a b:Cell):Prop:=∃p∈a,∃q∈b,(p.1.1+q.1.1=0/\p.1.2.1+q.1.2.1=0/\p.1.2.2.1+q.1.2.2.1=0)/\p.2.1+q.2.1<=0
theorem Sep.symm{a b:Cell}(h:Sep a b):Sep b a:=by
 obtain⟨p,hp,q,hq,h1,h2⟩:=h;exact⟨q,hq,p,hp,by omega,by omega⟩
theorem Sep.more{a b a' b':Cell}(h:Sep a b)(ha:∀p∈a,p∈a')(hb:∀p∈b,p∈b'):Sep a' b':=by
 obtain⟨p,hp,q,hq,h1⟩:=h;exact⟨p,ha p hp,q,hb q hq,h1⟩
theorem zBZ{r:List Pln}(hr:∀p∈r,okB p){p q:Pln}(hp:p∈r)(hq:q∈r)(h:(p.1.1+q.1.1=0/\p.1.2.1+q.1.2.1=0/\p.1.2.2.1+q.1.2.2.1=0)/\p.2.1+q.2.1<=0):full r=false:=by
 unfold full;rw[List.all_eq_false];refine⟨p,hp,?_⟩;rw[Bool.not_eq_true,List.any_eq_false];intro x hx sQ;rw[Jf]at hx;obtain⟨hi,t,ht,hm⟩:=hx;obtain⟨t1,t2,t3⟩:=uT ht;obtain⟨⟨b1,b2,b3⟩,d1,d2⟩:=Sr (hr _ t1) (hr _ t2) (hr _ t3) hm;unfold ins at hi;rw[zLw]at hi;have hq0:=hi q hq
 simp only[zLj]at hq0 sQ;obtain⟨⟨p1,p2,p3⟩,pB⟩:=hr p hp;obtain⟨⟨q1,q2,q3⟩,qB⟩:=hr q hq;have m1:=y9 p1 b1;have m2:=y9 p2 b2;have m3:=y9 p3 b3
 have m4:=y9 (A:=2097152) (B:=600000000000) pB (b:=x.2.2.2.1) (by omega)
 have m5:=y9 (A:=2097152) (B:=600000000000) qB (b:=x.2.2.2.1) (by omega)
 dsimp only at m1 m2 m3;have e1:q.1.1 * x.1 = -(p.1.1 * x.1):=by rw[show q.1.1 = -p.1.1 by omega,Int.neg_mul]
 have e2:q.1.2.1 * x.2.1 = -(p.1.2.1 * x.2.1):=by rw[show q.1.2.1 = -p.1.2.1 by omega,Int.neg_mul]
 have e3:q.1.2.2.1 * x.2.2.1 = -(p.1.2.2.1 * x.2.2.1):=by rw[show q.1.2.2.1 = -p.1.2.2.1 by omega,Int.neg_mul]
 have e4:(p.2.1+q.2.1) * x.2.2.2.1<=0:=Int.mul_nonpos_of_nonpos_of_nonneg (by omega) d1
 rw[Int.add_mul]at e4;unfold rm dt at hq0 sQ;dsimp only at hq0 sQ;rw[rS (by omega)]at sQ
 rw[e1,e2,e3,rS (by omega)]at hq0
 omega
theorem Wd{a b:Cell}(h:Sep a b):apa a b=true:=by
 unfold apa;by_cases ha:chk a=0
 ·by_cases hb:chk b=0
  ·obtain⟨p,hp,q,hq,h1⟩:=h
   rw[zBZ (r:=a++b++bx0) (fun z hz=>?_) (by simp[hp]) (by simp[hq]) h1]
   ·simp
   ·rcases zLa.1 hz with hz|hz
    ·rcases zLa.1 hz with hz|hz
     ·exact(ZE ha).2 z hz
     ·exact(ZE hb).2 z hz
    ·exact J5 z hz
  ·simp[hb]
 ·simp[ha]
theorem WX{a b c d e f:Int}(h1:(-100<=a/\a<=100) /\ -100<=b/\b<=100)(h2:(-100<=c/\c<=100) /\ -100<=d/\d<=100)(h3:(-100<=e/\e<=100) /\ -100<=f/\f<=100):chk (box a b c d e f)=0:=by
 rw[AB];refine⟨by unfold box;simp,?_⟩
 have hv:∀x:Int, -100<=x/\x<=100->okv 2097152 x=true:=fun x hx=>by unfold okv;simp;omega
 have ax:∀v∈([(1,0,0,()),(-1,0,0,()),(0,1,0,()),(0, -1,0,()),(0,0,1,()),(0,0, -1,())]:List V3),okN v=true/\JI v=1:=by decide +kernel
 rw[zLw];intro p hp;have hp1:p.1∈([(1,0,0,()),(-1,0,0,()),(0,1,0,()),(0, -1,0,()),(0,0,1,()),(0,0, -1,())]:List V3)/\okv 2097152 p.2.1=true:=by
  unfold box at hp;simp only[zLV,List.not_mem_nil,or_false]at hp;rcases hp with rfl|rfl|rfl|rfl|rfl|rfl<;>exact⟨by simp,hv _ (by simp only;omega)⟩
 obtain⟨g1,g2⟩:=ax _ hp1.1;unfold okP;rw[g1,g2,hp1.2];rfl
theorem WW{a b c d e f:Int}(h1:(-20<=a/\a<d)/\d<=20)(h2:(-20<=b/\b<e)/\e<=20)(h3:(-20<=c/\c<f)/\f<=20):ful (box a b c d e f)=true:=by
 unfold ful;rw[WX (by omega) (by omega) (by omega),zLu rfl,Bool.true_and]
 have hw:∀n:Int, -1000<=n/\n<=1000->W n=n:=fun n hn=>rS (by omega)
 have k0:(a,b,c,1,())∈crn (box a b c d e f++bx0):=by
  rw[Jf];refine⟨?_,(((-1,0,0,()),-a,()),((0,-1,0,()),-b,()),((0,0,-1,()),-c,())),by simp[box,tri,prs],?_⟩
  ·simp only[ins,box,bx0,List.cons_append,List.nil_append,List.all_cons,List.all_nil,Bool.and_true,zLR,zLj]
   simp only[rm,dt];refine⟨?_,?_,?_,?_,?_,?_,?_,?_,?_,?_,?_,?_⟩<;>(rw[hw _ (by omega)];omega)
  ·have e1:det ((-1,0,0,()),-a,()) ((0,-1,0,()),-b,()) ((0,0,-1,()),-c,()) = -1:=by simp[det,cr,dt]
   have e2:num ((-1,0,0,()),-a,()) ((0,-1,0,()),-b,()) ((0,0,-1,()),-c,())=(-a, -b, -c,()):=by simp[num,cr,sc,ad]
   unfold mt;rw[e1,e2,zLs (by decide)]
   simp[mkP,kh]
 have k1:(d,e,f,1,())∈crn (box a b c d e f++bx0):=by
  rw[Jf];refine⟨?_,(((1,0,0,()),d,()),((0,1,0,()),e,()),((0,0,1,()),f,())),by simp[box,tri,prs],?_⟩
  ·simp only[ins,box,bx0,List.cons_append,List.nil_append,List.all_cons,List.all_nil,Bool.and_true,zLR,zLj]
   simp only[rm,dt];refine⟨?_,?_,?_,?_,?_,?_,?_,?_,?_,?_,?_,?_⟩<;>(rw[hw _ (by omega)];omega)
  ·have e1:det ((1,0,0,()),d,()) ((0,1,0,()),e,()) ((0,0,1,()),f,())=1:=by simp[det,cr,dt]
   have e2:num ((1,0,0,()),d,()) ((0,1,0,()),e,()) ((0,0,1,()),f,())=(d,e,f,()):=by simp[num,cr,sc,ad]
   unfold mt;rw[e1,e2,zLs (by decide)]
   simp[mkP,kh]
 unfold full;rw[zLw];intro p hp;rw[List.any_eq_true];unfold box bx0 at hp;simp only[List.cons_append,List.nil_append,zLV,List.not_mem_nil,or_false]at hp;rcases hp with rfl|rfl|rfl|rfl|rfl|rfl|rfl|rfl|rfl|rfl|rfl|rfl
 case inl|inr.inr.inl|inr.inr.inr.inr.inl=>exact⟨_,k0,by rw[zLj];simp only[rm,dt];rw[hw _ (by omega)];omega⟩
 case inr.inl|inr.inr.inr.inl|inr.inr.inr.inr.inr.inl=>exact⟨_,k1,by rw[zLj];simp only[rm,dt];rw[hw _ (by omega)];omega⟩
 all_goals exact⟨_,k0,by rw[zLj];simp only[rm,dt];rw[hw _ (by omega)];omega⟩
structure Pws(C:List Cell):Prop where
 f:∀c∈C,ful c=true
 s:∀(i k:Nat) (c d:Cell),i≠k->C[i]?=some c->C[k]?=some d->Sep c d
theorem Pws.nil:Pws []:=⟨fun _ h=>(nomatch h),fun i k c d _ h=>by simp at h⟩
theorem Pws.snoc{C:List Cell}{c:Cell}(h:Pws C)(hc:ful c=true)(hs:∀d∈C,Sep d c):Pws (C++[c]):=by
 refine⟨fun d hd=>?_,fun i k x y eK hx hy=>?_⟩
 ·rcases zLa.1 hd with hd|hd
  ·exact h.f d hd
  ·rw[List.mem_singleton.1 hd];exact hc
 ·rw[List.getElem?_append]at hx hy
  split at hx
  ·split at hy
   ·exact h.s i k x y eK hx hy
   ·have hk:y=c:=by
     cases he:k-C.length with
     |zero=>rw[he]at hy;simpa using hy.symm
     |succ m=>rw[he]at hy;simp at hy
    subst hk;exact hs x (zLW hx)
  ·have hk:i=C.length/\x=c:=by
    cases he:i-C.length with
    |zero=>rw[he]at hx;exact⟨by omega,by simpa using hx.symm⟩
    |succ m=>rw[he]at hx;simp at hx
   obtain⟨hi,rfl⟩:=hk;split at hy
   ·exact(hs y (zLW hy)).symm
   ·cases he:k-C.length with
    |zero=>omega
    |succ m=>rw[he]at hy;simp at hy
theorem Pws.part{C:List Cell}{k:Nat}{c a b:Cell}(h:Pws C)(hk:C[k]?=some c)(ha:∀p∈c,p∈a)(hb:∀p∈c,p∈b)(fa:ful a=true)(fb:ful b=true)(hs:Sep a b):Pws (C.set k a++[b]):=by
 have cV:Pws (C.set k a):=by
  refine⟨fun d hd=>?_,fun i m x y iU hx hy=>?_⟩
  ·obtain⟨i,hi⟩:=List.mem_iff_getElem?.1 hd
   rw[List.getElem?_set]at hi;split at hi
   ·split at hi
    ·cases hi;exact fa
    ·cases hi
   ·exact h.f d (zLW hi)
  ·rw[List.getElem?_set]at hx hy
   by_cases h1:k=i
   ·subst h1
    rw[zLr rfl]at hx;rw[zLs iU]at hy;split at hx
    ·cases hx;exact(h.s k m c y iU hk hy).more ha fun _ hp=>hp
    ·cases hx
   ·rw[zLs h1]at hx
    by_cases h2:k=m
    ·subst h2
     rw[zLr rfl]at hy;split at hy
     ·cases hy;exact(h.s i k x c iU hx hk).more (fun _ hp=>hp) ha
     ·cases hy
    ·rw[zLs h2]at hy;exact h.s i m x y iU hx hy
 refine cV.snoc fb fun d hd=>?_
 obtain⟨i,hi⟩:=List.mem_iff_getElem?.1 hd;rw[List.getElem?_set]at hi;split at hi
 ·split at hi
  ·cases hi;exact hs
  ·cases hi
 ·rename_i fC
  exact(h.s i k d c (fun e=>fC e.symm) hi hk).more (fun _ hp=>hp) hb
theorem Pws.all{C:List Cell}(h:Pws C):Xu [] C=true:=by
 have key:∀(l seen:List Cell),seen++l=C->Xu seen l=true:=by
  intro l
  induction l with
  |nil=>intro seen _;rfl
  |cons c l ih =>
   intro seen hC;have hc:C[seen.length]?=some c:=by rw[<-hC];simp
   unfold Xu;rw[h.f c (zLW hc),ih (seen++[c]) (by rw[<-hC];simp)]
   have:sap c seen=true:=by
    unfold sap;rw[zLw];intro d hd;obtain⟨i,hi⟩:=List.mem_iff_getElem?.1 hd;have gF:=zK hi
    exact Wd (h.s seen.length i c d (by omega) hc (by rw[<-hC,zLf gF];exact hi))
   rw[this];rfl
 exact key C [] rfl
theorem DOk.up{k n:Int}{d:Drw}(h:DOk k d)(hk:k<=n):DOk n d:=⟨h.1,by have:=h.2;omega⟩
theorem j4.set{b n:Nat}{C:List Cell}{c:Cell}(h:j4 b n C)(hc:c≠[]/\c.length<=b)(i:Int):j4 b n (j9 C i c):=by
 unfold j9;refine⟨by rw[List.length_set];exact h.1,fun d hd=>?_⟩
 rcases List.mem_or_eq_of_mem_set hd with hd|hd
 ·exact h.2 d hd
 ·rw[hd];exact hc
theorem QC{b:Int}(h : -1000<=b/\b<=1000):(vJ ((0,1,1,()),b,())).val=some (((0, -1, -1,()), -b,()),()):=by
 unfold vJ;have hs:(Z8 (0,0,0,()) (0,1,1,())).val=some ((0, -1, -1,()),()):=YJ (n:=5) (by kernel_rfl)
 rw[zA,hs,zLP,Comp.zB];have e:Yc .i64 b = -b:=JW (by omega)
 rw[e]
def Lft(X:Int)(C:List Cell):Prop:=∀c∈C,∃B,((1,0,0,()),B,())∈c/\B<=X
theorem Ni(x0:List (List Int)):Ok (jv x0) fun r=>ZJ r.1/\ckP r.1=0:=by
 unfold jv;rw[Ok.bind];refine(Ok.loop (fun s:Int×List (List Int)=>0<=s.1/\s.1<=2/\s.2.length=2) (fun s=>(2-s.1).toNat) (P:=fun r=>r.length=2) ?_ ?_).mono fun L hL=>?_
 ·exact⟨by show (0:Int)<=0;omega,by show (0:Int)<=2;omega,rfl⟩
 ·rintro⟨i,L⟩ ⟨h1,h2,h3⟩
  dsimp only at h1 h2 h3 |-;split
  ·rename_i hc
   obtain⟨c1,c2⟩:=nH hc;rw[zH]at c1 c2;rw[zC]at c1;refine Y9 h1 c1 fun d hd=>?_
   rw[Ok.zQ (jM ⟨h1,by omega⟩),Ok.pure]
   dsimp only;rw[ye (by omega)]
   refine⟨⟨by omega,by omega,by unfold j9;rw[List.length_set];exact h3⟩,by omega⟩
  ·rw[Ok.pure];exact h3
 refine Y9 (by decide) (by rw[hL];decide) fun l0 _=>?_
 refine ym (d0 l0) (by decide) (by decide) fun d1 v1 e1 g1 g1'=>?_
 refine jC (fun x=>DOk 2 x.2) (fun j hj=>?_) fun x hx=>?_
 ·dsimp only
  refine ym e1 (by decide) (by decide) fun d2 v2 e2 g2 g2'=>?_
  dsimp only;split
  ·exact hj _ e2
  ·exact hj _ e2
 dsimp only;refine ym hx (by decide) (by decide) fun d2 v2 e2 g2 g2'=>?_
 refine ym e2 (by decide) (by decide) fun d3 v3 e3 g3 g3'=>?_
 dsimp only at e3 |-;have hg1:v1<3:=g1'
 have iG:v2<3:=g2';have hg3:v3<3:=g3'
 rw[Ok.bind];refine(Ok.loop (fun s:Int×Int×Part×Drw=>(Pws s.2.2.1.2.1/\Lft s.1 s.2.2.1.2.1 /\ -6<=s.1/\s.1 <= -4+4 * s.2.1)/\0<=s.2.1/\s.2.1<=2+v1/\j4 6 (2 * s.2.1).toNat s.2.2.1.2.1/\s.2.1<=s.2.2.1.2.1.length/\s.2.2.1.2.2.1=[]/\DOk (4+s.2.1) s.2.2.2) (fun s=>(2+v1-s.2.1).toNat)
  (P:=fun r=>Pws r.1.2.1/\j4 6 8 r.1.2.1/\2<=r.1.2.1.length/\r.1.2.2.1=[]/\DOk 8 r.2) ?_ ?_).mono fun R hR=>?_
 ·refine⟨⟨Pws.nil,fun _ h=>(nomatch h),by dsimp only;rw[ye (by omega)];omega,by dsimp only;rw[ye (by omega)];omega⟩,by show (0:Int)<=0;omega,by show (0:Int)<=2+v1;omega,⟨Nat.zero_le _,fun _ h=>by cases h⟩,by show (0:Int)<=(0:Nat);omega,rfl,e3.up (by show (2:Int)+1+1<=4+0;omega)⟩
 ·rintro⟨X,i,⟨nm,C,w,u⟩,d⟩ ⟨⟨w1,w2,w3,w4⟩,h1,h2,h3,h4,h5,h6⟩
  dsimp only at w1 w2 w3 w4 h1 h2 h3 h4 h5 h6 |-;rw[ye (m:=2) (n:=v1) (by omega)]
  split
  ·rename_i hc
   rw[zH]at hc;refine ym h6 (by decide) (by omega) fun d4 v4 e4 g4 g4'=>?_
   dsimp only;have hg4:v4<4:=g4'
   rw[ye (m:=1) (n:=v4) (by omega),ye (m:=X) (by omega),ye (m:=2) (n:=v3) (by omega),Ok.zQ (HQ (by omega))]
   have hl:=h3.1;have fb:∀y y',(-20<=y/\y<y')/\y'<=20->ful (box X y 0 (X+(1+v4)) y' (2+v3))=true:=fun y y' h=>WW (by omega) h (by omega)
   have sb:∀y y',∀d∈C,Sep d (box X y 0 (X+(1+v4)) y' (2+v3)):=fun y y' d hd=>by
    obtain⟨B,b1,b2⟩:=w2 d hd;exact⟨_,b1,((-1,0,0,()), -X,()),by simp[box],by simp,by show B + -X<=0;omega⟩
   have lb:∀ {D:List Cell} y y',Lft (X+(1+v4)) D->Lft (X+(1+v4)) (D++[box X y 0 (X+(1+v4)) y' (2+v3)]):=fun y y' hD d hd=>by
    rcases zLa.1 hd with hd|hd
    ·exact hD d hd
    ·rw[List.mem_singleton.1 hd];exact⟨X+(1+v4),by simp[box],Int.le_refl _⟩
   have l0:Lft (X+(1+v4)) C:=fun d hd=>by
    obtain⟨B,b1,b2⟩:=w2 d hd;exact⟨B,b1,by omega⟩
   have w5:=w1.snoc (fb 0 3 (by omega)) (sb 0 3)
   refine vV (by simp;omega) ?_
   refine jC (fun y=>(Pws y.2.1/\Lft (X+(1+v4)) y.2.1)/\j4 6 (2 * (i+1)).toNat y.2.1/\i+1<=y.2.1.length/\y.2.2.1=[]) (fun j hj=>?_) fun y hy=>?_
   ·dsimp only
    have s1:j4 6 ((2 * i).toNat+1) (C++[box X 0 0 (X+(1+v4)) 3 (2+v3)]):=h3.snoc (Qy rfl);split
    ·rw[Ok.zQ (HQ (by omega))]
     refine vV (by simp;omega) ?_
     refine hj _ ⟨⟨w5.snoc (fb 3 6 (by omega)) fun d hd=>?_,lb 3 6 (lb 0 3 l0)⟩,(s1.snoc (Qy rfl)).mono (by omega),?_,h5⟩
     ·rcases zLa.1 hd with hd|hd
      ·exact sb 3 6 d hd
      ·rw[List.mem_singleton.1 hd]
       exact⟨((0,1,0,()),3,()),by simp[box],((0, -1,0,()), -3,()),by simp[box],by simp,by decide⟩
     dsimp only;rw[zLS,zLS,zLU];omega
    ·refine hj _ ⟨⟨w5,lb 0 3 l0⟩,s1.mono (by omega),?_,h5⟩
     dsimp only;rw[zLS,zLU];omega
   ·rw[Ok.pure]
    dsimp only;rw[ye (m:=i) (n:=1) (by omega)]
    obtain⟨⟨y1,y2⟩,y3⟩:=hy;exact⟨⟨⟨y1,y2,by omega,by omega⟩,by omega,by omega,y3.1,y3.2.1,y3.2.2,e4.up (by omega)⟩,by omega⟩
  ·rename_i hc
   rw[zH]at hc;rw[Ok.pure];exact⟨w1,h3.mono (by omega),by dsimp only;omega,h5,h6.up (by omega)⟩
 obtain⟨q0,q1,q2,q3,q4⟩:=hR;obtain⟨⟨nm,C,w,u⟩,d⟩:=R;dsimp only at q0 q1 q2 q3 q4 |-;refine jC (fun x=>DOk 9 x.2) (fun j hj=>?_) fun x hx=>?_
 ·skip
  refine ym q4 (by decide) (by decide) fun d4 v4 e4 g4 g4'=>?_
  dsimp only;split
  ·exact hj _ e4
  ·exact hj _ e4
 skip
 refine jC (fun y=>Pws y.2.1/\u5 9 y.2.1/\2<=y.2.1.length/\y.2.2.1=[]) (fun j hj=>?_) fun y hy=>?_
 ·skip
  have k0:∀nm u,(fun y:Part=>Pws y.2.1/\u5 9 y.2.1/\2<=y.2.1.length/\y.2.2.1=[]) (nm,C,w,u):=fun _ _=>⟨q0,(q1.wide (by decide)).mono (by omega),q2,q3⟩
  split
  ·have hl:=q1.1
   refine ym hx (by rw[zC];omega) (by decide) fun d4 v4 e4 g4 g4'=>?_
   refine ym e4 (by decide) (by decide) fun d5 v5 e5 g5 g5'=>?_
   rw[zC]at g4';dsimp only;obtain⟨c,oU⟩:=zS (xs:=C) (k:=v4.toNat) (by omega)
   obtain⟨m1,m2⟩:=q1.2 c (zLW oU);rw[Ok.bind,Ok.idx g4 oU];refine vV (by simp;omega) ?_
   refine vV (by simp;omega) ?_
   rw[Ok.bind,Ok.idx g4 oU];refine vV (by simp;omega) ?_
   have hg5:v5<4:=g5';rw[ye (by omega),Ok.zQ (QC (by omega))]
   refine vV (by simp;omega) ?_
   rw[Ok.zQ (YQ _),Ok.bind];dsimp only;have hg:Ok (Comp.gd (ful (([]++c)++[((0,1,1,()),2+v5,())])) (zy (([]++c)++[((0, -1, -1,()), -(2+v5),())])) (false,())) fun b=>sel (ful (([]++c)++[((0,1,1,()),2+v5,())])) b.1 false=true->ful (c++[((0,1,1,()),2+v5,())])=true/\ful (c++[((0, -1, -1,()), -(2+v5),())])=true:=by
    rw[List.nil_append];refine Ok.Y1 (fun h1=>(Ok.yZ (YQ _)).2 fun h2=>⟨h1,?_⟩) (fun h1 h2=>?_)
    ·rw[h1]at h2;exact h2
    ·rw[h1]at h2;cases h2
   refine hg.mono fun b hb=>?_
   refine jC (fun y=>Pws y.2.1/\u5 9 y.2.1/\2<=y.2.1.length/\y.2.2.1=[]) (fun j' hj'=>?_) fun y hy=>hj _ hy
   split
   ·rename_i hs
    obtain⟨f1,f2⟩:=hb hs;rw[Ok.zQ (jM ⟨g4,g4'⟩)];have t3:∀z:Cell,(j9 C v4 z).length=C.length:=fun z=>by unfold j9;rw[List.length_set]
    refine vV (by rw[zLU,t3];omega) ?_
    refine hj' _ ⟨?_,((q1.wide (by decide)).set (by simp;omega) v4).snoc (by simp;omega),?_,q3⟩
    ·dsimp only
     rw[List.nil_append];exact q0.part oU (fun p hp=>by simp[hp]) (fun p hp=>by simp[hp]) f1 f2 ⟨((0,1,1,()),2+v5,()),by simp,((0, -1, -1,()), -(2+v5),()),by simp,by simp,by show 2+v5 + -(2+v5)<=0;omega⟩
    ·dsimp only
     rw[zLS,zLU,t3];omega
   ·exact hj' _ ⟨q0,(q1.wide (by decide)).mono (by omega),q2,q3⟩
  ·exact hj _ (k0 _ _)
 skip
 refine Y9 (by decide) (by rw[hL];decide) fun l1 _=>?_
 obtain⟨nm2,C2,w2,u2⟩:=y;obtain⟨y0,y1,y2,y3⟩:=hy;dsimp only at y0 y1 y2 y3 |-;subst y3;rw[Ok.bind];refine(Ok.loop (fun s:Int×Part×Drw=>0<=s.1/\s.1<=C2.length/\s.2.1.2.1=C2/\(s.2.1.2.2.1.length:Int)=s.1/\s.2.1.2.2.1.any j5=false/\DOk s.1 s.2.2) (fun s=>(C2.length-s.1).toNat)
  (P:=fun r=>ZJ r/\ckP r=0) ?_ ?_).mono fun R hR=>?_
 ·exact⟨by show (0:Int)<=0;omega,by show (0:Int)<=C2.length;omega,rfl,rfl,rfl,d0 l1⟩
 ·rintro⟨i,⟨nm3,C3,w3,u3⟩,d⟩ ⟨h1,h2,h3,h4,h0,h5⟩
  dsimp only at h1 h2 h3 h4 h0 h5 |-;subst h3;have hl:=y1.1
  split
  ·rename_i hc
   rw[zH,zC]at hc;refine ym h5 (by decide) (by omega) fun d4 v4 e4 g4 g4'=>?_
   dsimp only;refine Y9 g4 g4' fun z hz=>?_
   refine vV (by simp;omega) ?_
   rw[Ok.pure];dsimp only;rw[ye (m:=i) (n:=1) (by omega)]
   refine⟨⟨by omega,by omega,rfl,by rw[zLS,zLU];omega,?_,e4⟩,by omega⟩
   rw[List.any_append,h0];simp only[zLV,List.not_mem_nil,or_false]at hz;rcases hz with rfl|rfl|rfl|rfl<;>decide
  ·rename_i hc
   rw[zH,zC]at hc;rw[Ok.pure];refine⟨⟨y1.mono (by omega),fun e=>?_,by dsimp only;omega⟩,?_⟩
   ·dsimp only at e
    rw[e]at y2;simp at y2
   ·unfold ckP
    dsimp only;rw[zLs (by omega),zLs (by rw[h0];simp;omega),y0.all];rfl
 ·rw[Ok.pure];exact hR
theorem Vo{p:Part}(hp:ZJ p):Ok (jJ p) fun r=>r.1=(List.replicate p.2.1.length false,List.replicate p.2.1.length false,[],()):=by
 unfold jJ;have h1:=hp.1.1
 have:=E5;rw[Ok.bind,Ok.mk (by rw[zC];omega),Ok.bind,Ok.mk (by rw[zC];omega),Ok.pure,zC];rfl
theorem CW:∀ {l seen:List Cell},Xu seen l=true->∀c∈l,ful c=true
 | [],_,_,c,hc=>by cases hc
 |d::l,seen,h,c,hc=>by
  unfold Xu at h;simp only[zLR]at h;rcases zLV.1 hc with e|e
  ·subst e;exact h.1
  ·exact CW h.2.2 c e
theorem WR{p:Part}(h:ckP p=0):(1<=p.2.1.length/\p.2.1.length<=16)/\(p.2.2.1.length=p.2.1.length/\p.2.2.1.any j5=false)/\Xu [] p.2.1=true:=by
 unfold ckP at h;split at h
 ·cases h
 ·split at h
  ·cases h
  ·rename_i h1 h2
   cases hb:Xu [] p.2.1 with
   |true =>
    refine⟨by omega,⟨by omega,?_⟩,rfl⟩
    cases hs:p.2.2.1.any j5 with
    |false=>rfl
    |true=>exact zLh (.inr hs) h2
   |false=>rw[hb]at h;cases h
structure PcV(p:Part)(x:vN):Prop where
 c:ckP p=0
 f:Yf p x=true
 s:∀i,i<p.2.1.length->x.1.getD i false=false->(cov (nr x.2.2.1 (cl p i)) (cl p i)).1=false
theorem R2{p:Part}{i:Nat}(h:i<p.2.1.length):cl p i∈p.2.1:=by
 obtain⟨c,hc⟩:=zS h;unfold cl;rw[gV hc];exact zLW hc
theorem PcV.new{p:Part}(h:ckP p=0):PcV p (List.replicate p.2.1.length false,List.replicate p.2.1.length false,[],()):=by
 refine⟨h,by simp[Yf,ja],fun i hi _=>?_⟩
 have hf:=CW (WR h).2.2 _ (R2 hi);have hf2:=hf
 unfold ful at hf2;simp only[zLR,zLj]at hf2;show (cov [] (cl p i)).1=false
 unfold cov mns;rw[zLr hf2.1,zLr (by decide),zLr hf];rfl
theorem zEa{p:Part}{x:vN}{C T:List Cell}(h:(apl p x C T).2=0):PcV p (apl p x C T).1/\(fit p x=0/\ja (C++T)=0)/\(apl p x C T).1=(apS (x.2.2.1++C) p.2.1 x.1,apT C T p.2.1 x.2.1,x.2.2.1++C,()):=by
 unfold apl at h |-;split at h
 ·rename_i hf
  obtain⟨k1,k2,f1,f2,f3,f4,f5,f6⟩:=J9 hf;split at h
  ·rename_i dZ
   split at h
   ·cases h
   ·rename_i hm
    split at h
    ·rename_i he
     rw[zLr hf,zLr dZ,zLs hm,zLr he];refine⟨⟨k1,?_,fun i hi hs=>?_⟩,⟨hf,dZ⟩,rfl⟩
     ·have e1:(apS (x.2.2.1++C) p.2.1 x.1).length=p.2.1.length:=by unfold apS;rw[List.length_zipWith,f1,Nat.min_self]
      have e2:(apT C T p.2.1 x.2.1).length=p.2.1.length:=by unfold apT;rw[List.length_zipWith,f2,Nat.min_self]
      have e3:ja (x.2.2.1++C)=0:=by
       rw[KU,zLr f4];rw[KU]at dZ;split at dZ
       ·rename_i h0;exact h0
       ·exact dZ
      unfold Yf;simp only[zLR,zLj,zLS];exact⟨⟨e1,e2⟩,by omega,e3⟩
     ·obtain⟨c,hc⟩:=zS hi
      obtain⟨v,hv⟩:=zS (xs:=x.1) (k:=i) (by omega)
      have hz:(apS (x.2.2.1++C) p.2.1 x.1)[i]?=some (sur (x.2.2.1++C) c v):=nX hc hv;dsimp only at hs;rw[gV hz]at hs;have ec:cl p i=c:=gV hc
      rw[ec];unfold sur at hs
      cases v with
      |true=>cases hs
      |false=>exact hs
    ·rename_i he;exact zLh h he
  ·rename_i dZ;exact zLh h dZ
 ·rename_i hf;exact zLh h hf
def nW(x:Eff):Prop:=x.1.length<=50/\x.2.1.length<=50/\x.2.2.2.1.length<=50
theorem qt{xs:List β}{l h:Int}{f:List β->Comp α}{P:α->Prop}(hr:0<=l/\l<=h/\h<=xs.length)(k:∀ys,ys.length=(h-l).toNat->Ok (f ys) P):Ok ((sub xs l h).bind f) P:=by
 rw[Ok.bind,Ok.sub hr];exact k _ (by rw[List.length_drop,zLm];omega)
theorem lE{x0:List (List Int)}{p:Part}{f:List Cell×Unit->Comp α}{P:α->Prop}(hp:ZJ p)(k:∀C:List Cell,C.length<=4->Ok (f (C,())) P):Ok ((vG x0 p).bind f) P:=by
 rw[Ok.bind];exact(WC hp).mono fun r hr=>k r.1 hr
theorem Zq(m n:Int):Hg m n=min m n:=rfl
theorem MN{p:Part}{x1:List Int}{x2:Int}(hp:ZJ p):Ok (vD p x1 x2) fun r=>nW r.1:=by
 unfold vD;have hl:=hp.1.1
 refine ym (d0 x1) (by decide) (by decide) fun d1 v1 e1 g1 g1'=>?_
 refine jC (fun x=>DOk 2 x.2) (fun j hj=>?_) fun x hx=>?_
 ·dsimp only
  split
  ·refine ym e1 (by decide) (by decide) fun d2 v2 e2 g2 g2'=>?_
   exact hj _ e2
  ·exact hj _ (e1.up (by decide))
 refine jC (fun x:Eff=>x.1=[]/\x.2.1=[]/\x.2.2.2.1.length<=50) (fun j hj=>?_) fun y hy=>?_
 ·dsimp only
  split
  ·exact hj _ ⟨rfl,rfl,by show 1<=50;omega⟩
  ·exact hj _ ⟨rfl,rfl,by show 0<=50;omega⟩
 refine ym hx (by decide) (by decide) fun d2 v2 e2 g2 g2'=>?_
 rw[Ok.bind];refine(Ok.loop (fun s:Int×Eff×Drw=>0<=s.1/\s.1<=p.2.1.length/\(s.2.1.1.length<=s.1/\s.2.1.2.1=[]/\s.2.1.2.2.2.1.length<=50)/\DOk (4+2 * s.1) s.2.2) (fun s=>(p.2.1.length-s.1).toNat)
  (P:=fun r:Eff=>r.1.length<=12/\r.2.1=[]/\r.2.2.2.1.length<=50) ?_ ?_).mono fun R hR=>?_
 ·exact⟨by show (0:Int)<=0;omega,by show (0:Int)<=p.2.1.length;omega,⟨by show ((y.1.length:Nat):Int)<=0;rw[hy.1];decide,hy.2.1,hy.2.2⟩,e2.up (by show (2:Int)+1<=4+2 * 0;omega)⟩
 ·rintro⟨i,⟨cu,to,co,ne,u⟩,d⟩ ⟨h1,h2,⟨h3,h4,h5⟩,h6⟩
  dsimp only at h1 h2 h3 h4 h5 h6 |-;split
  ·rename_i hc
   rw[zH,zC]at hc;refine ym h6 (by decide) (by omega) fun d4 v4 e4 g4 g4'=>?_
   dsimp only;refine Y9 h1 (by rw[hp.2.2];exact hc) fun z _=>?_
   refine jC (fun x=>DOk (4+2 * (i+1)) x.2) (fun j hj=>?_) fun x hx=>?_
   ·skip
    split
    ·refine jC (fun x=>DOk (4+2 * (i+1)) x.2) (fun j' hj'=>?_) fun x hx=>hj _ hx
     skip
     split
     ·refine ym e4 (by decide) (by omega) fun d5 v5 e5 g5 g5'=>?_
      exact hj' _ (e5.up (by omega))
     ·exact hj' _ (e4.up (by omega))
    ·exact hj _ (e4.up (by omega))
   ·refine jC (fun x:Eff=>x.1.length<=i+1/\x.2.1=[]/\x.2.2.2.1.length<=50) (fun j hj=>?_) fun y hy=>?_
    ·skip
     split
     ·refine Y9 h1 hc fun c hcc=>?_
      obtain⟨m1,m2⟩:=hp.1.2 c hcc;refine vV (by simp;omega) ?_
      refine vV (by simp;omega) ?_
      refine hj _ ⟨?_,h4,h5⟩;dsimp only;rw[zLS,zLU];omega
     ·exact hj _ ⟨by dsimp only;omega,h4,h5⟩
    ·rw[Ok.pure]
     dsimp only;rw[ye (m:=i) (n:=1) (by omega)]
     exact⟨⟨by omega,by omega,hy,hx⟩,by omega⟩
  ·rename_i hc
   rw[zH,zC]at hc;rw[Ok.pure];exact⟨by dsimp only;omega,h4,h5⟩
 refine jC (fun x:Eff=>x.1.length<=50/\x.2.1.length<=50/\x.2.2.2.1.length<=50) (fun j hj=>?_) fun y hy=>?_
 ·dsimp only
  split
  ·refine qt ⟨by rw[Zq,zC];omega,by rw[Zq];omega,by rw[zC];omega⟩ fun ys sP=>?_
   refine lE hp fun C hC=>?_
   have oQ:=hR.1;refine vV (by dsimp only;omega) ?_
   refine hj _ ⟨?_,?_,hR.2.2⟩
   ·dsimp only;rw[zLS];omega
   ·dsimp only;rw[hR.2.1];exact Nat.zero_le _
  ·refine hj _ ⟨by have:=hR.1;dsimp only;omega,?_,hR.2.2⟩
   dsimp only;rw[hR.2.1];exact Nat.zero_le _
 refine jC (fun x:Eff=>x.1.length<=50/\x.2.1.length<=50/\x.2.2.2.1.length<=50) (fun j hj=>?_) fun y hy=>?_
 ·dsimp only
  split
  ·refine qt ⟨by rw[Zq,zC];omega,by rw[Zq];omega,by rw[zC];omega⟩ fun ys sP=>?_
   refine lE hp fun C hC=>?_
   exact hj _ ⟨hy.1,by dsimp only;omega,hy.2.2⟩
  ·exact hj _ hy
 rw[Ok.pure];exact hy
theorem pX{p:Part}{x1:List Int}{x2:Int}{f:Eff×Unit->Comp α}{P:α->Prop}(hp:ZJ p)(k:∀e:Eff,nW e->Ok (f (e,())) P):Ok ((vD p x1 x2).bind f) P:=by
 rw[Ok.bind];exact(MN hp).mono fun r hr=>k r.1 hr
structure JobOk(j:Job):Prop where
 p:ZJ j.1
 e:∀x∈j.2.2.1,nW x
 n:j.2.2.1.length<=8
 v:PcV j.1 j.2.1
theorem nW.sm{x:Eff}(h:nW x):SmE x:=⟨zLY h.1 (by decide),zLY h.2.1 (by decide),zLY h.2.2 (by decide)⟩
theorem ZJ.w{p:Part}(h:ZJ p):p.2.2.1.length<9223372036854775807:=by rw[h.2.2];have:=h.1.1;omega
theorem Mb{j:Job}{P:Int×Unit->Prop}(hj:JobOk j)(k:P (ckJ j,())):Ok (gH j) P:=(Ok.yZ (uE hj.p.w fun x hx=>(hj.e x hx).sm)).2 k
theorem Vy(x0:List (List Int)):Ok (ju x0) fun r=>JobOk r.1/\1<=r.1.2.2.1.length:=by
 unfold ju;refine qt ⟨by decide,by rw[Zq,zC];omega,by rw[Zq,zC];omega⟩ fun x hx=>?_
 rw[Ok.bind];refine(Ni x).mono ?_;rintro⟨p,u⟩ ⟨hp,oF⟩;rw[Ok.bind];refine(Vo hp).mono ?_;rintro⟨pc,u'⟩ hpc;dsimp only at hp oF hpc |-;subst hpc;have bH:=And.intro hp (PcV.new oF)
 refine jC (fun y:Job=>(ZJ y.1/\PcV y.1 y.2.1)/\y.2.2.1=[]) (fun j hj=>?_) fun y hy=>?_
 ·skip
  split
  ·rename_i hc
   rw[yd,zC]at hc;refine Y9 (by decide) (by omega) fun d hd=>?_
   refine ym (d0 d) (by decide) (by decide) fun d1 v1 e1 g1 g1'=>?_
   refine jC (fun y:Job=>(ZJ y.1/\PcV y.1 y.2.1)/\y.2.2.1=[]) (fun j' hj'=>?_) fun y hy=>hj _ hy
   dsimp only;split
   ·obtain⟨d2,hd2⟩:=zS (xs:=x0) (k:=2) (by omega)
    rw[Ok.bind,Ok.idx (by decide) hd2,Ok.bind,Ok.idx (by decide) hd2]
    refine qt ⟨by rw[Zq,zC];omega,by rw[Zq];omega,by rw[zC];omega⟩ fun ys sP=>?_
    refine lE hp fun C hC=>?_
    rw[Ok.zQ (DT hp.w (by dsimp only;omega) (by decide))]
    refine jC (fun y:Job=>(ZJ y.1/\PcV y.1 y.2.1)/\y.2.2.1=[]) (fun j'' hj''=>?_) fun y hy=>hj' _ hy
    split
    ·rename_i he
     exact hj'' _ ⟨⟨hp,(zEa (by rw[yi]at he;exact he)).1⟩,rfl⟩
    ·exact hj'' _ ⟨bH,rfl⟩
   ·exact hj' _ ⟨bH,rfl⟩
  ·exact hj _ ⟨bH,rfl⟩
 rw[Ok.bind];refine(Ok.loop (fun s:Int×Job=>3<=s.1/\s.1<=7/\(ZJ s.2.1/\PcV s.2.1 s.2.2.1)/\(∀x∈s.2.2.2.1,nW x)/\(s.2.2.2.1.length:Int)=s.1-3) (fun s=>(7-s.1).toNat)
  (P:=fun r:Job=>JobOk r/\r.2.2.1.length<=4) ?_ ?_).mono fun R hR=>?_
 ·exact⟨by show (3:Int)<=3;omega,by show (3:Int)<=7;omega,hy.1,fun x (hx:x∈y.2.2.1)=>(by rw[hy.2]at hx;cases hx),by show ((y.2.2.1.length:Nat):Int)=3-3;rw[hy.2];rfl⟩
 ·rintro⟨i,p',pc',es,u''⟩ ⟨h1,h2,h3,h4,h5⟩
  dsimp only at h1 h2 h3 h4 h5 |-;split
  ·rename_i hc
   obtain⟨c1,c2⟩:=nH hc;rw[zH]at c1 c2;rw[zC]at c1;refine Y9 (by omega) c1 fun d hd=>?_
   refine pX hp fun e he=>?_
   refine vV (by simp;omega) ?_
   rw[Ok.pure];dsimp only;rw[ye (by omega)]
   refine⟨⟨by omega,by omega,h3,fun x hx=>?_,by rw[zLS,zLU];omega⟩,by omega⟩
   rcases zLa.1 hx with hx|hx
   ·exact h4 x hx
   ·rw[List.mem_singleton.1 hx];exact he
  ·rw[Ok.pure]
   exact⟨⟨h3.1,h4,by dsimp only;omega,h3.2⟩,by dsimp only;omega⟩
 refine jC (fun y:Job=>JobOk y/\1<=y.2.2.1.length) (fun j hj=>?_) fun y hy=>?_
 ·skip
  split
  ·refine pX hp fun e he=>?_
   have:=hR.2;refine vV (by simp;omega) ?_
   refine hj _ ⟨⟨hR.1.p,fun x hx=>?_,?_,hR.1.v⟩,?_⟩
   ·rcases zLa.1 hx with hx|hx
    ·exact hR.1.e x hx
    ·rw[List.mem_singleton.1 hx];exact he
   ·dsimp only;rw[zLS,zLU];omega
   ·dsimp only;rw[zLS,zLU];omega
  ·rename_i hc
   rw[yi,zC]at hc;exact hj _ ⟨⟨hR.1.p,hR.1.e,hR.1.n,hR.1.v⟩,by dsimp only;omega⟩
 rw[Ok.bind];refine(Ok.loop (fun s:Job=>JobOk s/\1<=s.2.2.1.length) (fun s=>s.2.2.1.length)
  (P:=fun r:Job=>JobOk r/\1<=r.2.2.1.length) hy ?_).mono fun R hR=>?_
 ·rintro⟨p',pc',es,u''⟩ ⟨hs,aW⟩
  have hn:=hs.n;dsimp only at hs aW hn |-;rw[Ok.bind];have fin:∀x7:Int×Unit,Ok (if sel (gtI (zF es) 1) (eqI x7.1 2) false=true then jn (fun x:Job=>Comp.pure (Comp.Step.next (x.1,x.2.1,x.2.2.1,()))) fun j=>(sub es 0 (gQ .i64 (zF es) 1)).bind fun ys=>j (p',pc',ys,()) else Comp.pure (Comp.Step.done (p',pc',es,())))
    (fun t:Comp.Step Job Job=>match t with|.next s'=>(JobOk s'/\1<=s'.2.2.1.length)/\s'.2.2.1.length<es.length|.done r=>JobOk r/\1<=r.2.2.1.length):=by
   intro x7;split
   ·rename_i hc
    obtain⟨c1,c2⟩:=nH hc;rw[yd,zC]at c1;rw[zC,YG (by omega)]
    refine jC (fun y:Job=>(JobOk y/\1<=y.2.2.1.length)/\y.2.2.1.length<es.length) (fun j hj=>?_) fun y hy=>?_
    ·show Ok ((sub es 0 ((es.length:Int)-1)).bind fun ys=>j (p',pc',ys,())) _
     rw[Ok.bind,Ok.sub (by omega)]
     refine hj _ ⟨⟨⟨hs.p,fun x hx=>hs.e x (List.mem_of_mem_take (List.mem_of_mem_drop hx)),?_,hs.v⟩,?_⟩,?_⟩
     ·dsimp only;rw[List.length_drop,zLm];omega
     ·dsimp only;rw[List.length_drop,zLm];omega
     ·dsimp only;rw[List.length_drop,zLm];omega
    ·rw[Ok.pure];exact hy
   ·rw[Ok.pure];exact⟨hs,aW⟩
  refine Ok.Y1 (fun _=>Mb ⟨hs.p,hs.e,hs.n,hs.v⟩ ?_) (fun _=>?_)
  ·refine(fin _).mono fun t ht=>?_
   cases t<;>exact ht
  ·refine(fin _).mono fun t ht=>?_
   cases t<;>exact ht
 ·rw[Ok.pure];exact hR
theorem JobOk.sm{j:Job}(h:JobOk j):SmJ j:=⟨h.p.w,fun x hx=>(h.e x hx).sm,zLY h.n (by decide)⟩
theorem Ry{n:Nat}:∀ {L:List Eff} {k:Nat},efs n L k=0->∀x∈L,1<=x.2.2.1/\x.2.2.1<=1048576
 | [],_,_,x,hx=>by cases hx
 |y::L,k,h,x,hx=>by
  unfold efs at h;split at h
  ·rename_i h1
   rcases zLV.1 hx with e|e
   ·subst e
    unfold eE at h1;split at h1
    ·split at h1
     ·cases h1
     ·rename_i h2;omega
    ·rename_i h2;exact zLh h1 h2
   ·exact Ry h x e
  ·rename_i h1;exact zLh h h1
theorem QY{j:Job}(h:ckJ j=0):∀x∈j.2.2.1,1<=x.2.2.1/\x.2.2.1<=1048576:=by
 unfold ckJ at h;split at h
 ·split at h
  ·cases h
  ·split at h
   ·rename_i h1;exact Ry h1
   ·rename_i h1;exact zLh h h1
 ·rename_i h1;exact zLh h h1
def z8:List Bool:=[false,false,false,false,false,false,false,false]
def B8(s:List Bool)(k:Nat):Bool:=s.getD k false
def m8(g:Nat->Bool):List Bool:=(List.range 8).map g
theorem gm(g:Nat->Bool):(m8 g).length=8:=by simp[m8]
theorem zDt{g:Nat->Bool}{k:Nat}(h:k<8):(m8 g)[k]?=some (g k):=by simp[m8,h]
theorem Jh{g:Nat->Bool}{k:Nat}(h:k<8):B8 (m8 g) k=g k:=by unfold B8;exact gV (zDt h)
theorem Ym{s:List Bool}(hs:s.length=8){k:Nat}(h:k<8):s[k]?=some (B8 s k):=by
 have:s[k]?=some s[k]:=zLv (by omega)
 unfold B8;rw[gV this];exact this
theorem Yz{s:List Bool}(hs:s.length=8){k:Nat}(h:8<=k):B8 s k=false:=by
 unfold B8;rw[zLk,List.getElem?_eq_none (by omega)];rfl
theorem UO{s t:List Bool}(hs:s.length=8)(ht:t.length=8)(h:∀k,k<8->B8 s k=B8 t k):s=t:=by
 refine List.ext_getElem? fun k=>?_
 by_cases hk:k<8
 ·rw[Ym hs hk,Ym ht hk,h k hk]
 ·rw[List.getElem?_eq_none (by omega),List.getElem?_eq_none (by omega)]
theorem Zl{s:List Bool}(hs:s.length=8){i:Nat}(hi:i<8)(v:Bool)(k:Nat):B8 (s.set i v) k=if k=i then v else B8 s k:=by
 unfold B8;rw[zLk,zLk,List.getElem?_set];by_cases h:i=k
 ·subst h;simp[hs,hi]
 ·rw[zLs h,zLs (Ne.symm h)]
theorem Em{g:Nat->Bool}{i:Nat}(hi:i<8):(m8 fun k=>decide (k<i) && g k).set i (g i)=m8 fun k=>decide (k<i+1) && g k:=by
 refine UO (by simp[gm]) (gm _) fun k hk=>?_
 rw[Zl (gm _) hi,Jh hk,Jh hk];by_cases h:k=i
 ·subst h;simp
 ·rw[zLs h]
  have:decide (k<i)=decide (k<i+1):=by rw[decide_eq_decide];omega
  rw[this]
theorem SC{g:Nat->Bool}:z8=m8 fun k=>decide (k<0) && g k:=rfl
theorem ZF(xs:List α)(k:Nat)(v:α):j9 xs (k:Int) v=xs.set k v:=rfl
theorem ml{xs ys:List Bool}:(eqA (fun a b=>eqB a b) xs ys=true)↔xs=ys:=by
 induction xs generalizing ys with
 |nil=>cases ys<;>simp[eqA]
 |cons x xs ih =>
  cases ys with
  |nil=>simp[eqA]
  |cons y ys =>
   simp only[eqA,List.cons.injEq];rw[<-ih];cases x<;>cases y<;>simp[eqB,adB]
def sl(s:List Bool):List Nat:=(List.range 8).filter (B8 s)
def slI(s:List Bool):List Int:=(sl s).map fun k:Nat=>(k:Int)
theorem kK{s:List Bool}{k:Nat}:k∈sl s↔k<8/\B8 s k=true:=by simp[sl]
theorem wx(s:List Bool):(sl s).length<=8:=by
 have:=List.length_filter_le (B8 s) (List.range 8);simpa[sl] using this
theorem Kl(s:List Bool):(slI s).length<=8:=by simpa[slI] using wx s
theorem JA{s:List Bool}(hs:s.length=8):(vq s).val=some (slI s,()):=by
 unfold vq;refine Ok.val ?_;rw[Ok.bind];refine(Ok.count 8 (fun i (x:List Int×Int)=>x.2=(i:Int)/\x.1=((List.range i).filter (B8 s)).map fun k:Nat=>(k:Int)) (P:=fun r=>r=slI s) ⟨rfl,rfl⟩ ?_ ?_).mono fun r hr=>by rw[Ok.pure,hr]
 ·rintro i ⟨l,n⟩ hi ⟨h1,h2⟩
  dsimp only at h1 h2;subst h1 h2;have fT:=List.length_filter_le (B8 s) (List.range i)
  rw[List.length_range]at fT;rw[zLr (by rw[zH];omega),Ok.bind,Ok.JH (Ym hs hi)]
  refine jC (fun y=>y=((List.range (i+1)).filter (B8 s)).map fun k:Nat=>(k:Int)) (fun j hj=>?_) fun y hy=>?_
  ·split
   ·rename_i hb
    refine vV (by simp;omega) (hj _ ?_)
    rw[List.range_succ,List.filter_append,List.map_append];simp[hb]
   ·rename_i hb
    refine hj _ ?_;rw[List.range_succ,List.filter_append,List.map_append];simp[hb]
  ·rw[Ok.pure]
   exact⟨zN (by omega),hy⟩
 ·rintro⟨l,n⟩ ⟨h1,h2⟩
  dsimp only at h1 h2;subst h1 h2;rw[zLs (by rw[zH];show ¬((8:Nat):Int)<8;omega),Ok.pure]
  rfl
def cst(L:List Eff)(l:List Nat):Int:=(l.map fun k:Nat=>(opn L (k:Int)).2.2.1).sum
theorem WJ(L:List Eff)(l m:List Nat):cst L (l++m)=cst L l+cst L m:=by simp[cst]
theorem l8{L:List Eff}{m:Int}:∀ {l:List Nat},(∀k∈l,1<=(opn L (k:Int)).2.2.1/\(opn L (k:Int)).2.2.1<=m)->0<=cst L l/\cst L l<=l.length * m
 | [],_=>by simp[cst]
 |k::l,h=>by
  have h1:=l8 (l:=l) fun j hj=>h j (by simp[hj])
  have h2:=h k (by simp)
  have:cst L (k::l)=(opn L (k:Int)).2.2.1+cst L l:=by simp[cst]
  rw[this,zLZ];have:((l.length+1:Nat):Int) * m=l.length * m+m:=by rw[Int.natCast_add,Int.add_mul];simp
  omega
def zIF(L:List Eff):Prop:=∀k:Nat,k<L.length->1<=(opn L (k:Int)).2.2.1/\(opn L (k:Int)).2.2.1<=1048576
theorem qW{j:Job}{sp s:List Bool}(hs:s.length=8)(fX:∀k,B8 s k=true->k<j.2.2.1.length)(hc:zIF j.2.2.1):(vU (j,sp,()) s).val=some (cst j.2.2.1 (sl s),()):=by
 unfold vU;refine Ok.val ?_;rw[Ok.zQ (JA hs)];dsimp only;rw[Ok.bind];have hln:=Kl s
 refine(Ok.count (slI s).length (fun i (x:Int×Int)=>x.2=(i:Int)/\x.1=cst j.2.2.1 ((sl s).take i)) (P:=fun r=>r=cst j.2.2.1 (sl s)) ⟨rfl,by simp[cst]⟩ ?_ ?_).mono fun r hr=>by rw[Ok.pure,hr]
 ·rintro i ⟨c,n⟩ hi ⟨h1,h2⟩
  dsimp only at h1 h2;subst h1 h2;obtain⟨k,hk⟩:=zS (xs:=sl s) (k:=i) (by simpa[slI] using hi)
  have aD:(slI s)[i]?=some (k:Int):=by simp[slI,hk]
  have dP:=kK.1 (zLW hk);have bP:=fX k dP.2
  rw[zLr (by rw[zH,zC];omega),Ok.bind,Ok.JH aD,Ok.bind,Ok.yZ (mP ⟨by omega,by omega⟩),Ok.pure]
  refine⟨zN (by omega),?_⟩
  have ht:(sl s).take (i+1)=(sl s).take i++[k]:=by rw[List.take_add_one,hk];rfl
  have hb:=l8 (L:=j.2.2.1) (m:=1048576) (l:=(sl s).take i) fun q hq=>hc q (fX q (kK.1 (List.mem_of_mem_take hq)).2)
  have gF:((sl s).take i).length<=8:=by have:=wx s;rw[zLm];omega
  have tS:=hc k bP;rw[ht,WJ];show zJ .i64 _ _=_
  have e1:cst j.2.2.1 [k]=(opn j.2.2.1 (k:Int)).2.2.1:=by simp[cst]
  rw[e1,ye (by omega)]
 ·rintro⟨c,n⟩ ⟨h1,h2⟩
  dsimp only at h1 h2;subst h1 h2;rw[zLs (by rw[zH,zC];omega),Ok.pure]
  have:(sl s).take (slI s).length=sl s:=List.take_of_length_le (by simp[slI])
  rw[this]
def rs(n:Nat)(sp out:List Bool):List Bool:=m8 fun k=>decide (k<n) && (!B8 out k && !B8 sp k)
def zAO(L:List Eff):Prop:=∀k:Nat,∀q∈(opn L (k:Int)).2.2.2.1,0<=q/\q<L.length
def XA(L:List Eff)(s:List Bool):Prop:=∀k:Nat,B8 s k=true->∀q∈(opn L (k:Int)).2.2.2.1,B8 s q.toNat=true
def jI(s t:List Bool):Prop:=∀k,B8 s k=true->B8 t k=true
theorem jI.refl(s:List Bool):jI s s:=fun _ h=>h
theorem jI.trans{s t u:List Bool}(h:jI s t)(k:jI t u):jI s u:=fun i hi=>k i (h i hi)
theorem jI.eq{s t:List Bool}(hs:s.length=8)(ht:t.length=8)(h:jI s t)(k:jI t s):s=t:=UO hs ht fun i _=>by rw[Bool.eq_iff_iff];exact⟨h i,k i⟩
theorem Qw{s t:List Bool}(h:jI s t):sl s=(sl t).filter (B8 s):=by
 unfold sl;rw[List.filter_filter];refine List.filter_congr fun i _=>?_
 cases hs:B8 s i with
 |true=>rw[h i hs];rfl
 |false=>rfl
theorem GL{s t:List Bool}(hs:s.length=8)(ht:t.length=8)(h:jI s t)(fC:s≠t):(sl s).length<(sl t).length:=by
 rw[Qw h,List.length_filter_lt_length_iff_exists];by_cases he:∃x∈sl t,¬B8 s x=true
 ·exact he
 ·refine zLh (jI.eq hs ht h fun k hk=>?_) fC
  cases hb:B8 s k with
  |true=>rfl
  |false =>
   refine zLh ⟨k,kK.2 ⟨?_,hk⟩,by rw[hb];simp⟩ he
   by_cases h8:k<8
   ·exact h8
   ·rw[Yz ht (by omega)]at hk;cases hk
theorem Sf{n:Nat}{sp out:List Bool}{k:Nat}(h:B8 (rs n sp out) k=true):k<n/\B8 out k=false/\B8 sp k=false:=by
 by_cases h8:k<8
 ·unfold rs at h
  rw[Jh h8]at h;simpa using h
 ·rw[Yz (show (rs n sp out).length=8 from gm _) (by omega)]at h;cases h
theorem zAX{n:Nat}{sp out:List Bool}{k:Nat}(hn:n<=8)(h:k<n/\B8 out k=false/\B8 sp k=false):B8 (rs n sp out) k=true:=by
 unfold rs;rw[Jh (by omega)]
 simp[h.1,h.2.1,h.2.2]
structure RestOk(L:List Eff)(sp out s:List Bool):Prop where
 len:s.length=8
 sub:jI s (rs L.length sp out)
 cl:XA L s
 most:∀t,jI t (rs L.length sp out)->XA L t->jI t s
theorem GV{j:Job}{sp out:List Bool}(cB:sp.length=8)(ho:out.length=8)(hn:j.2.2.1.length<=8)(sA:zAO j.2.2.1)(dM:∀k:Nat,(opn j.2.2.1 (k:Int)).2.2.2.1.length<9223372036854775807):Ok (jj (j,sp,()) out) fun r=>RestOk j.2.2.1 sp out r.1:=by
 unfold jj;dsimp only;rw[Ok.bind];refine(Ok.count j.2.2.1.length (fun i (x:Int×List Bool)=>x.1=(i:Int)/\x.2=m8 fun k=>decide (k<i) && (!B8 out k && !B8 sp k)) (P:=fun r=>r=rs j.2.2.1.length sp out) ⟨rfl,rfl⟩ ?_ ?_).mono fun r hr=>?_
 ·rintro i ⟨n,s⟩ hi ⟨h1,h2⟩
  dsimp only at h1 h2;subst h1 h2;rw[zLr (by rw[zH,zC];omega),Ok.bind,Ok.JH (Ym ho (by omega)),Ok.bind]
  have hg:Ok (Comp.gd (ntB (B8 out i)) (idx sp (i:Int)) false) fun b=>sel (ntB (B8 out i)) (ntB b) false=(!B8 out i && !B8 sp i):=by
   cases hb:B8 out i with
   |true=>exact Ok.Y1 (fun h=>nomatch h) fun _=>rfl
   |false=>exact Ok.Y1 (fun _=>(Ok.JH (Ym cB (by omega))).2 (by cases B8 sp i<;>rfl)) fun h=>nomatch h
  refine hg.mono fun b hb=>?_
  rw[Ok.zQ (jM ⟨by omega,by omega⟩),Ok.pure]
  refine⟨zN (by omega),?_⟩
  dsimp only;rw[hb,ZF];exact Em (g:=fun k=>!B8 out k && !B8 sp k) (by omega)
 ·rintro⟨n,s⟩ ⟨h1,h2⟩
  dsimp only at h1 h2;subst h1 h2;rw[zLs (by rw[zH,zC];omega),Ok.pure];rfl
 ·subst hr
  rw[Ok.bind];have hl:(rs j.2.2.1.length sp out).length=8:=gm _
  have fX:∀k,B8 (rs j.2.2.1.length sp out) k=true->k<j.2.2.1.length:=fun k hk=>(Sf hk).1
  generalize hrs:rs j.2.2.1.length sp out=s0 at hl fX;refine(Ok.loop (fun x:List Bool×List Bool=>x.2.length=8/\jI x.2 s0/\(∀t,jI t s0->XA j.2.2.1 t->jI t x.2)/\(x.1=x.2->XA j.2.2.1 x.2)) (fun x=>2 * (sl x.2).length+if x.1=x.2 then 0 else 1) (P:=fun r=>RestOk j.2.2.1 sp out r) ⟨hl,jI.refl _,fun t h _=>h,fun h=>?_⟩ ?_).mono fun r hr=>by rw[Ok.pure];exact hr
  ·intro k hk
   have hz:B8 z8 k=true:=by rw[show z8=s0 from h];exact hk
   exfalso;by_cases h8:k<8
   ·rw[SC (g:=fun _=>true),Jh h8]at hz;simp at hz
   ·rw[Yz rfl (by omega)]at hz;cases hz
  rintro⟨l,s⟩ ⟨h1,h2,h3,h4⟩;dsimp only at h1 h2 h3 h4;by_cases he:l=s
  ·subst he
   rw[zLs (by rw[yP,ml.2 rfl];simp),Ok.pure]
   exact⟨h1,by rw[hrs];exact h2,h4 rfl,fun t ht hc=>h3 t (by rw[<-hrs];exact ht) hc⟩
  ·rw[zLr (by rw[yP];cases h:eqA (fun a b=>eqB a b) l s with|true=>exact zLh (ml.1 h) he|false=>rfl),Ok.zQ (JA h1)]
   dsimp only;rw[Ok.bind]
   have hB9:Ok (Comp.loop (fun (x_2:Int×List Bool)=>if ltI x_2.1 (zF (slI s))=true then (idx (slI s) x_2.1).bind fun x=>(idx j.2.2.1 x).bind fun x_3=>(zj x_3.2.2.2.1 fun (z:Int×Unit)=>yu z.1 x_2.2).bind fun x_4=>(inb 8 x).bind fun x_5=>.pure (.next (zJ .i64 x_2.1 1,j9 x_2.2 x (ntB x_4.1))) else .pure (.done x_2.2)) (0,s)) fun r=>r.length=8/\jI r s/\(∀t,jI t s->XA j.2.2.1 t->jI t r)/\∀k,B8 s k=true->B8 r k=true->∀q∈(opn j.2.2.1 (k:Int)).2.2.2.1,B8 s q.toNat=true:=by
    have hln:=Kl s;refine Ok.count (slI s).length (fun i (x:Int×List Bool)=>x.1=(i:Int)/\x.2.length=8/\jI x.2 s/\(∀t,jI t s->XA j.2.2.1 t->jI t x.2)/\∀k,k∈(sl s).take i->B8 x.2 k=true->∀q∈(opn j.2.2.1 (k:Int)).2.2.2.1,B8 s q.toNat=true) ⟨rfl,h1,jI.refl _,fun t h _=>h,fun k hk=>by simp at hk⟩ ?_ ?_
    ·rintro i ⟨n,t⟩ hi ⟨q1,q2,q3,q4,q5⟩
     dsimp only at q1 q2 q3 q4 q5;subst q1;obtain⟨k,hk⟩:=zS (xs:=sl s) (k:=i) (by simpa[slI] using hi)
     have aD:(slI s)[i]?=some (k:Int):=by simp[slI,hk]
     have dP:=kK.1 (zLW hk);have bP:=fX k (h2 k dP.2)
     rw[zLr (by rw[zH,zC];omega),Ok.bind,Ok.JH aD,Ok.bind,Ok.yZ (mP ⟨by omega,by omega⟩)]
     have hc:(zj (opn j.2.2.1 (k:Int)).2.2.2.1 fun (z:Int×Unit)=>yu z.1 t).val=some ((opn j.2.2.1 (k:Int)).2.2.2.1.any fun q=>!B8 t q.toNat,()):=by
      refine Zs (xs:=(opn j.2.2.1 (k:Int)).2.2.2.1) (f:=fun z=>yu z.1 t) (p:=fun q=>!B8 t q.toNat) (dM k) fun q hq=>?_
      have:=sA k q hq;show (yu q t).val=_
      unfold yu;rw[zA,KT this.1 (Ym q2 (by omega)),zLP,Comp.zB,yP]
     rw[Ok.zQ hc,Ok.zQ (jM ⟨by omega,by omega⟩),Ok.pure]
     have hany:∀ {v:Bool},(!((opn j.2.2.1 (k:Int)).2.2.2.1.any fun q=>!B8 t q.toNat))=true↔∀q∈(opn j.2.2.1 (k:Int)).2.2.2.1,B8 t q.toNat=true:=by
      simp
     refine⟨zN (by omega),by dsimp only;rw[ZF,List.length_set];exact q2,?_,?_,?_⟩
     ·intro p hp
      dsimp only at hp;rw[ZF,Zl q2 dP.1]at hp;split at hp
      ·rename_i e;rw[e];exact dP.2
      ·exact q3 p hp
     ·intro u hu aR p hp
      dsimp only;rw[ZF,Zl q2 dP.1];split
      ·rename_i e
       subst e;rw[yP];exact(hany (v:=true)).2 fun q hq=>q4 u hu aR _ (aR p hp q hq)
      ·exact q4 u hu aR p hp
     ·intro p hp hb q hq
      dsimp only at hb;rw[ZF,Zl q2 dP.1]at hb;split at hb
      ·rename_i e
       subst e;rw[yP]at hb;exact q3 _ ((hany (v:=true)).1 hb q hq)
      ·rename_i e
       rw[List.take_add_one,hk]at hp;rcases zLa.1 hp with hp|hp
       ·exact q5 p hp hb q hq
       ·exact zLh (by simpa using hp) e
    ·rintro⟨n,t⟩ ⟨q1,q2,q3,q4,q5⟩
     dsimp only at q1 q2 q3 q4 q5;subst q1;rw[zLs (by rw[zH,zC];omega),Ok.pure]
     refine⟨q2,q3,q4,fun k hk hb=>q5 k ?_ hb⟩
     rw[List.take_of_length_le (by simp[slI])]
     refine kK.2 ⟨?_,hk⟩;by_cases h8:k<8
     ·exact h8
     ·rw[Yz h1 (by omega)]at hk;cases hk
   refine hB9.mono ?_;rintro r ⟨r1,r2,r3,r4⟩;rw[Ok.pure];refine⟨⟨r1,r2.trans h2,fun t ht hc=>r3 t (h3 t ht hc) hc,fun e k hk=>?_⟩,?_⟩
   ·dsimp only at e hk |-
    subst e;exact r4 k hk hk
   ·dsimp only
    rw[zLs he];by_cases e:s=r
    ·subst e;rw[zLr rfl];omega
    ·rw[zLs e]
     have:=GL r1 h1 r2 (fun h=>e h.symm)
     omega
def alw(L:List Eff)(sp s:List Bool):Bool:=(List.range 8).all fun k=>!B8 s k || ((decide (k<L.length) && !B8 sp k) && (opn L (k:Int)).2.2.2.1.all fun q=>B8 s q.toNat)
theorem HW{L:List Eff}{sp s:List Bool}(hs:s.length=8):alw L sp s=true↔(∀k,B8 s k=true->k<L.length/\B8 sp k=false)/\XA L s:=by
 unfold alw;rw[zLw];refine⟨fun h=>?_,fun h k _=>?_⟩
 ·have key:∀k,B8 s k=true->(k<L.length/\B8 sp k=false)/\∀q∈(opn L (k:Int)).2.2.2.1,B8 s q.toNat=true:=fun k hk=>by
   by_cases h8:k<8
   ·have:=h k (List.mem_range.2 h8)
    rw[hk]at this;simpa using this
   ·rw[Yz hs (by omega)]at hk;cases hk
  exact⟨fun k hk=>(key k hk).1,fun k hk=>(key k hk).2⟩
 ·cases hb:B8 s k with
  |false=>rfl
  |true =>
   obtain⟨h1,h2⟩:=h.1 k hb;have h3:=h.2 k hb
   simp only[Bool.not_true,Bool.false_or,zLR,zLj,zLw];exact⟨⟨h1,by rw[h2];rfl⟩,h3⟩
theorem wm{j:Job}{sp s:List Bool}(cB:sp.length=8)(hs:s.length=8)(hn:j.2.2.1.length<=8)(sA:zAO j.2.2.1)(dM:∀k:Nat,(opn j.2.2.1 (k:Int)).2.2.2.1.length<9223372036854775807):(vW (j,sp,()) s).val=some (alw j.2.2.1 sp s,()):=by
 unfold vW;dsimp only;refine Ok.val ?_;rw[Ok.bind];refine(Ok.count j.2.2.1.length (fun i (x:Int×List Bool)=>x.1=(i:Int)/\x.2=m8 fun k=>decide (k<i) && !B8 s k) (P:=fun r=>r=m8 fun k=>decide (k<j.2.2.1.length) && !B8 s k) ⟨rfl,rfl⟩ ?_ ?_).mono fun r hr=>?_
 ·rintro i ⟨n,t⟩ hi ⟨h1,h2⟩
  dsimp only at h1 h2;subst h1 h2;rw[zLr (by rw[zH,zC];omega),Ok.bind,Ok.JH (Ym hs (by omega)),Ok.zQ (jM ⟨by omega,by omega⟩),Ok.pure]
  refine⟨zN (by omega),?_⟩
  dsimp only;rw[ZF];exact Em (g:=fun k=>!B8 s k) (by omega)
 ·rintro⟨n,t⟩ ⟨h1,h2⟩
  dsimp only at h1 h2;subst h1 h2;rw[zLs (by rw[zH,zC];omega),Ok.pure]
 ·subst hr
  rw[Ok.bind];refine(GV cB (gm _) hn sA dM).mono ?_;rintro⟨r,u⟩ hr;rw[Ok.pure];refine Prod.ext ?_ rfl;dsimp only at hr |-;have fX:∀k,B8 (rs j.2.2.1.length sp (m8 fun k=>decide (k<j.2.2.1.length) && !B8 s k)) k=true↔k<j.2.2.1.length/\B8 s k=true/\B8 sp k=false:=fun k=>by
   constructor
   ·intro h
    obtain⟨g1,g2,g3⟩:=Sf h;rw[Jh (by omega)]at g2
    simp[g1]at g2;exact⟨g1,g2,g3⟩
   ·rintro⟨g1,g2,g3⟩
    refine zAX hn ⟨g1,?_,g3⟩;rw[Jh (by omega)];simp[g2]
  rw[Bool.eq_iff_iff,ml,HW hs];constructor
  ·intro h
   subst h;exact⟨fun k hk=>by obtain⟨g1,_,g3⟩:=(fX k).1 (hr.sub k hk);exact⟨g1,g3⟩,hr.cl⟩
  ·rintro⟨h1,h2⟩
   refine jI.eq hr.len hs (fun k hk=>((fX k).1 (hr.sub k hk)).2.1) (hr.most s (fun k hk=>(fX k).2 ⟨(h1 k hk).1,hk,(h1 k hk).2⟩) h2)
def enR(p:Part)(x:vN)(cuts:List Cell):Nat->Nat->Bool×Int
 |_,0=>(true,0)
 |i,m+1=>if wt p i≠2\/x.1.getD i false=true then enR p x cuts (i+1) m else if (cov (nr cuts (cl p i)) (cl p i)).1=true then enR p x cuts (i+1) m else (false,(cov (nr cuts (cl p i)) (cl p i)).2)
def ctS(j:Job)(s:List Bool):List Cell:=j.2.1.2.2.1++(sl s).flatMap fun k:Nat=>(opn j.2.2.1 (k:Int)).1
def enq(j:Job)(s:List Bool):Bool×Int:=enR j.1 j.2.1 (ctS j s) 0 j.1.2.1.length
def enO:Bool×Int->Unit⊕Bool×Int
 |(true,_)=>.inl ()
 |(false,e)=>.inr (false,e)
theorem Ev{p:Part}{x:vN}{cuts:List Cell}:∀ {m i:Nat},(enR p x cuts i m).1=true->(enR p x cuts i m).2=0
 |0,_,_=>rfl
 |m+1,i,h=>by
  unfold enR at h |-;split
  ·rename_i h1;rw[zLr h1]at h;exact Ev h
  ·rename_i h1
   rw[zLs h1]at h;split
   ·rename_i h2;rw[zLr h2]at h;exact Ev h
   ·rename_i h2;rw[zLs h2]at h;cases h
def scan(g:Nat->Option ε)(d:ε):Nat->Nat->ε
 |_,0=>d
 |a,m+1=>match g a with
  |some e=>e
  |none=>scan g d (a+1) m
def scS(o:Option ε)(i:Nat):Comp.Step Int ε:=match o with
 |some e=>.done e
 |none=>.next ((i+1:Nat):Int)
theorem BC{body:Int->Comp (Comp.Step Int ε)}(g:Nat->Option ε){d:ε}:∀(m a:Nat),(∀(i:Nat),a<=i->i<a+m->(body (i:Int)).val=some (scS (g i) i))->(body ((a+m:Nat):Int)).val=some (.done d)->(Comp.loop body (a:Int)).val=some (scan g d a m)
 |0,a,hb,he=>by rw[zM];rw[Nat.add_zero]at he;rw[he];rfl
 |m+1,a,hb,he=>by
  have ih:=BC g m (a+1) (fun i h1 h2=>hb i (by omega) (by omega)) (by rw[show a+1+m=a+(m+1) by omega];exact he)
  rw[zM,hb a (zLT _) (by omega)]
  unfold scan
  cases hg:g a with
  |some e=>rfl
  |none=>exact ih
def enG(p:Part)(x:vN)(cuts:List Cell)(i:Nat):Option (Unit⊕Bool×Int):=if wt p i≠2\/x.1.getD i false=true then none else if (cov (nr cuts (cl p i)) (cl p i)).1=true then none else some (.inr (false,(cov (nr cuts (cl p i)) (cl p i)).2))
theorem CD{p:Part}{x:vN}{cuts:List Cell}:∀ {m i:Nat},enO (enR p x cuts i m)=scan (enG p x cuts) (.inl ()) i m
 |0,_=>rfl
 |m+1,i=>by
  have ih:=CD (p:=p) (x:=x) (cuts:=cuts) (m:=m) (i:=i+1);unfold scan enR enG;split
  ·exact ih
  ·split
   ·exact ih
   ·rfl
theorem Dm{j:Job}{sp s:List Bool}(hs:s.length=8)(fX:∀k,B8 s k=true->k<j.2.2.1.length)(hw:j.1.2.2.1.length=j.1.2.1.length)(hx:j.2.1.1.length=j.1.2.1.length)(hpc:j.2.1.2.2.1.length<=1000)(dM:∀x∈j.2.2.1,x.1.length<=100000)(aR:j.1.2.1.length<=1000) :
  (vF (j,sp,()) s).val=some ((enq j s).1,(enq j s).2,()):=by
 unfold vF;dsimp only;refine Ok.val ?_;have hLIM:=E5
 have hcl0:∀ {c:List Cell},c.length<=1000000->(zh c).val=some (c,()):=fun {c} h=>HL (zLY h hLIM)
 rw[Ok.zQ (hcl0 (by omega)),Ok.zQ (JA hs)]
 dsimp only;rw[Ok.bind];have hln:=Kl s
 have hol:∀k:Nat,((opn j.2.2.1 (k:Int)).1).length<=100000:=fun k=>by
  unfold opn;rw[zLk]
  cases h:j.2.2.1[((k:Int)).toNat]? with
  |none=>simp
  |some x=>exact dM x (zLW h)
 have cO:∀l:List Nat,(l.flatMap fun k:Nat=>(opn j.2.2.1 (k:Int)).1).length<=l.length * 100000:=by
  intro l
  induction l with
  |nil=>simp
  |cons k l ih=>have:=hol k;simp only[List.flatMap_cons,zLS,zLZ];omega
 refine(Ok.count (slI s).length (fun i (x:List Cell×Int)=>x.2=(i:Int)/\x.1=j.2.1.2.2.1++((sl s).take i).flatMap fun k:Nat=>(opn j.2.2.1 (k:Int)).1) (P:=fun r=>r=ctS j s) ⟨rfl,by simp⟩ ?_ ?_).mono fun r hr=>?_
 ·rintro i ⟨c,n⟩ hi ⟨h1,h2⟩
  dsimp only at h1 h2;subst h1 h2;obtain⟨k,hk⟩:=zS (xs:=sl s) (k:=i) (by simpa[slI] using hi)
  have aD:(slI s)[i]?=some (k:Int):=by simp[slI,hk]
  have dP:=kK.1 (zLW hk);have bP:=fX k dP.2
  rw[zLr (by rw[zH,zC];omega),Ok.bind,Ok.JH aD,Ok.bind,Ok.yZ (mP ⟨by omega,by omega⟩)]
  have hb:=cO ((sl s).take i);have gF:((sl s).take i).length<=8:=by have:=wx s;rw[zLm];omega
  have ho:=hol k;refine vV (by rw[zLS];omega) ?_
  rw[Ok.pure];refine⟨zN (by omega),?_⟩
  have ht:(sl s).take (i+1)=(sl s).take i++[k]:=by rw[List.take_add_one,hk];rfl
  rw[ht,List.flatMap_append,<-zLl];simp
 ·rintro⟨c,n⟩ ⟨h1,h2⟩
  dsimp only at h1 h2;subst h1 h2;rw[zLs (by rw[zH,zC];omega),Ok.pure]
  have:(sl s).take (slI s).length=sl s:=List.take_of_length_le (by simp[slI])
  rw[this];rfl
 ·subst hr
  have tW:(ctS j s).length<=900000:=by
   have:=cO (sl s);have:=wx s
   unfold ctS;rw[zLS];omega
  generalize hC:ctS j s=C at tW;rw[Ok.bind]
  have h2:∀i:Nat,i<j.1.2.1.length->(if ltI (i:Int) (zF j.1.2.1)=true then jn (fun (x:Unit)=>Comp.pure (Comp.Step.next (zJ .i64 (i:Int) 1))) fun (j':Unit->Comp (Comp.Step Int (Unit⊕Bool×Int)))=>(idx j.1.2.1 (i:Int)).bind fun x_2=>(idx j.1.2.2.1 (i:Int)).bind fun x_3=>(Comp.gd (ntB (neI x_3 2)) (idx j.2.1.1 (i:Int)) false).bind fun x_4=>if sel (neI x_3 2) true x_4=true then j' () else (zh C).bind fun y=>(zm y.1 fun (z:Cell×Unit)=>yX z.1 x_2).bind fun ys=>(kt ys x_2).bind fun x=>if ntB x.1=true then Comp.pure (Comp.Step.done (Sum.inr (false,x.2.1))) else j' () else Comp.pure (Comp.Step.done (Sum.inl ()))).val=some (scS (enG j.1 j.2.1 C i) i):=by
   intro i hi;obtain⟨c,hc⟩:=zS (xs:=j.1.2.1) (k:=i) (by omega)
   obtain⟨wv,hwv⟩:=zS (xs:=j.1.2.2.1) (k:=i) (by omega)
   obtain⟨sv,hsv⟩:=zS (xs:=j.2.1.1) (k:=i) (by omega)
   have ew:wt j.1 i=wv:=by unfold wt;exact gV hwv
   have ec:cl j.1 i=c:=by unfold cl;exact gV hc
   have es:j.2.1.1.getD i false=sv:=gV hsv;have hnx:zJ .i64 (i:Int) 1=((i+1:Nat):Int):=zN (by omega)
   rw[zLr (by rw[zH,zC];omega),vk,zA,zO hc,zLP,zA,zO hwv,zLP,zA,hnx]
   unfold enG;rw[ew,ec,es];by_cases hw2:wv=2
   ·have e1:neI wv 2=false:=by rw[hw2];rfl
    rw[e1];show Option.bind (idx j.2.1.1 (i:Int)).val _=_
    rw[zO hsv,zLP]
    cases sv with
    |true=>rw[zLr (by rfl),Comp.zB,zLr (.inr rfl)];rfl
    |false =>
     rw[zLs (by simp[sel]),zLs (by simp[hw2]),zA,hcl0 (by omega),zLP,zA]
     have hd:(zm C fun (z:Cell×Unit)=>yX z.1 c).val=some (nr C c) :=
      HH (z:=([]:Cell)) (f:=fun z=>yX z.1 c) (p:=fun q=>apa q c) (by omega) fun q _=>by
       show (yX q c).val=_
       unfold yX;rw[zA,jm,zLP,Comp.zB]
     rw[hd,zLP,zA,Ds,zLP];dsimp only
     cases hcv:(cov (nr C c) c).1 with
     |true=>rw[zLs (by simp[ntB]),Comp.zB,zLr rfl];rfl
     |false=>rw[zLr (by rfl),Comp.zB,zLs (by simp)];rfl
   ·have e1:neI wv 2=true:=by rw[z6];exact hw2
    rw[e1];show Option.bind (Comp.pure false).val _=_
    rw[Comp.zB,zLP,zLr (by rfl),Comp.zB,zLr (.inl hw2)];rfl
  refine⟨enO (enq j s),?_,?_⟩
  ·have e:enO (enq j s)=scan (enG j.1 j.2.1 C) (.inl ()) 0 j.1.2.1.length:=by unfold enq;rw[hC];exact CD
   rw[e];show (Comp.loop _ ((0:Nat):Int)).val=_
   refine BC _ _ _ (fun i _ hi=>h2 i (by omega)) ?_
   rw[zLs (by rw[zH,zC];omega),Comp.zB]
  ·cases hq:enq j s with
   |mk b e =>
    have:=@Ev j.1 j.2.1 (ctS j s) j.1.2.1.length 0
    change (enq j s).1=true->(enq j s).2=0 at this
    rw[hq]at this
    cases b with
    |true=>have he:e=0:=this rfl;subst he;exact(Ok.pure (P:=fun x=>x=(true,(0:Int),()))).2 rfl
    |false=>exact(Ok.pure (P:=fun x=>x=(false,e,()))).2 rfl
def kp(p:Part):List Cell:=((List.range p.2.1.length).filter fun i=>decide (wt p i=1)).map (cl p)
def spk(K:List Cell)(e:Eff):Bool:=(e.1.any fun c=>!sap c K) || e.2.1.any fun c=>!sap c K
def bgn(j:Job):List Bool:=m8 fun k=>decide (k<j.2.2.1.length) && spk (kp j.1) (opn j.2.2.1 (k:Int))
theorem wN{j:Job}(hw:j.1.2.2.1.length=j.1.2.1.length)(aR:j.1.2.1.length<=1000)(hn:j.2.2.1.length<=8)(dM:∀x∈j.2.2.1,x.1.length<=100000/\x.2.1.length<=100000):(kQ j).val=some ((j,bgn j,()),()):=by
 unfold kQ;refine Ok.val ?_;rw[Ok.bind];refine(Ok.count j.1.2.1.length (fun i (x:Int×List Cell)=>x.1=(i:Int)/\x.2=((List.range i).filter fun i=>decide (wt j.1 i=1)).map (cl j.1)) (P:=fun r=>r=kp j.1) ⟨rfl,rfl⟩ ?_ ?_).mono fun K hK=>?_
 ·rintro i ⟨n,s⟩ hi ⟨h1,h2⟩
  dsimp only at h1 h2;subst h1 h2;obtain⟨c,hc⟩:=zS (xs:=j.1.2.1) (k:=i) hi;obtain⟨wv,hwv⟩:=zS (xs:=j.1.2.2.1) (k:=i) (by omega)
  have ew:wt j.1 i=wv:=by unfold wt;exact gV hwv
  have ec:cl j.1 i=c:=by unfold cl;exact gV hc
  have fT:=List.length_filter_le (fun i=>decide (wt j.1 i=1)) (List.range i)
  rw[List.length_range]at fT;have hr:((List.range (i+1)).filter fun i=>decide (wt j.1 i=1)).map (cl j.1)=((List.range i).filter fun i=>decide (wt j.1 i=1)).map (cl j.1)++if wv=1 then [c] else []:=by
   rw[List.range_succ,List.filter_append,List.map_append];by_cases h:wv=1
   ·simp[ew,h,ec]
   ·simp[ew,h]
  rw[zLr (by rw[zH,zC];omega),Ok.bind,Ok.JH hc,Ok.bind,Ok.JH hwv]
  refine jC (fun y=>y=((List.range (i+1)).filter fun i=>decide (wt j.1 i=1)).map (cl j.1)) (fun j' hj=>?_) fun y hy=>?_
  ·split
   ·rename_i hb
    rw[yi]at hb;refine vV (by simp;omega) (hj _ ?_)
    rw[hr,zLr hb]
   ·rename_i hb
    rw[yi]at hb;refine hj _ ?_;rw[hr,zLs hb,zLx]
  ·rw[Ok.pure]
   exact⟨zN (by omega),hy⟩
 ·rintro⟨n,s⟩ ⟨h1,h2⟩
  dsimp only at h1 h2;subst h1 h2;rw[zLs (by rw[zH,zC];omega),Ok.pure];rfl
 ·subst hK
  have bP:(kp j.1).length<=1000:=by
   have:=List.length_filter_le (fun i=>decide (wt j.1 i=1)) (List.range j.1.2.1.length)
   rw[List.length_range]at this;unfold kp;rw[List.length_map];omega
  have hm:∀c:Cell,(vr c (kp j.1)).val=some (!sap c (kp j.1),()):=fun c=>by
   unfold vr;rw[zA,XX c (by omega),zLP,Comp.zB];rfl
  have hcf:∀l:List Cell,l.length<=100000->(zI l fun (z:Cell×Unit)=>vr z.1 (kp j.1)).val=some (l.any fun c=>!sap c (kp j.1),()):=fun l hl=>Zs (xs:=l) (f:=fun z=>vr z.1 (kp j.1)) (p:=fun c=>!sap c (kp j.1)) (by omega) fun c _=>hm c
  rw[Ok.bind];refine(Ok.count j.2.2.1.length (fun i (x:Int×Job×List Bool×Unit)=>x=((i:Int),j,(m8 fun k=>decide (k<i) && spk (kp j.1) (opn j.2.2.1 (k:Int))),())) (P:=fun r=>r=(j,bgn j,())) rfl ?_ ?_).mono fun r hr=>by rw[Ok.pure,hr]
  ·rintro i x hi rfl
   dsimp only;obtain⟨e,he⟩:=zS (xs:=j.2.2.1) (k:=i) hi;have heo:opn j.2.2.1 (i:Int)=e:=by unfold opn;exact gV he
   obtain⟨s1,s2⟩:=dM e (zLW he);rw[zLr (by rw[zH,zC];omega),Ok.bind,Ok.JH he,Ok.zQ (hcf e.1 s1),Ok.bind]
   dsimp only;have hg:Ok (Comp.gd (ntB (e.1.any fun c=>!sap c (kp j.1))) (zI e.2.1 fun (z:Cell×Unit)=>vr z.1 (kp j.1)) (false,())) fun b=>sel (e.1.any fun c=>!sap c (kp j.1)) true b.1=spk (kp j.1) e:=by
    unfold spk
    cases hb:(e.1.any fun c=>!sap c (kp j.1)) with
    |true=>exact Ok.Y1 (fun h=>nomatch h) fun _=>rfl
    |false=>exact Ok.Y1 (fun _=>(Ok.yZ (hcf e.2.1 s2)).2 rfl) fun h=>nomatch h
   refine hg.mono fun b hb=>?_
   rw[Ok.zQ (jM ⟨by omega,by omega⟩),Ok.pure]
   show _=_
   rw[hb,ZF,<-heo,Em (g:=fun k=>spk (kp j.1) (opn j.2.2.1 (k:Int))) (by omega),zN (by omega)]
  ·rintro x rfl
   dsimp only;rw[zLs (by rw[zH,zC];omega),Ok.pure];rfl
structure PlOk(j:Job):Prop where
 w:j.1.2.2.1.length=j.1.2.1.length
 x:j.2.1.1.length=j.1.2.1.length
 pc:j.2.1.2.2.1.length<=1000
 sm:∀x∈j.2.2.1,x.1.length<=100000/\x.2.1.length<=100000
 cl:j.1.2.1.length<=1000
 n:j.2.2.1.length<=8
 nd:zAO j.2.2.1
 ns:∀k:Nat,(opn j.2.2.1 (k:Int)).2.2.2.1.length<9223372036854775807
 cs:zIF j.2.2.1
def Bel(s:List Bool)(k:Nat):Prop:=s.length=8/\∀i,B8 s i=true->i<k
theorem Bel.set{s:List Bool}{k:Nat}(h:Bel s k)(hk:k<8):Bel (s.set k true) (k+1):=⟨by simp[h.1],fun i hi=>by
 rw[Zl h.1 hk]at hi;split at hi
 ·omega
 ·have:=h.2 i hi;omega⟩
theorem Bel.le{s:List Bool}{k m:Nat}(h:Bel s k)(hm:k<=m):Bel s m:=⟨h.1,fun i hi=>zLe (h.2 i hi) hm⟩
theorem RestOk.bel{L:List Eff}{sp out s:List Bool}(h:RestOk L sp out s):Bel s L.length:=⟨h.len,fun i hi=>(Sf (h.sub i hi)).1⟩
def tz:Nat->Nat
 |0=>1
 |d+1=>2 * tz d+1
theorem Qp:∀d,1<=tz d
 |0=>zLT _
 |d+1=>by unfold tz;omega
theorem wq:Bel z8 0:=⟨rfl,fun i hi=>by
 by_cases h8:i<8
 ·rw[SC (g:=fun _=>true),Jh h8]at hi;simp at hi
 ·rw[Yz rfl (by omega)]at hi;cases hi⟩
section
variable {j:Job} (hj:PlOk j)
include hj
theorem PlOk.Eu{sp s:List Bool}(hs:Bel s j.2.2.1.length):(vF (j,sp,()) s).val=some ((enq j s).1,(enq j s).2,()) :=
 Dm hs.1 hs.2 hj.w hj.x hj.pc (fun x hx=>(hj.sm x hx).1) hj.cl
end
theorem AF{k:α->Comp β}{b:(α->Comp β)->Comp β}{P:β->Prop}(h:Ok (b k) P):Ok (jn k b) P:=h
def Fnd(j:Job)(sp:List Bool)(b:Int)(f:List Bool):Prop:=b = -1\/(Bel f j.2.2.1.length/\alw j.2.2.1 sp f=true/\(enq j f).1=true/\b=cst j.2.2.1 (sl f))
def Bst(j:Job)(sp:List Bool)(b:Int)(T:List Bool->Prop):Prop:=∀t,Bel t j.2.2.1.length->alw j.2.2.1 sp t=true->T t->(enq j t).2=0/\((enq j t).1=true->0<=b/\b<=cst j.2.2.1 (sl t))
def UB(j:Job)(sp:List Bool)(e:Int):Prop:=e≠0/\∃t,Bel t j.2.2.1.length/\alw j.2.2.1 sp t=true/\e=(enq j t).2
def Agr(s t:List Bool)(k:Nat):Prop:=∀i,i<k->B8 t i=B8 s i
structure Vst(j:Job)(sp:List Bool)(b:Int)(T:List Bool->Prop)(b':Int)(f':List Bool):Prop where
 fnd:Fnd j sp b' f'
 dn:0<=b->0<=b'/\b'<=b
 bst:Bst j sp b' T
section
variable {j:Job} (hj:PlOk j)
include hj
theorem PlOk.zLD{s:List Bool}(hs:Bel s j.2.2.1.length):0<=cst j.2.2.1 (sl s):=(l8 (m:=1048576) fun k hk=>hj.cs k (hs.2 k (kK.1 hk).2)).1
theorem PlOk.visit{sp:List Bool}(cB:sp.length=8):∀(m k:Nat) (s:List Bool) (b:Int) (f:List Bool),j.2.2.1.length-k<m->k<=j.2.2.1.length->Bel s k->Fnd j sp b f->Ok (YE m (k:Int) s (j,sp,()) b f) fun r=>match r with|.inl e=>UB j sp e|.inr y=>Vst j sp b (fun t=>Agr s t k) y.1 y.2.1:=by
 intro m
 induction m with
 |zero=>intro k s b f h;omega
 |succ m ih =>
  intro k s b f hm hk hs hf;show Ok (YU (YE m) (k:Int) s (j,sp,()) b f) _
  have hn:=hj.n;have eW:=hs.le hk
  unfold YU;rw[Ok.zQ (wm cB hs.1 hj.n hj.nd hj.ns)];dsimp only;refine jC (fun x:Int×List Bool=>Vst j sp b (fun t=>t=s) x.1 x.2) (fun j' hj'=>?_) ?_
  ·by_cases ha:alw j.2.2.1 sp s=true
   ·rw[zLr ha,Ok.zQ (hj.Eu eW)]
    dsimp only;by_cases he:(enq j s).2=0
    ·rw[zLs (by rw[z6];simp[he]),Ok.zQ (qW hs.1 (fun i h=>eW.2 i h) hj.cs)]
     dsimp only;have h0:=hj.zLD eW
     refine jC (fun x:Int×List Bool=>Vst j sp b (fun t=>t=s) x.1 x.2) (fun j2 cM=>?_) fun x hx=>hj' _ hx
     cases hq:(enq j s).1 with
     |false =>
      rw[zLs (by simp[sel])]
      exact cM _ ⟨hf,fun h=>⟨h,Int.le_refl _⟩,fun t _ _ ht=>by subst ht;exact⟨he,fun h=>by rw[hq]at h;cases h⟩⟩
     |true =>
      by_cases gF:b<0\/cst j.2.2.1 (sl s)<b
      ·rw[zLr (by
        show sel true (sel (ltI b 0) true (ltI (cst j.2.2.1 (sl s)) b)) false=true
        cases h:ltI b 0 with
        |true=>rfl
        |false =>
         show ltI (cst j.2.2.1 (sl s)) b=true
         rw[zH];rcases gF with h2|h2
         ·rw[<-zH,h]at h2;cases h2
         ·exact h2)]
       exact cM _ ⟨.inr ⟨eW,ha,hq,rfl⟩,fun h=>⟨h0,by omega⟩,fun t _ _ ht=>by subst ht;exact⟨he,fun _=>⟨h0,Int.le_refl _⟩⟩⟩
      ·rw[zLs (by
        show ¬sel true (sel (ltI b 0) true (ltI (cst j.2.2.1 (sl s)) b)) false=true
        cases h:ltI b 0 with
        |true=>rw[zH]at h;exact zLh (.inl h) gF
        |false =>
         show ¬ltI (cst j.2.2.1 (sl s)) b=true
         rw[zH];exact fun h2=>gF (.inr h2))]
       exact cM _ ⟨hf,fun h=>⟨h,Int.le_refl _⟩,fun t _ _ ht=>by subst ht;exact⟨he,fun _=>by omega⟩⟩
    ·rw[zLr (by rw[z6];exact he),Ok.pure];exact⟨he,s,eW,ha,rfl⟩
   ·rw[zLs ha]
    exact hj' _ ⟨hf,fun h=>⟨h,Int.le_refl _⟩,fun t _ h2 ht=>by subst ht;exact zLh h2 ha⟩
  ·rintro⟨b1,f1⟩ h1
   dsimp only at h1;rw[Ok.bind];refine(Ok.count (j.2.2.1.length-k) (fun i (x:Int×Int×List Bool)=>x.1=((k+i:Nat):Int)/\Vst j sp b (fun t=>t=s\/Agr s t k/\∃q,k<=q/\q<k+i/\B8 t q=true) x.2.1 x.2.2) (P:=fun r:Int×List Bool⊕Int=>match r with|.inl y=>Vst j sp b (fun t=>Agr s t k) y.1 y.2|.inr e=>UB j sp e) ?_ ?_ ?_).mono ?_
   ·refine⟨by simp,h1.fnd,h1.dn,fun t g1 g2 g3=>h1.bst t g1 g2 ?_⟩
    rcases g3 with g|⟨_,q,q1,q2,_⟩
    ·exact g
    ·omega
   ·rintro i ⟨n,b2,f2⟩ hi ⟨e1,h2⟩
    dsimp only at e1 h2;subst e1;rw[zLr (by rw[zH,zC];omega),Ok.zQ (jM ⟨by omega,by omega⟩),zN (by omega),ZF,Ok.bind]
    refine(ih (k+i+1) (s.set (k+i) true) b2 f2 (by omega) (by omega) ((hs.le (by omega)).set (by omega)) h2.fnd).mono ?_
    rintro(e|⟨b3,f3,u⟩) hr
    ·dsimp only at hr |-
     rw[Ok.pure];exact hr
    ·dsimp only at hr |-
     rw[Ok.pure];have hd:∀c:Int,0<=b2/\b2<=c->0<=b3/\b3<=c:=fun c h=>by have:=hr.dn h.1;omega
     refine⟨by rw[Nat.add_assoc],hr.fnd,fun h=>hd _ (h2.dn h),fun t g1 g2 g3=>?_⟩
     by_cases cC:t=s\/Agr s t k/\∃q,k<=q/\q<k+i/\B8 t q=true
     ·obtain⟨c1,c2⟩:=h2.bst t g1 g2 cC
      exact⟨c1,fun h=>hd _ (c2 h)⟩
     ·refine hr.bst t g1 g2 ?_
      rcases g3 with g|⟨g,q,q1,q2,q3⟩
      ·exact zLh (.inl g) cC
      ·have hq:q=k+i:=by
        by_cases h:q<k+i
        ·exact zLh (.inr ⟨g,q,q1,h,q3⟩) cC
        ·omega
       subst hq;intro p hp;rw[Zl hs.1 (by omega)]
       split
       ·rename_i h;rw[h];exact q3
       ·by_cases iA:p<k
        ·exact g p iA
        ·have c1:B8 s p=false:=by
          cases h:B8 s p with
          |false=>rfl
          |true=>have:=hs.2 p h;omega
         rw[c1]
         cases h:B8 t p with
         |false=>rfl
         |true=>exact zLh (.inr ⟨g,p,by omega,by omega,h⟩) cC
   ·rintro⟨n,b2,f2⟩ ⟨e1,h2⟩
    dsimp only at e1 h2;subst e1;rw[zLs (by rw[zH,zC];show ¬((k+(j.2.2.1.length-k):Nat):Int)<(j.2.2.1.length:Int);omega),Ok.pure]
    refine⟨h2.fnd,h2.dn,fun t g1 g2 g3=>h2.bst t g1 g2 ?_⟩
    by_cases h:∃q,k<=q/\B8 t q=true
    ·obtain⟨q,q1,q2⟩:=h
     have:=g1.2 q q2;exact .inr ⟨g3,q,q1,by omega,q2⟩
    ·refine .inl (UO g1.1 hs.1 fun p hp=>?_)
     by_cases iA:p<k
     ·exact g3 p iA
     ·have c1:B8 s p=false:=by
       cases h:B8 s p with
       |false=>rfl
       |true=>have:=hs.2 p h;omega
      rw[c1]
      cases h2:B8 t p with
      |false=>rfl
      |true=>exact zLh ⟨p,by omega,h2⟩ h
   ·rintro(⟨b2,f2⟩|e) hr
    ·dsimp only at hr |-
     rw[Ok.pure];exact hr
    ·dsimp only at hr |-
     rw[Ok.pure];exact hr
end
structure SmB(j:Job):Prop where
 s:SmJ j
 c:j.1.2.1.length<=1000
theorem Rz{n:Nat}:∀ {L:List Eff} {k:Nat},efs n L k=0->∀x∈L,∀q∈x.2.2.2.1,0<=q/\q<n
 | [],_,_,x,hx=>by cases hx
 |y::L,k,h,x,hx=>by
  unfold efs at h;split at h
  ·rename_i h1
   rcases zLV.1 hx with e|e
   ·subst e
    unfold eE at h1;split at h1
    ·split at h1
     ·cases h1
     ·cases hb:x.2.2.2.1.any (uB n k) with
      |true=>rw[hb]at h1;cases h1
      |false =>
       intro q hq;have:=List.any_eq_false.1 hb q hq
       unfold uB at this;simp at this;omega
    ·rename_i h2;exact zLh h1 h2
   ·exact Rz h x e
  ·rename_i h1;exact zLh h h1
theorem mO{L:List Eff}{k:Nat}:opn L (k:Int)∈L\/opn L (k:Int)=([],[],0,[],()):=by
 unfold opn;rw[zLk]
 cases h:L[((k:Int)).toNat]? with
 |none=>exact .inr rfl
 |some x=>exact .inl (zLW h)
theorem QX{j:Job}(h:ckJ j=0):fit j.1 j.2.1=0/\j.2.2.1.length<=8/\zAO j.2.2.1:=by
 unfold ckJ at h;split at h
 ·rename_i hf
  split at h
  ·cases h
  ·rename_i h8
   split at h
   ·rename_i h1
    refine⟨hf,by omega,fun k q hq=>?_⟩
    rcases mO (L:=j.2.2.1) (k:=k) with h2|h2
    ·exact Rz h1 _ h2 q hq
    ·rw[h2]at hq;cases hq
   ·rename_i h1;exact zLh h h1
 ·rename_i h1;exact zLh h h1
theorem SmB.pl{j:Job}(h:SmB j)(hc:ckJ j=0):PlOk j:=by
 have aO:=QY hc;obtain⟨hf,h8,sA⟩:=QX hc;obtain⟨_,_,f1,f2,f3,f4,f5,f6⟩:=J9 hf;refine⟨f6,f1,by omega,fun x hx=>⟨(h.s.e x hx).1,(h.s.e x hx).2.1⟩,h.c,h8,sA,fun k=>?_,fun k hk=>?_⟩
 ·rcases mO (L:=j.2.2.1) (k:=k) with h2|h2
  ·have:=(h.s.e _ h2).2.2;omega
  ·rw[h2];decide
 ·obtain⟨x,hx⟩:=zS hk
  have e:opn j.2.2.1 (k:Int)=x:=by unfold opn;exact gV hx
  rw[e];exact aO x (zLW hx)
def IL(j:Job)(l:List Int)(c:Int):Prop:=∃t,l=slI t/\c=cst j.2.2.1 (sl t)/\Bel t j.2.2.1.length/\alw j.2.2.1 (bgn j) t=true/\(enq j t).1=true/\∀u,Bel u j.2.2.1.length->alw j.2.2.1 (bgn j) u=true->(enq j u).2=0/\((enq j u).1=true->cst j.2.2.1 (sl t)<=cst j.2.2.1 (sl u))
def zIE(j:Job):Prop:=∀u,Bel u j.2.2.1.length->alw j.2.2.1 (bgn j) u=true->(enq j u).2=0/\(enq j u).1=false
inductive BestR(j:Job):List Int->Int->Int->Prop
 |bad:ckJ j≠0->BestR j [] 0 (ckJ j)
 |err {e}:ckJ j=0->UB j (bgn j) e->BestR j [] 0 e
 |non:ckJ j=0->zIE j->BestR j [] 0 60
 |ok {l c}:ckJ j=0->IL j l c->BestR j l c 0
theorem zBW{L:List Eff}{s:List Bool}(hc:∀k∈sl s,1<=(opn L (k:Int)).2.2.1)(h:cst L (sl s)=0):sl s=[]:=by
 cases he:sl s with
 |nil=>rfl
 |cons k l =>
  exfalso;rw[he]at h hc;have h1:∀m:List Nat,(∀i∈m,1<=(opn L (i:Int)).2.2.1)->0<=cst L m:=fun m=>by
   induction m with
   |nil=>intro _;exact Int.le_refl _
   |cons a m ih =>
    intro hm;have:=ih fun i hi=>hm i (zLb _ hi)
    have:=hm a (by simp)
    have e:cst L (a::m)=(opn L (a:Int)).2.2.1+cst L m:=by simp[cst]
    omega
  have h2:=h1 l fun i hi=>hc i (zLb _ hi)
  have h3:=hc k (by simp)
  have e:cst L (k::l)=(opn L (k:Int)).2.2.1+cst L l:=by simp[cst]
  omega
def Mp(e:Int):Prop:=e=0\/e=9\/e=2
theorem zFX{pcs:List Cell}{q:Cell}:(wth pcs q).2=0\/(wth pcs q).2=9:=by
 unfold wth;split
 ·split
  ·exact .inr rfl
  ·split
   ·exact .inr rfl
   ·exact .inl rfl
 ·exact .inl rfl
theorem Gp:∀ {s pcs:List Cell},(ZN pcs s).2=0\/(ZN pcs s).2=9
 | [],_=>.inl rfl
 |q::s,pcs=>by
  unfold ZN;split
  ·exact Gp
  ·exact zFX
theorem zGx{s:List Cell}{c:Cell}(hc:chk c=0)(hs:∀q∈s,chk q=0):Mp (cov s c).2:=by
 show Mp (mns c s).2
 unfold mns;rw[zLr hc];split
 ·split
  ·rcases Gp (s:=s) (pcs:=[ln c]) with h|h
   ·exact .inl h
   ·exact .inr (.inl h)
  ·exact .inl rfl
 ·unfold sck
  split
  ·exact .inr (.inr rfl)
  ·exact .inl (ZC.2 hs)
theorem CX:∀ {l seen:List Cell},Xu seen l=true->∀c∈l,chk c=0
 | [],_,_,c,hc=>by cases hc
 |d::l,seen,h,c,hc=>by
  unfold Xu at h;simp only[zLR]at h;rcases zLV.1 hc with e|e
  ·subst e
   have:=h.1;unfold ful at this;simp only[zLR,zLj]at this;exact this.1
  ·exact CX h.2.2 c e
theorem WT{p:Part}(h:ckP p=0):∀c∈p.2.1,chk c=0:=by
 unfold ckP at h;split at h
 ·cases h
 ·split at h
  ·cases h
  ·cases hb:Xu [] p.2.1 with
   |true=>exact CX hb
   |false=>rw[hb]at h;cases h
theorem pN{n:Nat}:∀ {L:List Eff} {k:Nat},efs n L k=0->∀x∈L,∀c∈x.1++x.2.1,chk c=0
 | [],_,_,x,hx=>by cases hx
 |y::L,k,h,x,hx=>by
  unfold efs at h;split at h
  ·rename_i h1
   rcases zLV.1 hx with e|e
   ·subst e
    unfold eE at h1;split at h1
    ·rename_i h2;exact ZC.1 h2
    ·rename_i h2;exact zLh h1 h2
   ·exact pN h x e
  ·rename_i h1;exact zLh h h1
theorem HM{j:Job}(h:ckJ j=0):fit j.1 j.2.1=0/\∀x∈j.2.2.1,∀c∈x.1++x.2.1,chk c=0:=by
 unfold ckJ at h;split at h
 ·rename_i hf
  split at h
  ·cases h
  ·split at h
   ·rename_i h1;exact⟨hf,pN h1⟩
   ·rename_i h1;exact zLh h h1
 ·rename_i h1;exact zLh h h1
def EOk(e:Int):Prop:=e≠35/\e≠30/\e≠60
theorem EOk.of{e:Int}(h:e=0\/e=1\/e=2\/e=3\/e=4\/e=7\/e=9\/e=12\/e=13):EOk e:=by unfold EOk;omega
theorem zGz{c:Cell}:EOk (chk c):=by
 unfold chk;split
 ·exact .of (by omega)
 ·cases c.all okP<;>exact .of (by simp)
theorem Rj:∀ {s:List Cell},EOk (ja s)
 | []=>.of (.inl rfl)
 |c::s=>by
  rw[JR];split
  ·exact Rj
  ·exact zGz
theorem zGy{p:Part}:EOk (ckP p):=by
 unfold ckP;split
 ·exact .of (by omega)
 ·split
  ·exact .of (by omega)
  ·cases Xu [] p.2.1<;>exact .of (by simp)
theorem zGn{p:Part}{x:vN}:EOk (fit p x):=by
 unfold fit;split
 ·cases Yf p x<;>exact .of (by simp)
 ·exact zGy
theorem zLB{n k:Nat}{x:Eff}:EOk (eE n k x):=by
 unfold eE;split
 ·split
  ·exact .of (by omega)
  ·cases x.2.2.2.1.any (uB n k)<;>cases rQ x.2.2.2.1<;>exact .of (by simp)
 ·exact Rj
theorem zBJ{n:Nat}:∀ {L:List Eff} {k:Nat},EOk (efs n L k)
 | [],_=>by unfold efs;exact .of (by omega)
 |x::L,k=>by
  unfold efs;split
  ·exact zBJ
  ·exact zLB
theorem S6{j:Job}:EOk (ckJ j):=by
 unfold ckJ;split
 ·split
  ·exact .of (by omega)
  ·split
   ·split<;>exact .of (by omega)
   ·exact zBJ
 ·exact zGn
theorem Mp.e{e:Int}(h:Mp e):EOk e:=by
 rcases h with h|h|h<;>exact .of (by omega)
theorem zBH{p:Part}{x:vN}{cuts:List Cell}(hp:∀c∈p.2.1,chk c=0)(hc:∀c∈cuts,chk c=0):∀ {m i:Nat},i+m<=p.2.1.length->Mp (enR p x cuts i m).2
 |0,_,_=>.inl rfl
 |m+1,i,h=>by
  have ih:=zBH (x:=x) hp hc (m:=m) (i:=i+1) (by omega)
  unfold enR;split
  ·exact ih
  ·split
   ·exact ih
   ·exact zGx (hp _ (R2 (by omega))) fun q hq=>hc q (List.mem_filter.1 hq).1
theorem WD{j:Job}{s:List Bool}(hc:ckJ j=0):∀c∈ctS j s,chk c=0:=by
 obtain⟨hf,hce⟩:=HM hc;obtain⟨_,_,_,_,_,f4,_,_⟩:=J9 hf;intro c hm;unfold ctS at hm;rcases zLa.1 hm with hm|hm
 ·exact ZC.1 f4 c hm
 ·obtain⟨k,_,hk⟩:=List.mem_flatMap.1 hm
  rcases mO (L:=j.2.2.1) (k:=k) with h|h
  ·exact hce _ h c (List.mem_append_left _ hk)
  ·rw[h]at hk;cases hk
theorem S2{j:Job}{s:List Bool}(hc:ckJ j=0):Mp (enq j s).2:=by
 obtain⟨hf,hce⟩:=HM hc;exact zBH (WT (J9 hf).1) (WD hc) (by omega)
theorem BestR.e{j:Job}{l:List Int}{c e:Int}(h:BestR j l c e):e≠35/\e≠30:=by
 cases h with
 |bad h=>exact⟨S6.1,S6.2.1⟩
 |err h h' =>
  obtain⟨_,t,_,_,rfl⟩:=h';exact⟨(S2 h).e.1,(S2 h).e.2.1⟩
 |non h h'=>decide
 |ok h h'=>decide
theorem BestR.ok'{j:Job}{l:List Int}{c:Int}(h:BestR j l c 0):IL j l c:=by
 generalize he:(0:Int)=e at h
 cases h with
 |bad h=>exact zLh he.symm h
 |err h h'=>exact zLh he.symm h'.1
 |non h h'=>cases he
 |ok h h'=>exact h'
theorem zDg{s t:List Cell}{c:Cell}(h:∀q∈s,q∈t):∀q∈nr s c,q∈nr t c:=fun q hq=>by
 unfold nr at hq |-;rw[List.mem_filter]at hq |-;exact⟨h q hq.1,hq.2⟩
theorem PcV.fit{p:Part}{x:vN}(h:PcV p x):fit p x=0:=by
 unfold Go.Geo.fit;rw[zLr h.c,h.f];rfl
def upB(n:Nat):Int->List Int->Bool
 |_,[]=>true
 |b,k::l=>(decide (b<k) && decide (k<n)) && upB n k l
theorem Zm{n:Nat}:∀ {l:List Int} {b:Int},upB n b l=true->∀k∈l,b<k/\k<n
 | [],_,_,_,h=>by cases h
 |q::l,b,hu,k,h=>by
  unfold upB at hu;simp only[zLR,zLj]at hu;rcases zLV.1 h with e|e
  ·subst e;exact hu.1
  ·have:=Zm hu.2 k e
   exact⟨by omega,this.2⟩
theorem Qv:∀ {a b:List Nat},a.Pairwise (· < ·)->b.Pairwise (· < ·)->(∀x,x∈a↔x∈b)->a=b
 | [],[],_,_,_=>rfl
 | [],y::b,_,_,h=>zLh ((h y).2 (by simp)) (by simp)
 |x::a,[],_,_,h=>zLh ((h x).1 (by simp)) (by simp)
 |x::a,y::b,ha,hb,h=>by
  rw[List.pairwise_cons]at ha hb;have e:x=y:=by
   have h1:=(h x).1 (by simp)
   have h2:=(h y).2 (by simp)
   rcases zLV.1 h1 with h1|h1
   ·exact h1
   ·rcases zLV.1 h2 with h2|h2
    ·exact h2.symm
    ·have:=ha.1 y h2
     have:=hb.1 x h1;omega
  subst e;rw[Qv ha.2 hb.2 fun z=>?_]
  have h1:=h z;constructor
  ·intro hz
   have:=ha.1 z hz;rcases zLV.1 (h1.1 (by simp[hz])) with h2|h2
   ·omega
   ·exact h2
  ·intro hz
   have:=hb.1 z hz;rcases zLV.1 (h1.2 (by simp[hz])) with h2|h2
   ·omega
   ·exact h2
def stO(l:List Int):List Bool:=m8 fun k=>decide ((k:Int)∈l)
theorem nx{l:List Int}:(stO l).length=8:=gm _
theorem nk{n:Nat}:∀ {l:List Int} {b:Int}, -1<=b->upB n b l=true->(l.map Int.toNat).Pairwise (· < ·)
 | [],_,_,_=>List.Pairwise.nil
 |k::l,b,hb,h=>by
  have h0:=Zm h;unfold upB at h;simp only[zLR,zLj]at h;rw[List.map_cons,List.pairwise_cons];refine⟨fun q hq=>?_,nk (by omega) h.2⟩
  obtain⟨r,hr,rfl⟩:=List.mem_map.1 hq;have:=Zm h.2 r hr
  omega
theorem zAV{n:Nat}(hn:n<=8){l:List Int}(h:upB n (-1) l=true){k:Nat}:B8 (stO l) k=true↔(k:Int)∈l:=by
 by_cases h8:k<8
 ·unfold stO;rw[Jh h8,decide_eq_true_iff]
 ·rw[Yz nx (by omega)]
  refine⟨fun h=>(nomatch h),fun hm=>?_⟩
  have:=Zm h _ hm;omega
theorem GJ{n:Nat}(hn:n<=8){l:List Int}(h:upB n (-1) l=true):Bel (stO l) n:=⟨nx,fun i hi=>by
 have:=Zm h _ ((zAV hn h).1 hi);omega⟩
theorem U1{n:Nat}(hn:n<=8){l:List Int}(h:upB n (-1) l=true):slI (stO l)=l:=by
 have h1:sl (stO l)=l.map Int.toNat:=by
  refine Qv ?_ (nk (by omega) h) fun x=>?_
  ·unfold sl;exact List.Pairwise.filter _ List.pairwise_lt_range
  ·rw[kK,zAV hn h,List.mem_map]
   constructor
   ·rintro⟨_,h2⟩;exact⟨(x:Int),h2,rfl⟩
   ·rintro⟨y,hy,rfl⟩
    have:=Zm h y hy;have e:((y.toNat:Nat):Int)=y:=by omega
    rw[e];exact⟨by omega,hy⟩
 unfold slI;rw[h1,List.map_map];refine(List.map_congr_left fun y hy=>?_).trans (List.map_id l)
 have:=Zm h y hy;show ((y.toNat:Nat):Int)=y
 omega
theorem Mz{n:Nat}{l:List Int}(h:upB n (-1) l=true):rQ l=true:=by
 unfold rQ;rw[Bool.not_eq_true'];unfold UW;rw[List.any_eq_false];intro k hk;rw[List.mem_range']at hk;obtain⟨i,hi,rfl⟩:=hk;have hp:=nk (by omega) h
 rw[List.pairwise_iff_getElem]at hp;obtain⟨a,ha⟩:=zS (xs:=l) (k:=1+1 * i) (by omega)
 obtain⟨b,hb⟩:=zS (xs:=l) (k:=1+1 * i-1) (by omega)
 rw[gV ha,gV hb];have h2:=hp (1+1 * i-1) (1+1 * i) (by rw[List.length_map];omega) (by rw[List.length_map];omega) (by omega)
 rw[List.getElem_map,List.getElem_map]at h2;rw[zLv (by omega)]at ha hb
 cases ha;cases hb
 have:=Zm h _ (List.getElem_mem (l:=l) (n:=1+1 * i) (by omega))
 have:=Zm h _ (List.getElem_mem (l:=l) (n:=1+1 * i-1) (by omega))
 rw[decide_eq_true_iff];omega
theorem Ut{n:Nat}{l:List Int}(h:upB n (-1) l=true)(hn:n<=8):l.length<=8:=by
 rw[<-U1 hn h];exact Kl _
theorem Ba{j:Job}(hn:j.2.2.1.length<=8){l:List Int}(hl:upB j.2.2.1.length (-1) l=true):(YM j l).val=some (stO l,true,()):=by
 refine Ok.val ?_;have bO:=Ut hl hn
 unfold YM;rw[Ok.bind];refine(Ok.count l.length (fun i (s:Int×List Bool)=>s.1=(i:Int)/\s.2=m8 fun k=>decide ((k:Int)∈l.take i)) (P:=fun r=>r=.inl (stO l)) ⟨rfl,?_⟩ ?_ ?_).mono fun r hr=>?_
 ·show z8=_
  refine UO rfl (gm _) fun k hk=>?_
  rw[Jh hk,SC (g:=fun _=>true),Jh hk];simp
 ·rintro i ⟨n,s⟩ hi ⟨h1,h2⟩
  dsimp only at h1 h2;subst h1 h2;obtain⟨k,hk⟩:=zS hi;have dP:=Zm hl k (zLW hk)
  dsimp only;have e1:¬sel (ltI k 0) true (geI k (zF j.2.2.1))=true:=by rw[gx,zLp,zH,Ye,zC];omega
  rw[zLr (by rw[zH,zC];omega),Ok.bind,Ok.JH hk,zLs e1,Ok.zQ (jM ⟨by omega,by omega⟩),Ok.pure]
  refine⟨zN (by omega),?_⟩
  dsimp only;have ek:k=((k.toNat:Nat):Int):=by omega
  have ht:l.take (i+1)=l.take i++[k]:=by rw[List.take_add_one,hk];rfl
  rw[ek,ZF];refine UO (by simp[gm]) (gm _) fun q hq=>?_
  rw[Zl (gm _) (by omega),Jh hq,Jh hq,ht,Bool.eq_iff_iff]
  by_cases h:q=k.toNat
  ·rw[zLr h]
   simp only[zLj,true_iff,zLa,List.mem_singleton];exact .inr (by omega)
  ·rw[zLs h]
   simp only[zLj,zLa,List.mem_singleton];constructor
   ·exact .inl
   ·rintro(g|g)
    ·exact g
    ·omega
 ·rintro⟨n,s⟩ ⟨h1,h2⟩
  dsimp only at h1 h2;subst h1 h2;dsimp only;rw[zLs (by rw[zH,zC];omega),Ok.pure,List.take_length];rfl
 ·rw[hr]
  dsimp only;rw[Ok.zQ (kr (by omega)),Mz hl,Ok.pure]
theorem QI{j:Job}(h:SmB j)(hc:ckJ j=0){l:List Int}(hl:upB j.2.2.1.length (-1) l=true):(jE j l).val=some ((enq j (stO l)).1,(enq j (stO l)).2,()):=by
 have hj:=h.pl hc;refine Ok.val ?_;unfold jE;rw[Ok.zQ (gk h.s.w h.s.e)];dsimp only;rw[zLs (by rw[z6];simp[hc]),Ok.zQ (Ba hj.n hl)]
 dsimp only;rw[zLs (by decide)]
 have he:=hj.Eu (sp:=z8) (GJ hj.n hl);rw[Ok.bind,show ([false,false,false,false,false,false,false,false]:List Bool)=z8 from rfl,Ok.yZ he,Ok.pure]
theorem MW{j:Job}(h:SmB j)(hc:ckJ j=0){l:List Int}(hl:upB j.2.2.1.length (-1) l=true):(zq j l).val=some (alw j.2.2.1 (bgn j) (stO l),()):=by
 have hj:=h.pl hc;refine Ok.val ?_;unfold zq;rw[Ok.zQ (gk h.s.w h.s.e)];dsimp only;rw[zLs (by rw[z6];simp[hc]),Ok.zQ (Ba hj.n hl),Ok.bind]
 show Ok (kQ j) _
 rw[Ok.yZ (wN hj.w hj.cl hj.n hj.sm),Ok.bind];show Ok (vW (j,bgn j,()) (stO l)) _
 rw[Ok.yZ (wm (show (bgn j).length=8 from gm _) nx hj.n hj.nd hj.ns),Ok.pure];rfl
def clS(L:List Eff)(s:List Bool):List Bool:=m8 fun k=>B8 s k && (opn L (k:Int)).2.2.2.1.all fun q=>B8 s q.toNat
def itS(L:List Eff):Nat->List Bool->List Bool
 |0,s=>s
 |m+1,s=>itS L m (clS L s)
def Hc(L:List Eff)(sp out:List Bool):List Bool:=itS L 8 (rs L.length sp out)
theorem mr{L:List Eff}{s:List Bool}(hs:s.length=8):jI (clS L s) s:=fun k hk=>by
 by_cases h8:k<8
 ·unfold clS at hk
  rw[Jh h8,zLR]at hk;exact hk.1
 ·rw[Yz (show (clS L s).length=8 from gm _) (by omega)]at hk;cases hk
theorem QW{L:List Eff}{s t:List Bool}(ht:t.length=8)(h:jI t s)(hc:XA L t):jI t (clS L s):=fun k hk=>by
 by_cases h8:k<8
 ·unfold clS
  rw[Jh h8,h k hk,Bool.true_and,zLw];exact fun q hq=>h _ (hc k hk q hq)
 ·rw[Yz ht (by omega)]at hk;cases hk
theorem WQ{L:List Eff}{s:List Bool}(h:clS L s=s):XA L s:=fun k hk q hq=>by
 by_cases h8:k<8
 ·have h1:=hk
  rw[<-h]at h1;unfold clS at h1;rw[Jh h8,zLR,zLw]at h1;exact h1.2 q hq
 ·have hl:s.length=8:=by rw[<-h];exact gm _
  rw[Yz hl (by omega)]at hk;cases hk
theorem Bl{L:List Eff}{s:List Bool}(h:clS L s=s):∀m,itS L m s=s
 |0=>rfl
 |m+1=>by show itS L m (clS L s)=s;rw[h];exact Bl h m
theorem Rg{L:List Eff}:∀(m:Nat) (s:List Bool),s.length=8->(sl s).length<=m->((itS L m s).length=8/\jI (itS L m s) s)/\clS L (itS L m s)=itS L m s/\∀t,t.length=8->jI t s->XA L t->jI t (itS L m s)
 |0,s,hs,h=>by
  refine⟨⟨hs,jI.refl _⟩,jI.eq (gm _) hs (mr hs) fun k hk=>?_,fun t _ h _=>h⟩
  exfalso;have hk:B8 s k=true:=hk
  have h8:k<8:=by
   by_cases h8:k<8
   ·exact h8
   ·rw[Yz hs (by omega)]at hk;cases hk
  have:k∈sl s:=kK.2 ⟨h8,hk⟩;rw[List.eq_nil_of_length_eq_zero (by omega:(sl s).length=0)]at this
  cases this
 |m+1,s,hs,h=>by
  by_cases he:clS L s=s
  ·rw[Bl he (m+1)]
   exact⟨⟨hs,jI.refl _⟩,he,fun t _ h _=>h⟩
  ·have hl:(clS L s).length=8:=gm _
   have gF:=GL hl hs (mr hs) he;obtain⟨⟨a1,a2⟩,a3,a4⟩:=Rg m (clS L s) hl (by omega)
   exact⟨⟨a1,a2.trans (mr hs)⟩,a3,fun t ht h hc=>a4 t ht (QW ht h hc) hc⟩
theorem mH{L:List Eff}{sp out:List Bool}:(Hc L sp out).length=8/\RestOk L sp out (Hc L sp out):=by
 have hl:(rs L.length sp out).length=8:=gm _;obtain⟨⟨a1,a2⟩,a3,a4⟩:=Rg (L:=L) 8 (rs L.length sp out) hl (wx _);refine⟨a1,a1,a2,WQ a3,fun t h hc k hk=>?_⟩
 have cD:jI (m8 (B8 t)) t/\jI t (m8 (B8 t)):=by
  refine⟨fun i hi=>?_,fun i hi=>?_⟩
  ·by_cases h8:i<8
   ·rw[Jh h8]at hi;exact hi
   ·rw[Yz (gm _) (by omega)]at hi;cases hi
  ·have h8:i<8:=by
    by_cases h8:i<8
    ·exact h8
    ·have:=h i hi
     rw[Yz hl (by omega)]at this;cases this
   rw[Jh h8];exact hi
 exact a4 (m8 (B8 t)) (gm _) (cD.1.trans h) (fun i hi q hq=>cD.2 _ (hc i (cD.1 i hi) q hq)) k (cD.2 k hk)
theorem RestOk.is{L:List Eff}{sp out s:List Bool}(h:RestOk L sp out s):s=Hc L sp out:=by
 obtain⟨h1,h2⟩:=mH (L:=L) (sp:=sp) (out:=out);exact jI.eq h.len h1 (h2.most s h.sub h.cl) (h.most _ h2.sub h2.cl)
def shQ(q:List Bool->Bool×Int)(L:List Eff)(sp inn out:List Bool):Bool:=((sl inn).any fun k=>!B8 (Hc L sp out) k) || (decide ((q (Hc L sp out)).2=0) && !(q (Hc L sp out)).1)
theorem zBY{s:List Bool}{i:Nat}{y:Int}(h:(slI s)[i]?=some y):∃k:Nat,(sl s)[i]?=some k/\y=(k:Int):=by
 unfold slI at h;rw[List.getElem?_map]at h
 cases hk:(sl s)[i]? with
 |none=>rw[hk]at h;cases h
 |some k=>rw[hk]at h;cases h;exact⟨k,rfl,rfl⟩
section
variable {j:Job} (hj:PlOk j)
include hj
theorem PlOk.rX{sp inn out:List Bool}(cB:sp.length=8)(hi:inn.length=8)(ho:out.length=8):(gD (j,sp,()) inn out).val=some (shQ (enq j) j.2.2.1 sp inn out,()):=by
 refine Ok.val ?_;unfold gD;rw[Ok.bind];refine(GV cB ho hj.n hj.nd hj.ns).mono ?_;rintro⟨r,u⟩ hr;dsimp only at hr;have cD:=hr.bel
 have kA:=hr.len;have er:=hr.is
 rw[Ok.zQ (JA hi)];dsimp only;rw[Ok.bind];unfold shQ;rw[<-er];have hln:=Kl inn
 have e0:(slI inn).length=(sl inn).length:=by unfold slI;rw[List.length_map]
 refine(Ok.count (slI inn).length (fun i (x:Int)=>x=(i:Int)/\((sl inn).take i).any (fun k=>!B8 r k)=false) (P:=fun t:Unit⊕Bool=>match t with|.inl _=>(sl inn).any (fun k=>!B8 r k)=false|.inr b=>b=true/\(sl inn).any (fun k=>!B8 r k)=true) ⟨rfl,rfl⟩ ?_ ?_).mono ?_
 ·rintro i x hi' ⟨rfl,h2⟩
  obtain⟨y,hy⟩:=zS hi';obtain⟨k,hk,rfl⟩:=zBY hy;have hk8:=(kK.1 (zLW hk)).1
  rw[zLr (by rw[zH,zC];omega),Ok.bind,Ok.JH hy,Ok.bind,Ok.JH (Ym kA hk8),yP]
  have ht:(sl inn).take (i+1)=(sl inn).take i++[k]:=by rw[List.take_add_one,hk];rfl
  cases hb:B8 r k with
  |true =>
   rw[zLs (by simp),Ok.pure]
   refine⟨zN (by omega),?_⟩
   rw[ht,List.any_append,h2];simp[hb]
  |false =>
   rw[zLr (by rfl),Ok.pure]
   exact⟨rfl,List.any_eq_true.2 ⟨k,zLW hk,by rw[hb];rfl⟩⟩
 ·rintro x ⟨rfl,h2⟩
  rw[zLs (by rw[zH,zC];omega),Ok.pure]
  rw[e0,List.take_length]at h2;exact h2
 ·rintro(u'|b) hb
  ·dsimp only at hb |-
   rw[Ok.zQ (hj.Eu cD),Ok.pure,hb];have e1:eqI (enq j r).2 0=decide ((enq j r).2=0):=rfl
   rw[e1];cases (enq j r).1<;>cases decide ((enq j r).2=0)<;>rfl
  ·obtain⟨rfl,hb⟩:=hb
   dsimp only;rw[Ok.pure,hb];rfl
end
abbrev Nd:=Int×Int×Unit
def trL(q:List Bool->Bool×Int)(L:List Eff)(sp:List Bool)(lim:Int):Nat->Nat->List Bool->List Bool->List Nd
 |0,_,inn,_=>if 0<lim/\lim<=cst L (sl inn) then [(2,0,())] else [(3,0,())]
 |d+1,k,inn,out=>if 0<lim/\lim<=cst L (sl inn) then [(2,0,())] else if shQ q L sp inn out=true then [(3,0,())] else (1,(k:Int),())::(trL q L sp lim d (k+1) (inn.set k true) out++trL q L sp lim d (k+1) inn (out.set k true))
theorem uU{q:List Bool->Bool×Int}{L:List Eff}{sp:List Bool}{lim:Int}:∀(d k:Nat) (inn out:List Bool),(trL q L sp lim d k inn out).length<=tz d
 |0,_,_,_=>by unfold trL;split<;>exact zLT _
 |d+1,k,inn,out=>by
  have h1:=uU (q:=q) (L:=L) (sp:=sp) (lim:=lim) d (k+1) (inn.set k true) out;have h2:=uU (q:=q) (L:=L) (sp:=sp) (lim:=lim) d (k+1) inn (out.set k true)
  have h3:=Qp d;have e:tz (d+1)=2 * tz d+1:=rfl
  unfold trL;rw[e];split
  ·show 1<=_;omega
  ·split
   ·show 1<=_;omega
   ·simp only[zLZ,zLS];omega
theorem tz8:∀d,d<=8->tz d<=511:=fun d hd=>by
 match d,hd with
 |0,_|1,_|2,_|3,_|4,_|5,_|6,_|7,_|8,_=>decide
section
variable {j:Job} (hj:PlOk j)
include hj
theorem PlOk.M3{sp:List Bool}(cB:sp.length=8){lim:Int}:∀(m k:Nat) (inn out:List Bool) (y:List Nd),j.2.2.1.length-k<m->k<=j.2.2.1.length->Bel inn k->Bel out k->y.length+tz (j.2.2.1.length-k)<=1000 ->
  Ok (jV m (k:Int) inn out lim (j,sp,()) y) fun r=>r=.inr (y++trL (enq j) j.2.2.1 sp lim (j.2.2.1.length-k) k inn out,()):=by
 intro m
 induction m with
 |zero=>intro k inn out y h;omega
 |succ m ih =>
  intro k inn out y hm hk hi ho hy;show Ok (j0 (jV m) (k:Int) inn out lim (j,sp,()) y) _
  have hn:=hj.n;have htp:=Qp (j.2.2.1.length-k)
  unfold j0;rw[Ok.bind];have aY:=qW (sp:=sp) hi.1 (fun i h=>zLe (hi.2 i h) hk) hj.cs
  have aO:Ok (Comp.gd (gtI lim 0) (vU (j,sp,()) inn) (0,())) fun c=>sel (gtI lim 0) (geI c.1 lim) false=decide (0<lim/\lim<=cst j.2.2.1 (sl inn)):=by
   by_cases h:0<lim
   ·have e1:gtI lim 0=true:=by rw[yd];exact h
    rw[e1];refine Ok.Y1 (fun _=>(Ok.yZ aY).2 ?_) fun h=>nomatch h
    show geI (cst j.2.2.1 (sl inn)) lim=_
    rw[Bool.eq_iff_iff,Ye,decide_eq_true_iff];exact⟨fun g=>⟨h,g⟩,fun g=>g.2⟩
   ·have e1:gtI lim 0=false:=by rw[<-Bool.not_eq_true,yd];exact h
    rw[e1];refine Ok.Y1 (fun h=>nomatch h) fun _=>?_
    rw[zLt fun g=>h g.1];rfl
  refine aO.mono fun c hc=>?_
  rw[hc];generalize hT:trL (enq j) j.2.2.1 sp lim (j.2.2.1.length-k) k inn out=T;refine jC (fun y'=>y'=y++T) (fun j' hj'=>?_) fun y' hy'=>by rw[Ok.pure,hy']
  by_cases hl:0<lim/\lim<=cst j.2.2.1 (sl inn)
  ·rw[zLr (by rw[zLu hl])]
   refine vV (by simp;omega) (hj' _ ?_)
   rw[<-hT];cases j.2.2.1.length-k<;>(unfold trL;rw[zLr hl])
  ·rw[zLs (by rw[zLt hl];decide),Ok.bind]
   have kA:zF (j,sp,()).1.2.2.1=(j.2.2.1.length:Int):=rfl;by_cases hkn:k<j.2.2.1.length
   ·have hd:j.2.2.1.length-k=(j.2.2.1.length-(k+1))+1:=by omega
    have e1:geI (k:Int) (zF (j,sp,()).1.2.2.1)=false:=by rw[<-Bool.not_eq_true,Ye,kA];omega
    rw[e1];refine Ok.Y1 (fun _=>(Ok.yZ (hj.rX cB hi.1 ho.1)).2 ?_) fun h=>nomatch h
    rw[hd]at hT;unfold trL at hT;rw[zLs hl]at hT;refine jC (fun y'=>y'=y++T) (fun j2 cM=>?_) fun y' hy'=>hj' _ hy'
    by_cases hs:shQ (enq j) j.2.2.1 sp inn out=true
    ·rw[zLr hs]at hT
     rw[zLr (by show sel false true (shQ (enq j) j.2.2.1 sp inn out)=true;rw[hs];rfl)]
     exact vV (by simp;omega) (cM _ (by rw[<-hT]))
    ·rw[zLs hs]at hT
     rw[zLs (show ¬sel false true (shQ (enq j) j.2.2.1 sp inn out)=true from hs)]
     have htz:tz (j.2.2.1.length-k)=2 * tz (j.2.2.1.length-(k+1))+1:=by rw[hd];rfl
     refine vV (by simp;omega) ?_
     rw[Ok.zQ (jM ⟨by omega,by omega⟩),Ok.zQ (jM ⟨by omega,by omega⟩),zN (by omega),ZF,ZF,Ok.bind]
     have e2:(y++[(1,(k:Int),())]).length=y.length+1:=by simp
     refine(ih (k+1) (inn.set k true) out _ (by omega) (by omega) (hi.set (by omega)) (ho.le (by omega)) (by rw[e2];omega)).mono ?_
     rintro r rfl;dsimp only;rw[Ok.bind];have h3:=uU (q:=enq j) (L:=j.2.2.1) (sp:=sp) (lim:=lim) (j.2.2.1.length-(k+1)) (k+1) (inn.set k true) out
     refine(ih (k+1) inn (out.set k true) _ (by omega) (by omega) (hi.le (by omega)) (ho.set (by omega)) (by rw[zLS,e2];omega)).mono ?_
     rintro r rfl;refine cM _ ?_;dsimp only;rw[<-hT];simp[zLl]
   ·have hd:j.2.2.1.length-k=0:=by omega
    have e1:geI (k:Int) (zF (j,sp,()).1.2.2.1)=true:=by rw[Ye,kA];omega
    rw[e1];refine Ok.Y1 (fun h=>nomatch h) fun _=>?_
    rw[hd]at hT;unfold trL at hT;rw[zLs hl]at hT;refine jC (fun y'=>y'=y++T) (fun j2 cM=>?_) fun y' hy'=>hj' _ hy'
    rw[zLr (by rfl)]
    exact vV (by simp;omega) (cM _ (by rw[<-hT]))
theorem PlOk.zAT{sp:List Bool}(cB:sp.length=8)(lim:Int):Ok (ji (j,sp,()) lim) fun r=>r.1=trL (enq j) j.2.2.1 sp lim j.2.2.1.length 0 z8 z8:=by
 unfold ji;rw[Ok.bind];have hn:=hj.n
 refine(hj.M3 cB 40 0 z8 z8 [] (by omega) (by omega) wq wq (by have:=tz8 j.2.2.1.length hn;simp;omega)).mono ?_
 rintro r rfl;dsimp only;rw[Ok.pure];rfl
end
end Go.Geo
end
section
namespace Go.Cvx
abbrev Q3:=Rat×Rat×Rat
abbrev Hs:=Q3×Rat
def dot(a b:Q3):Rat:=a.1 * b.1+a.2.1 * b.2.1+a.2.2 * b.2.2
def gW(a b:Q3):Q3:=(a.2.1 * b.2.2-a.2.2 * b.2.1,a.2.2 * b.1-a.1 * b.2.2,a.1 * b.2.1-a.2.1 * b.1)
def sl(h:Hs)(x:Q3):Rat:=h.2-dot h.1 x
def mv(x d:Q3)(t:Rat):Q3:=(x.1+t * d.1,x.2.1+t * d.2.1,x.2.2+t * d.2.2)
def ng(d:Q3):Q3:=(-d.1, -d.2.1, -d.2.2)
abbrev Z3:Q3:=(0,0,0)
theorem qo(g x d:Q3)(t:Rat):dot g (mv x d t)=dot g x+t * dot g d:=by unfold dot mv;grind
theorem Xa(h:Hs)(x d:Q3)(t:Rat):sl h (mv x d t)=sl h x-t * dot h.1 d:=by unfold sl;rw[qo];grind
theorem qn(g d:Q3):dot g (ng d) = - dot g d:=by unfold dot ng;grind
theorem Ew{a b:Rat}(ha:0<=a)(hb:0<b):0<=a / b:=by
 by_cases h:0<=a / b
 ·exact h
 ·have h1:=Rat.mul_pos (a := -(a / b)) (b:=b) (by grind) hb
  have h2:a / b * b=a:=by grind
  grind
theorem zEO{a b:Rat}(ha:0<a)(hb:0<b):0<a / b:=by
 have h:=Ew (show 0<=a by grind) hb
 have h2:a / b * b=a:=by grind
 by_cases h3:a / b=0
 ·rw[h3]at h2;grind
 ·grind
theorem Hj{a b:Q3}(h1:a.1=b.1)(h2:a.2.1=b.2.1)(h3:a.2.2=b.2.2):a=b:=Prod.ext h1 (Prod.ext h2 h3)
theorem Ht(a:Rat):0<=a * a:=by
 rcases Rat.le_total (a:=0) (b:=a) with h|h
 ·exact Rat.mul_nonneg h h
 ·have:=Rat.mul_nonneg (a := -a) (b := -a) (by grind) (by grind);grind
theorem sq_pos{a:Rat}(h:a≠0):0<a * a:=by
 have:=Ht a;have h2:a * a≠0:=fun e=>by rcases Rat.mul_eq_zero.1 e with h'|h'<;>exact h h'
 grind
theorem HF{d:Q3}(h:d≠Z3):0<dot d d:=by
 have h1:=Ht d.1;have h2:=Ht d.2.1
 have h3:=Ht d.2.2;unfold dot;by_cases e1:d.1=0
 ·by_cases e2:d.2.1=0
  ·by_cases e3:d.2.2=0
   ·exact zLh (Hj e1 e2 e3) h
   ·have:=sq_pos e3;grind
  ·have:=sq_pos e2;grind
 ·have:=sq_pos e1;grind
theorem zAq{d:Q3}(h:d≠Z3):ng d≠Z3:=fun e=>h (by
 have e1 : -d.1=0:=zLi (·.1) e
 have e2 : -d.2.1=0:=zLi (·.2.1) e
 have e3 : -d.2.2=0:=zLi (·.2.2) e
 exact Hj (by show d.1=0;grind) (by show d.2.1=0;grind) (by show d.2.2=0;grind))
theorem ray{y d:Q3}:∀(r:List Hs),(∀h∈r,0<=sl h y)->(∀h∈r,dot h.1 d<=0)\/∃t,0<=t/\(∃q∈r,0<dot q.1 d/\sl q (mv y d t)=0)/\∀h∈r,0<=sl h (mv y d t)
 | [],_=>.inl fun _ h=>nomatch h
 |h::r,hy=>by
  have hs:=hy h (by simp)
  have key:∀ {t:Rat} {q:Hs},0<=t->0<=sl q y->dot q.1 d<=0->0<=sl q (mv y d t):=fun {t q} h1 h2 h3=>by
   rw[Xa];have:=Rat.mul_nonneg h1 (b := -dot q.1 d) (by grind)
   grind
  have key2:∀ {t u:Rat} {q:Hs},t<=u->0<=sl q (mv y d u)->0<=t->0<=sl q y->0<=sl q (mv y d t):=fun {t u q} h1 h2 h0 h3=>by
   by_cases h4:dot q.1 d<=0
   ·exact key h0 h3 h4
   ·rw[Xa]at h2 |-
    have:=Rat.mul_nonneg (a:=u-t) (b:=dot q.1 d) (by grind) (by grind)
    grind
  rcases ray (y:=y) (d:=d) r fun q hq=>hy q (zLb _ hq) with ih|⟨t,h0,⟨q,hq,nC,dQ⟩,ih⟩
  ·by_cases hd:dot h.1 d<=0
   ·refine .inl fun q hq=>?_
    rcases zLV.1 hq with e|e
    ·subst e;exact hd
    ·exact ih q e
   ·have iY:0<dot h.1 d:=by grind
    have ht:0<=sl h y / dot h.1 d:=Ew hs (by grind)
    have he:sl h (mv y d (sl h y / dot h.1 d))=0:=by rw[Xa];grind
    refine .inr ⟨sl h y / dot h.1 d,ht,⟨h,by simp,iY,he⟩,fun q hq=>?_⟩
    rcases zLV.1 hq with e|e
    ·subst e;rw[he];grind
    ·exact key ht (hy q (by simp[e])) (ih q e)
  ·by_cases hc:0<=sl h (mv y d t)
   ·refine .inr ⟨t,h0,⟨q,by simp[hq],nC,dQ⟩,fun p hp=>?_⟩
    rcases zLV.1 hp with e|e
    ·subst e;exact hc
    ·exact ih p e
   ·have iY:0<dot h.1 d:=by
     by_cases h4:dot h.1 d<=0
     ·exact zLh (key h0 hs h4) hc
     ·grind
    have ht:0<=sl h y / dot h.1 d:=Ew hs (by grind)
    have he:sl h (mv y d (sl h y / dot h.1 d))=0:=by rw[Xa];grind
    have fT:sl h y / dot h.1 d<=t:=by
     by_cases h5:sl h y / dot h.1 d<=t
     ·exact h5
     ·exfalso
      refine hc (key2 (u:=sl h y / dot h.1 d) (by grind) (by rw[he];grind) h0 hs)
    refine .inr ⟨sl h y / dot h.1 d,ht,⟨h,by simp,iY,he⟩,fun p hp=>?_⟩
    rcases zLV.1 hp with e|e
    ·subst e;rw[he];grind
    ·exact key2 fT (ih p e) ht (hy p (by simp[e]))
theorem zFC{x d:Q3}:∀(A:List Hs),(∀h∈A,0<sl h x)->∃e,0<e/\∀t,0<=t->t<=e->∀h∈A,0<sl h (mv x d t)
 | [],_=>⟨1,by decide,fun _ _ _ _ h=>nomatch h⟩
 |h::A,hx=>by
  obtain⟨e,h0,ih⟩:=zFC (d:=d) A fun q hq=>hx q (zLb _ hq)
  have hs:=hx h (by simp)
  by_cases hd:dot h.1 d<=0
  ·refine⟨e,h0,fun t t0 t1 q hq=>?_⟩
   rcases zLV.1 hq with c|c
   ·subst c
    rw[Xa];have:=Rat.mul_nonneg t0 (b := -dot q.1 d) (by grind)
    grind
   ·exact ih t t0 t1 q c
  ·have iY:0<dot h.1 d:=by grind
   have hp:0<sl h x / (2 * dot h.1 d):=zEO hs (by grind)
   have hl:∀t,0<=t->t<=sl h x / (2 * dot h.1 d)->0<sl h (mv x d t):=fun t t0 t1=>by
    rw[Xa];have h1:=Rat.mul_nonneg (a:=sl h x / (2 * dot h.1 d)-t) (b:=dot h.1 d) (by grind) (by grind)
    have h2:sl h x / (2 * dot h.1 d) * dot h.1 d=sl h x / 2:=by grind
    grind
   by_cases hm:e<=sl h x / (2 * dot h.1 d)
   ·refine⟨e,h0,fun t t0 t1 q hq=>?_⟩
    rcases zLV.1 hq with c|c
    ·subst c;exact hl t t0 (by grind)
    ·exact ih t t0 t1 q c
   ·refine⟨sl h x / (2 * dot h.1 d),hp,fun t t0 t1 q hq=>?_⟩
    rcases zLV.1 hq with c|c
    ·subst c;exact hl t t0 t1
    ·exact ih t t0 (by grind) q c
def ngH(h:Hs):Hs:=(ng h.1, -h.2)
theorem zAW(h:Hs)(x:Q3):sl (ngH h) x = - sl h x:=by unfold sl ngH ng dot;grind
theorem gen:∀(G:List Hs) {A:List Hs} {x:Q3},(∀g∈G,g.1≠Z3)->(∀h∈A,0<sl h x)->∃z,(∀h∈A,0<sl h z)/\∀g∈G,sl g z≠0
 | [],A,x,_,hx=>⟨x,hx,fun _ h=>nomatch h⟩
 |g::G,A,x,hG,hx=>by
  have h1:∃z,(∀h∈A,0<sl h z)/\sl g z≠0:=by
   by_cases h:sl g x=0
   ·obtain⟨e,e0,he⟩:=zFC (d:=g.1) A hx
    refine⟨mv x g.1 e,he e (by grind) (by grind),?_⟩
    rw[Xa,h];have h2:=HF (hG g (by simp))
    have:=Rat.mul_pos e0 h2
    grind
   ·exact⟨x,hx,h⟩
  obtain⟨z,hz,hg⟩:=h1;have fin:∀g',(0<sl g' z/\∀w,0<sl g' w->sl g w≠0)->∃z,(∀h∈A,0<sl h z)/\∀g0∈g::G,sl g0 z≠0:=fun g' hg'=>by
   obtain⟨w,w1,w2⟩:=gen G (A:=g'::A) (x:=z) (fun q hq=>hG q (by simp[hq])) (fun q hq=>by
    rcases zLV.1 hq with c|c
    ·subst c;exact hg'.1
    ·exact hz q c)
   refine⟨w,fun q hq=>w1 q (by simp[hq]),fun q hq=>?_⟩
   rcases zLV.1 hq with c|c
   ·subst c;exact hg'.2 w (w1 g' (by simp))
   ·exact w2 q c
  by_cases hp:0<sl g z
  ·exact fin g ⟨hp,fun w h=>by grind⟩
  ·exact fin (ngH g) ⟨by rw[zAW];grind,fun w h=>by rw[zAW]at h;grind⟩
theorem Ju(a b:Q3):dot a (gW a b)=0:=by unfold dot gW;grind
theorem Jt(a b:Q3):dot b (gW a b)=0:=by unfold dot gW;grind
theorem KW(a b:Q3):dot a b=dot b a:=by unfold dot;grind
theorem lr(g d:Q3):dot (ng g) d = - dot g d:=by rw[KW,qn,KW]
theorem zAd{n:Q3}(h:n≠Z3):∃d,d≠Z3/\dot n d=0:=by
 by_cases h1:n.1=0/\n.2.1=0
 ·refine⟨(1,0,0),by decide,?_⟩
  unfold dot;grind
 ·refine⟨(n.2.1, -n.1,0),fun e=>h1 ?_,by unfold dot;grind⟩
  have e1:n.2.1=0:=zLi (·.1) e
  have e2 : -n.1=0:=zLi (·.2.1) e
  exact⟨by grind,e1⟩
theorem sgn(g:Q3){d:Q3}(h:d≠Z3):∃d',d'≠Z3/\(∀n,dot n d=0->dot n d'=0)/\(∀n,dot n d'≠0->dot n d≠0)/\0<=dot g d':=by
 by_cases h1:0<=dot g d
 ·exact⟨d,h,fun _ h=>h,fun _ h=>h,h1⟩
 ·refine⟨ng d,zAq h,fun n hn=>by rw[qn,hn];decide,fun n hn=>?_,by rw[qn];grind⟩
  rw[qn]at hn;grind
theorem bac{a b d:Q3}(h:gW a b=Z3):a.1 * dot b d=b.1 * dot a d/\a.2.1 * dot b d=b.2.1 * dot a d/\a.2.2 * dot b d=b.2.2 * dot a d:=by
 have e1:a.2.1 * b.2.2-a.2.2 * b.2.1=0:=zLi (·.1) h
 have e2:a.2.2 * b.1-a.1 * b.2.2=0:=zLi (·.2.1) h
 have e3:a.1 * b.2.1-a.2.1 * b.1=0:=zLi (·.2.2) h
 unfold dot;refine⟨?_,?_,?_⟩<;>grind
theorem zFQ{a b d:Q3}(h:gW a b=Z3)(ha:a≠Z3)(hd:dot a d=0):dot b d=0:=by
 obtain⟨h1,h2,h3⟩:=bac (d:=d) h;rw[hd]at h1 h2 h3;by_cases hb:dot b d=0
 ·exact hb
 ·exfalso
  refine ha (Hj ?_ ?_ ?_)
  ·show a.1=0
   have:a.1 * dot b d=0:=by rw[h1];grind
   rcases Rat.mul_eq_zero.1 this with h|h
   ·exact h
   ·exact zLh h hb
  ·show a.2.1=0
   have:a.2.1 * dot b d=0:=by rw[h2];grind
   rcases Rat.mul_eq_zero.1 this with h|h
   ·exact h
   ·exact zLh h hb
  ·show a.2.2=0
   have:a.2.2 * dot b d=0:=by rw[h3];grind
   rcases Rat.mul_eq_zero.1 this with h|h
   ·exact h
   ·exact zLh h hb
def Fe(r:List Hs)(y:Q3):Prop:=∀h∈r,0<=sl h y
def Bdd(r:List Hs):Prop:=∀d,d≠Z3->∃h∈r,0<dot h.1 d
theorem step{r:List Hs}(hb:Bdd r){y d:Q3}(hy:Fe r y)(hd:d≠Z3):∃t,0<=t/\(∃q∈r,0<dot q.1 d/\sl q (mv y d t)=0)/\Fe r (mv y d t):=by
 rcases ray (d:=d) r hy with h|h
 ·obtain⟨q,hq,h1⟩:=hb d hd
  have:=h q hq
  grind
 ·exact h
structure Vx(r:List Hs)(q1 q2 q3:Hs)(v:Q3):Prop where
 fe:Fe r v
 m1:q1∈r
 m2:q2∈r
 m3:q3∈r
 t1:sl q1 v=0
 t2:sl q2 v=0
 t3:sl q3 v=0
 dt:dot q3.1 (gW q1.1 q2.1)≠0
theorem zAS{r:List Hs}(hb:Bdd r)(g:Q3){y:Q3}(hy:Fe r y){q1:Hs}(hq:q1∈r)(ht:sl q1 y=0)(hn:q1.1≠Z3):∃v q2 q3,Vx r q1 q2 q3 v/\dot g y<=dot g v:=by
 obtain⟨d0,h0,p0⟩:=zAd hn;obtain⟨d,hd,k1,_,hg⟩:=sgn g h0;have p:=k1 _ p0
 obtain⟨t,t0,⟨q2,m2,d2,s2⟩,f2⟩:=step hb hy hd;have s1:sl q1 (mv y d t)=0:=by rw[Xa,ht,p];grind
 have g1:dot g y<=dot g (mv y d t):=by
  rw[qo];have:=Rat.mul_nonneg t0 hg
  grind
 generalize mv y d t=y1 at s1 s2 f2 g1;have hc:gW q1.1 q2.1≠Z3:=fun e=>by
  have:=zFQ e hn p
  grind
 obtain⟨e,he,k2,k3,iG⟩:=sgn g hc;have a1:=k2 _ (Ju q1.1 q2.1)
 have a2:=k2 _ (Jt q1.1 q2.1);obtain⟨u,u0,⟨q3,m3,d3,s3⟩,f3⟩:=step hb f2 he;refine⟨mv y1 e u,q2,q3,⟨f3,hq,m2,m3,by rw[Xa,s1,a1];grind,by rw[Xa,s2,a2];grind,s3,k3 _ (by grind)⟩,?_⟩
 rw[qo];have:=Rat.mul_nonneg u0 iG
 grind
theorem zFY{r:List Hs}(hb:Bdd r)(g:Q3){y:Q3}(hy:Fe r y):∃v q1 q2 q3,Vx r q1 q2 q3 v/\dot g y<=dot g v:=by
 obtain⟨d,hd,_,_,hg⟩:=sgn g (show ((1,0,0):Q3)≠Z3 by decide)
 obtain⟨t,t0,⟨q1,m1,d1,s1⟩,f1⟩:=step hb hy hd;have hn:q1.1≠Z3:=fun e=>by
  rw[e]at d1;unfold dot at d1
  grind
 obtain⟨v,q2,q3,hv,h⟩:=zAS hb g f1 m1 s1 hn;refine⟨v,q1,q2,q3,hv,?_⟩;rw[qo]at h;have:=Rat.mul_nonneg t0 hg
 grind
theorem zGo{r:List Hs}(hb:Bdd r){y:Q3}(hy:Fe r y){q:Hs}(hq:q∈r)(ht:sl q y=0)(hn:q.1≠Z3)(ho:∀p∈r,sl p y=0->gW q.1 p.1=Z3){V:List Q3}(hV:∀v q2 q3,Vx r q q2 q3 v->v∈V):3<=V.length:=by
 have key:∀g,g≠Z3->dot q.1 g=0->∃v∈V,dot g y<dot g v:=fun g hg hp=>by
  obtain⟨e,e0,he⟩:=zFC (x:=y) (d:=g) (r.filter fun p=>decide (sl p y≠0)) fun p hp=>by
   rw[List.mem_filter,decide_eq_true_iff]at hp;have:=hy p hp.1
   have:=hp.2
   grind
  have f1:Fe r (mv y g e):=fun p hpm=>by
   by_cases hz:sl p y=0
   ·rw[Xa,hz,zFQ (ho p hpm hz) hn hp];grind
   ·have:=he e (by grind) (by grind) p (by rw[List.mem_filter,decide_eq_true_iff];exact⟨hpm,hz⟩)
    grind
  obtain⟨v,q2,q3,hv,h⟩:=zAS hb g f1 hq (by rw[Xa,ht,hp];grind) hn
  refine⟨v,hV v q2 q3 hv,?_⟩;rw[qo]at h;have:=Rat.mul_pos e0 (HF hg)
  grind
 have no:∀g,g≠Z3->dot q.1 g=0->∀u,(∀v∈V,dot g v=u)->False:=fun g hg hp u hu=>by
  obtain⟨v,hv,h1⟩:=key g hg hp;obtain⟨w,hw,h2⟩:=key (ng g) (zAq hg) (by rw[qn,hp];decide)
  rw[lr,lr,hu w hw]at h2;rw[hu v hv]at h1
  grind
 obtain⟨g0,oB,bH⟩:=zAd hn
 match V,no with
 | [],no=>exact(no g0 oB bH 0 fun v h=>nomatch h).elim
 | [v1],no=>exact(no g0 oB bH (dot g0 v1) fun v h=>by rw[List.mem_singleton.1 h]).elim
 | [v1,v2],no =>
  exfalso;have hd:∀g,dot g (v2.1-v1.1,v2.2.1-v1.2.1,v2.2.2-v1.2.2)=0->∀v∈[v1,v2],dot g v=dot g v1:=fun g h v hv=>by
   rcases zLV.1 hv with e|e
   ·rw[e]
   ·rw[List.mem_singleton.1 e]
    unfold dot at h |-
    grind
  by_cases hc:gW q.1 (v2.1-v1.1,v2.2.1-v1.2.1,v2.2.2-v1.2.2)=Z3
  ·refine no g0 oB bH _ (hd g0 ?_)
   rw[KW];exact zFQ hc hn bH
  ·refine no _ hc (Ju _ _) _ (hd _ ?_)
   rw[KW];exact Jt _ _
 |_::_::_::V,_=>simp
def lin(a b:Rat)(p q:Hs):Hs:=((a * q.1.1-b * p.1.1,a * q.1.2.1-b * p.1.2.1,a * q.1.2.2-b * p.1.2.2),a * q.2-b * p.2)
theorem zBX(a b:Rat)(p q:Hs)(z:Q3):sl (lin a b p q) z=a * sl q z-b * sl p z:=by unfold sl lin dot;grind
theorem MB{a b:Rat}{p q:Hs}(ha:a≠0)(h:(lin a b p q).1=Z3):gW p.1 q.1=Z3:=by
 have e1:a * q.1.1-b * p.1.1=0:=zLi (·.1) h
 have e2:a * q.1.2.1-b * p.1.2.1=0:=zLi (·.2.1) h
 have e3:a * q.1.2.2-b * p.1.2.2=0:=zLi (·.2.2) h
 have no:∀u,a * u=0->u=0:=fun u hu=>by
  rcases Rat.mul_eq_zero.1 hu with h|h
  ·exact zLh h ha
  ·exact h
 refine Hj (no _ ?_) (no _ ?_) (no _ ?_)
 ·show a * (p.1.2.1 * q.1.2.2-p.1.2.2 * q.1.2.1)=0
  grind
 ·show a * (p.1.2.2 * q.1.1-p.1.1 * q.1.2.2)=0
  grind
 ·show a * (p.1.1 * q.1.2.1-p.1.2.1 * q.1.1)=0
  grind
theorem zGj{c B:List Hs}(hb:Bdd (c++B))(hn:∀p∈c,p.1≠Z3){x:Q3}(hxB:∀h∈B,0<sl h x)(hx:∃p∈c,sl p x<0)(hz:∃z,∀h∈c++B,0<sl h z) :
  ∃q∈c,sl q x<0/\∀V:List Q3,(∀v q2 q3,Vx (c++B) q q2 q3 v->v∈V)->3<=V.length:=by
 obtain⟨z0,aA⟩:=hz;obtain⟨p0,bH,cL⟩:=hx;obtain⟨z,hz,hg⟩:=gen ((c.flatMap fun p=>c.map fun q=>lin (sl p x) (sl q x) p q).filter fun g=>decide (g.1≠Z3)) (fun g hg=>by rw[List.mem_filter,decide_eq_true_iff]at hg;exact hg.2) aA
 have hgen:∀p∈c,∀q∈c,sl (lin (sl p x) (sl q x) p q) z=0->(lin (sl p x) (sl q x) p q).1=Z3:=fun p hp q hq h=>by
  by_cases e:(lin (sl p x) (sl q x) p q).1=Z3
  ·exact e
  ·refine zLh h (hg _ ?_)
   rw[List.mem_filter,decide_eq_true_iff];exact⟨List.mem_flatMap.2 ⟨p,hp,List.mem_map.2 ⟨q,hq,rfl⟩⟩,e⟩
 have aQ:Fe (c++B) z:=fun h hm=>by have:=hz h hm;grind
 have hsx:∀h:Hs,sl h x=sl h z-dot h.1 (x.1-z.1,x.2.1-z.2.1,x.2.2-z.2.2):=fun h=>by unfold sl dot;grind
 generalize (x.1-z.1,x.2.1-z.2.1,x.2.2-z.2.2)=d at hsx;have hd:d≠Z3:=fun e=>by
  have h1:=hsx p0;rw[e]at h1;have h2:=hz p0 (by simp[bH])
  have h3:dot p0.1 Z3=0:=by unfold dot;grind
  grind
 obtain⟨t,t0,⟨q,hq,nC,dQ⟩,hf⟩:=step hb aQ hd;have dO:∀h:Hs,sl h (mv z d t)=(1-t) * sl h z+t * sl h x:=fun h=>by rw[Xa,hsx h];grind
 generalize mv z d t=y at dQ hf dO;have ht:t<1:=by
  by_cases h:t<1
  ·exact h
  ·exfalso
   have h1:=hf p0 (by simp[bH])
   rw[dO]at h1;have h2:=Rat.mul_nonneg (a:=t-1) (b:=sl p0 z) (by grind) (by have:=hz p0 (by simp[bH]);grind)
   have h3:=Rat.mul_pos (a:=t) (b := - sl p0 x) (by grind) (by grind)
   grind
 have tight:∀p∈c++B,sl p y=0->p∈c/\sl p x<0:=fun p hp h=>by
  rw[dO]at h;have h1:=Rat.mul_pos (a:=1-t) (b:=sl p z) (by grind) (hz p hp)
  have h2:sl p x<0:=by
   by_cases h3:sl p x<0
   ·exact h3
   ·have:=Rat.mul_nonneg t0 (b:=sl p x) (by grind)
    grind
  refine⟨?_,h2⟩;rcases zLa.1 hp with h3|h3
  ·exact h3
  ·have:=hxB p h3;grind
 obtain⟨hqc,hqx⟩:=tight q hq dQ;refine⟨q,hqc,hqx,fun V hV=>zGo hb hf hq dQ (hn q hqc) (fun p hp h=>?_) hV⟩
 obtain⟨hpc,hpx⟩:=tight p hp h;refine MB (a:=sl q x) (b:=sl p x) (by grind) (hgen q hqc p hpc ?_)
 rw[zBX];rw[dO]at h dQ;have h4:(1-t) * (sl q x * sl p z-sl p x * sl q z)=0:=by grind
 rcases Rat.mul_eq_zero.1 h4 with h5|h5
 ·grind
 ·exact h5
theorem inner{r:List Hs}:∀(A:List Hs),(∃y,Fe r y)->(∀h∈A,h∈r/\∃v,Fe r v/\0<sl h v)->∃z,Fe r z/\∀h∈A,0<sl h z
 | [],⟨y,hy⟩,_=>⟨y,hy,fun _ h=>nomatch h⟩
 |h::A,hy,hA=>by
  obtain⟨z,z1,z2⟩:=inner A hy fun q hq=>hA q (by simp[hq])
  obtain⟨hr,v,v1,v2⟩:=hA h (by simp)
  have hm:∀q:Hs,sl q ((z.1+v.1) / 2,(z.2.1+v.2.1) / 2,(z.2.2+v.2.2) / 2)=(sl q z+sl q v) / 2:=fun q=>by unfold sl dot;grind
  refine⟨_,fun q hq=>by rw[hm];have:=z1 q hq;have:=v1 q hq;grind,fun q hq=>?_⟩
  rw[hm];rcases zLV.1 hq with e|e
  ·subst e;have:=z1 q hr;grind
  ·have:=z2 q e
   have:=v1 q (hA q hq).1
   grind
end Go.Cvx
end
section
namespace Go.Geo
open Go Go.Eng Go.Lift Go.Den Go.F
variable {α β γ δ ε σ τ:Type}
theorem I6{p q r p' q' r':Pln}(h:[p,q,r].Perm [p',q',r']):mt p q r=mt p' q' r':=Bc h
theorem lnm{l:List Pln}{x:Pln}:x∈cpc (Xr l)↔x∈l:=((CH mE).2 x).trans KM
open Cvx
def hs(p:Pln):Hs:=(((p.1.1:Int),(p.1.2.1:Int),(p.1.2.2.1:Int)),(p.2.1:Int))
def pl(x:Pnt):Q3:=((x.1:Rat) / x.2.2.2.1,(x.2.1:Rat) / x.2.2.2.1,(x.2.2.1:Rat) / x.2.2.2.1)
theorem zAY{p:Pln}(hp:okB p){x:Pnt}(hx:Bd 300000000000000 (x.1,x.2.1,x.2.2.1,()))(h0:0<x.2.2.2.1)(h1:x.2.2.2.1<=600000000000):(rm p x:Rat)=x.2.2.2.1 * Cvx.sl (hs p) (pl x):=by
 obtain⟨⟨p1,p2,p3⟩,pB⟩:=hp;obtain⟨b1,b2,b3⟩:=hx;have m1:=y9 p1 b1;have m2:=y9 p2 b2;have m3:=y9 p3 b3
 have m4:=y9 (A:=2097152) (B:=600000000000) pB (b:=x.2.2.2.1) (by omega)
 dsimp only at m1 m2 m3;have e:rm p x=p.2.1 * x.2.2.2.1-(p.1.1 * x.1+p.1.2.1 * x.2.1+p.1.2.2.1 * x.2.2.1):=by
  unfold rm dt;dsimp only;rw[rS (by omega)]
 rw[e];have hw:(x.2.2.2.1:Rat)≠0:=fun h=>by
  have:x.2.2.2.1=0:=by exact_mod_cast h
  omega
 unfold Cvx.sl hs pl dot;simp only[Rat.intCast_sub,Rat.intCast_add,Rat.intCast_mul]
 grind
theorem zDq{v:V3}{w:Int}(h:w≠0):∃g k:Int,g≠0/\k≠0/\(mkP v w).1 * g=k * v.1/\(mkP v w).2.1 * g=k * v.2.1/\(mkP v w).2.2.1 * g=k * v.2.2.1/\(mkP v w).2.2.2.1 * g=k * w/\0<(mkP v w).2.2.2.1:=by
 have hg:=qQ (v:=v) h;have d1:((kh v w:Nat):Int) ∣ v.1:=Int.ofNat_dvd_left.2 (Nat.dvd_trans (Nat.gcd_dvd_left _ _) (Nat.gcd_dvd_left _ _))
 have d2:((kh v w:Nat):Int) ∣ v.2.1:=Int.ofNat_dvd_left.2 (Nat.dvd_trans (Nat.gcd_dvd_left _ _) (Nat.gcd_dvd_right _ _));have d3:((kh v w:Nat):Int) ∣ v.2.2.1:=Int.ofNat_dvd_left.2 (Nat.dvd_trans (Nat.gcd_dvd_right _ _) (Nat.gcd_dvd_left _ _))
 have d4:((kh v w:Nat):Int) ∣ w:=Int.ofNat_dvd_left.2 (Nat.dvd_trans (Nat.gcd_dvd_right _ _) (Nat.gcd_dvd_right _ _));generalize hG:((kh v w:Nat):Int)=g at d1 d2 d3 d4;have oB:0<g:=by omega
 have key:∀u:Int,0<u->g ∣ u->0<u.tdiv g:=fun u hu hd=>by
  have h1:u.tdiv g * g=u:=Int.tdiv_mul_cancel hd;by_cases h2:0<u.tdiv g
  ·exact h2
  ·have:=Int.mul_nonneg (a := -(u.tdiv g)) (b:=g) (by omega) (by omega)
   rw[Int.neg_mul]at this;omega
 unfold mkP;dsimp only;rw[hG];by_cases hw:w<0
 ·rw[zLr hw]
  refine⟨g, -1,by omega,by decide,?_,?_,?_,?_,?_⟩
  ·rw[Int.tdiv_mul_cancel (Int.dvd_neg.2 d1)];omega
  ·rw[Int.tdiv_mul_cancel (Int.dvd_neg.2 d2)];omega
  ·rw[Int.tdiv_mul_cancel (Int.dvd_neg.2 d3)];omega
  ·rw[Int.tdiv_mul_cancel (Int.dvd_neg.2 d4)];omega
  ·exact key _ (by omega) (Int.dvd_neg.2 d4)
 ·rw[zLs hw]
  refine⟨g,1,by omega,by decide,?_,?_,?_,?_,?_⟩
  ·rw[Int.tdiv_mul_cancel d1];omega
  ·rw[Int.tdiv_mul_cancel d2];omega
  ·rw[Int.tdiv_mul_cancel d3];omega
  ·rw[Int.tdiv_mul_cancel d4];omega
  ·exact key _ (by omega) d4
theorem HG(p q r:Pln):(det p q r:Rat)=dot (hs r).1 (gW (hs p).1 (hs q).1):=by
 unfold det dt cr hs dot gW;simp only[Rat.intCast_sub,Rat.intCast_add,Rat.intCast_mul]
 grind
theorem zDm{p q r:Pln}{x:Pnt}(h:mt p q r=some x):det p q r≠0:=fun e=>by
 unfold mt at h;rw[zLr e]at h;cases h
theorem zAt{p q r:Pln}{x:Pnt}(h:mt p q r=some x):0<x.2.2.2.1/\∀v:Q3,(Cvx.sl (hs p) v=0/\Cvx.sl (hs q) v=0/\Cvx.sl (hs r) v=0)↔v=pl x:=by
 have hd:=zDm h;unfold mt at h;rw[zLs hd]at h;cases h;obtain⟨g,k,g0,k0,e1,e2,e3,e4,hp⟩:=zDq (v:=num p q r) hd;refine⟨hp,fun v=>?_⟩
 generalize mkP (num p q r) (det p q r)=x at e1 e2 e3 e4 hp;have c1:(x.1:Rat) * g=k * (num p q r).1:=by exact_mod_cast e1
 have c2:(x.2.1:Rat) * g=k * (num p q r).2.1:=by exact_mod_cast e2
 have c3:(x.2.2.1:Rat) * g=k * (num p q r).2.2.1:=by exact_mod_cast e3
 have c4:(x.2.2.2.1:Rat) * g=k * (det p q r):=by exact_mod_cast e4
 have g1:(g:Rat)≠0:=by exact_mod_cast g0
 have k1:(k:Rat)≠0:=by exact_mod_cast k0
 have w1:(x.2.2.2.1:Rat)≠0:=by exact_mod_cast (show x.2.2.2.1≠0 by omega)
 have D1:(det p q r:Rat)≠0:=by exact_mod_cast hd
 have a1:(x.1:Rat) / x.2.2.2.1 * det p q r=(num p q r).1:=by grind
 have a2:(x.2.1:Rat) / x.2.2.2.1 * det p q r=(num p q r).2.1:=by grind
 have a3:(x.2.2.1:Rat) / x.2.2.2.1 * det p q r=(num p q r).2.2.1:=by grind
 have dN:pl x=((x.1:Rat) / x.2.2.2.1,(x.2.1:Rat) / x.2.2.2.1,(x.2.2.1:Rat) / x.2.2.2.1):=rfl;rw[dN];generalize (x.1:Rat) / x.2.2.2.1=u1 at a1;generalize (x.2.1:Rat) / x.2.2.2.1=u2 at a2;generalize (x.2.2.1:Rat) / x.2.2.2.1=u3 at a3;clear dN c1 c2 c3 c4 e1 e2 e3 e4 hp w1 k1 g1
 have b1:((num p q r).1:Rat)=(p.2.1:Rat) * (gW (hs q).1 (hs r).1).1+(q.2.1:Rat) * (gW (hs r).1 (hs p).1).1+(r.2.1:Rat) * (gW (hs p).1 (hs q).1).1:=by
  unfold num ad sc cr gW hs;simp only[Rat.intCast_sub,Rat.intCast_add,Rat.intCast_mul]
  grind
 have b2:((num p q r).2.1:Rat)=(p.2.1:Rat) * (gW (hs q).1 (hs r).1).2.1+(q.2.1:Rat) * (gW (hs r).1 (hs p).1).2.1+(r.2.1:Rat) * (gW (hs p).1 (hs q).1).2.1:=by
  unfold num ad sc cr gW hs;simp only[Rat.intCast_sub,Rat.intCast_add,Rat.intCast_mul]
  grind
 have b3:((num p q r).2.2.1:Rat)=(p.2.1:Rat) * (gW (hs q).1 (hs r).1).2.2+(q.2.1:Rat) * (gW (hs r).1 (hs p).1).2.2+(r.2.1:Rat) * (gW (hs p).1 (hs q).1).2.2:=by
  unfold num ad sc cr gW hs;simp only[Rat.intCast_sub,Rat.intCast_add,Rat.intCast_mul]
  grind
 rw[b1]at a1;rw[b2]at a2;rw[b3]at a3;have hD:=HG p q r
 rw[hD]at a1 a2 a3 D1;have fB:∀s:Pln,((s.2.1:Int):Rat)=(hs s).2:=fun s=>rfl
 rw[fB,fB,fB]at a1 a2 a3;generalize hs p=P at *;generalize hs q=Q at *;generalize hs r=R at *;unfold dot gW at a1 a2 a3 D1;unfold Cvx.sl dot;constructor
 ·rintro⟨t1,t2,t3⟩
  refine Hj ?_ ?_ ?_
  ·show v.1=u1
   have:(v.1-u1) * (R.1.1 * (P.1.2.1 * Q.1.2.2-P.1.2.2 * Q.1.2.1)+R.1.2.1 * (P.1.2.2 * Q.1.1-P.1.1 * Q.1.2.2)+R.1.2.2 * (P.1.1 * Q.1.2.1-P.1.2.1 * Q.1.1))=0:=by grind
   rcases Rat.mul_eq_zero.1 this with h|h
   ·grind
   ·exact zLh h D1
  ·show v.2.1=u2
   have:(v.2.1-u2) * (R.1.1 * (P.1.2.1 * Q.1.2.2-P.1.2.2 * Q.1.2.1)+R.1.2.1 * (P.1.2.2 * Q.1.1-P.1.1 * Q.1.2.2)+R.1.2.2 * (P.1.1 * Q.1.2.1-P.1.2.1 * Q.1.1))=0:=by grind
   rcases Rat.mul_eq_zero.1 this with h|h
   ·grind
   ·exact zLh h D1
  ·show v.2.2=u3
   have:(v.2.2-u3) * (R.1.1 * (P.1.2.1 * Q.1.2.2-P.1.2.2 * Q.1.2.1)+R.1.2.1 * (P.1.2.2 * Q.1.1-P.1.1 * Q.1.2.2)+R.1.2.2 * (P.1.1 * Q.1.2.1-P.1.2.1 * Q.1.1))=0:=by grind
   rcases Rat.mul_eq_zero.1 this with h|h
   ·grind
   ·exact zLh h D1
 ·rintro rfl
  have no:∀u,u * (R.1.1 * (P.1.2.1 * Q.1.2.2-P.1.2.2 * Q.1.2.1)+R.1.2.1 * (P.1.2.2 * Q.1.1-P.1.1 * Q.1.2.2)+R.1.2.2 * (P.1.1 * Q.1.2.1-P.1.2.1 * Q.1.1))=0->u=0:=fun u h=>by
   rcases Rat.mul_eq_zero.1 h with h|h
   ·exact h
   ·exact zLh h D1
  refine⟨no _ ?_,no _ ?_,no _ ?_⟩<;>dsimp only<;>grind
theorem zEm{α:Type}[DecidableEq α]:∀(r l:List α),l.Nodup->(∀x∈l,x∈r)->∃l':List α,l'.Sublist r/\l'.Perm l
 | [],l,_,h=>⟨[],List.Sublist.refl _,by
  cases l with
  |nil=>exact List.Perm.refl _
  |cons x l=>exact zLh (h x (by simp)) (by simp)⟩
 |a::r,l,hn,h=>by
  by_cases ha:a∈l
  ·obtain⟨l',h1,h2⟩:=zEm r (l.erase a) (hn.erase a) fun x hx=>by
    have cP:=(hn.mem_erase_iff).1 hx;rcases zLV.1 (h x cP.2) with e|e
    ·exact zLh e cP.1
    ·exact e
   exact⟨a::l',h1.cons_cons a,(h2.cons a).trans (List.perm_cons_erase ha).symm⟩
  ·obtain⟨l',h1,h2⟩:=zEm r l hn fun x hx=>by
    rcases zLV.1 (h x hx) with e|e
    ·subst e;exact zLh hx ha
    ·exact e
   exact⟨l',h1.cons a,h2⟩
theorem Dr(a:Q3):gW a a=Z3:=Hj (by show _-_=(0:Rat);grind) (by show _-_=(0:Rat);grind) (by show _-_=(0:Rat);grind)
theorem Ey{r:List Pln}(hr:∀p∈r,okB p){x:Pnt}(h:x∈crn r):(∀p,okB p->(rm p x:Rat)=x.2.2.2.1 * Cvx.sl (hs p) (pl x))/\0<x.2.2.2.1/\Fe (r.map hs) (pl x):=by
 obtain⟨hi,t,ht,hm⟩:=Jf.1 h;obtain⟨t1,t2,t3⟩:=uT ht;obtain⟨b1,d1,d2⟩:=Sr (hr _ t1) (hr _ t2) (hr _ t3) hm;obtain⟨w0,_⟩:=zAt hm;have key:∀p,okB p->(rm p x:Rat)=x.2.2.2.1 * Cvx.sl (hs p) (pl x):=fun p hp=>zAY hp b1 w0 d2
 refine⟨key,w0,fun s hs'=>?_⟩
 obtain⟨p,hp,rfl⟩:=List.mem_map.1 hs';unfold ins at hi;rw[zLw]at hi;have h0:=hi p hp
 rw[decide_eq_true_iff]at h0;have h1:(0:Rat)<=(rm p x:Rat):=by exact_mod_cast h0
 rw[key p (hr p hp)]at h1;have w1:(0:Rat)<(x.2.2.2.1:Rat):=by exact_mod_cast w0
 by_cases h2:0<=Cvx.sl (hs p) (pl x)
 ·exact h2
 ·have:=Rat.mul_pos w1 (b := - Cvx.sl (hs p) (pl x)) (by grind)
  grind
theorem Qn{r:List Pln}(hr:∀p∈r,okB p){q1 q2 q3:Hs}{v:Q3}(h:Vx (r.map hs) q1 q2 q3 v):∃x∈crn r,pl x=v:=by
 obtain⟨fe,m1,m2,m3,t1,t2,t3,dt⟩:=h;obtain⟨p1,n1,rfl⟩:=List.mem_map.1 m1;obtain⟨p2,n2,rfl⟩:=List.mem_map.1 m2;obtain⟨p3,n3,rfl⟩:=List.mem_map.1 m3;have fC:([p1,p2,p3]:List Pln).Nodup:=by
  simp only[List.nodup_cons,zLV,List.not_mem_nil,or_false,not_or,not_false_eq_true,List.nodup_nil,and_true];refine⟨⟨?_,?_⟩,?_⟩
  ·rintro rfl;rw[Dr]at dt;exact dt (by unfold dot;grind)
  ·rintro rfl;exact dt (Ju _ _)
  ·rintro rfl;exact dt (Jt _ _)
 obtain⟨l',h1,h2⟩:=zEm r [p1,p2,p3] fC fun x hx=>by
  simp only[zLV,List.not_mem_nil,or_false]at hx;rcases hx with rfl|rfl|rfl<;>assumption
 have kA:=h2.length_eq
 match l',kA,h1,h2 with
 | [a,b,c],_,h1,h2 =>
  have hmt:mt a b c=mt p1 p2 p3:=I6 h2;have hd:det p1 p2 p3≠0:=fun e=>by
   refine dt ?_;rw[<-HG,e];rfl
  have hx:mt p1 p2 p3=some (mkP (num p1 p2 p3) (det p1 p2 p3)):=by unfold mt;rw[zLs hd]
  generalize mkP (num p1 p2 p3) (det p1 p2 p3)=x at hx;obtain⟨w0,dN⟩:=zAt hx;have hv:=(dN v).1 ⟨t1,t2,t3⟩
  obtain⟨b1,d1,d2⟩:=Sr (hr _ n1) (hr _ n2) (hr _ n3) hx;refine⟨x,Jf.2 ⟨?_,(a,b,c),nq.2 h1,hmt.trans hx⟩,hv.symm⟩;unfold ins;rw[zLw];intro p hp;rw[decide_eq_true_iff];have h3:=zAY (hr p hp) b1 w0 d2
  have h4:=fe (hs p) (List.mem_map.2 ⟨p,hp,rfl⟩);rw[hv]at h4;have w1:(0:Rat)<(x.2.2.2.1:Rat):=by exact_mod_cast w0
  have h5:=Rat.mul_nonneg (show (0:Rat)<=(x.2.2.2.1:Rat) by grind) h4
  rw[<-h3]at h5
  exact_mod_cast h5
theorem HP{c:List Pln}:Bdd ((c++bx0).map hs):=by
 intro d hd;have key:∀p∈bx0,0<dot (hs p).1 d->∃h∈(c++bx0).map hs,0<dot h.1 d:=fun p hp h=>⟨hs p,List.mem_map.2 ⟨p,List.mem_append_right _ hp,rfl⟩,h⟩
 have ne:¬(d.1=0/\d.2.1=0/\d.2.2=0):=fun ⟨h1,h2,h3⟩=>hd (Hj h1 h2 h3)
 by_cases a1:0<d.1
 ·exact key ((1,0,0,()),24,()) (by simp[bx0]) (by unfold hs dot;simp;grind)
 by_cases a2:d.1<0
 ·exact key ((-1,0,0,()),24,()) (by simp[bx0]) (by unfold hs dot;simp;grind)
 by_cases a3:0<d.2.1
 ·exact key ((0,1,0,()),24,()) (by simp[bx0]) (by unfold hs dot;simp;grind)
 by_cases a4:d.2.1<0
 ·exact key ((0, -1,0,()),24,()) (by simp[bx0]) (by unfold hs dot;simp;grind)
 by_cases a5:0<d.2.2
 ·exact key ((0,0,1,()),24,()) (by simp[bx0]) (by unfold hs dot;simp;grind)
 by_cases a6:d.2.2<0
 ·exact key ((0,0, -1,()),24,()) (by simp[bx0]) (by unfold hs dot;simp;grind)
 exact zLh ⟨by grind,by grind,by grind⟩ ne
def St(c:List Pln)(x:Q3):Prop:=∀p∈c,0<Cvx.sl (hs p) x
theorem St.app{a b:List Pln}{x:Q3}:St (a++b) x↔St a x/\St b x:=⟨fun h=>⟨fun p hp=>h p (by simp[hp]),fun p hp=>h p (by simp[hp])⟩,fun h p hp=>(zLa.1 hp).elim (h.1 p) (h.2 p)⟩
theorem St.sub{a b:List Pln}{x:Q3}(h:St a x)(hs:∀p∈b,p∈a):St b x:=fun p hp=>h p (hs p hp)
theorem St.map{a:List Pln}{x:Q3}(h:St a x):∀p∈a.map hs,0<Cvx.sl p x:=fun p hp=>by obtain⟨q,hq,rfl⟩:=List.mem_map.1 hp;exact h q hq
theorem G0{c:List Pln}(hr:∀p∈c++bx0,okB p)(h:full (c++bx0)=true):∃z,St (c++bx0) z:=by
 unfold full at h;rw[zLw]at h;have hv:∀p∈c++bx0,∃v,Fe ((c++bx0).map hs) v/\0<Cvx.sl (hs p) v:=fun p hp=>by
  have h1:=h p hp;rw[List.any_eq_true]at h1;obtain⟨x,hx,h2⟩:=h1;rw[decide_eq_true_iff]at h2;obtain⟨k1,k2,k3⟩:=Ey hr hx;refine⟨pl x,k3,?_⟩;have h3:(0:Rat)<(rm p x:Rat):=by exact_mod_cast h2
  rw[k1 p (hr p hp)]at h3;have w1:(0:Rat)<(x.2.2.2.1:Rat):=by exact_mod_cast k2
  by_cases h4:0<Cvx.sl (hs p) (pl x)
  ·exact h4
  ·have:=Rat.mul_nonneg (show (0:Rat)<=(x.2.2.2.1:Rat) by grind) (b := - Cvx.sl (hs p) (pl x)) (by grind)
   grind
 obtain⟨z,_,hz⟩:=inner ((c++bx0).map hs) (by
  obtain⟨v,h1,_⟩:=hv ((1,0,0,()),24,()) (by simp[bx0])
  exact⟨v,h1⟩) fun q hq=>by
  obtain⟨p,hp,rfl⟩:=List.mem_map.1 hq;exact⟨hq,hv p hp⟩
 exact⟨z,fun p hp=>hz _ (List.mem_map.2 ⟨p,hp,rfl⟩)⟩
theorem G1{c:List Pln}(hr:∀p∈c++bx0,okB p){z:Q3}(h:St (c++bx0) z):full (c++bx0)=true:=by
 unfold full;rw[zLw];intro p hp;rw[List.any_eq_true];have aQ:Fe ((c++bx0).map hs) z:=fun q hq=>by have:=h.map q hq;grind
 obtain⟨v,q1,q2,q3,hv,hg⟩:=zFY HP (ng (hs p).1) aQ;obtain⟨x,hx,e⟩:=Qn hr hv;obtain⟨k1,k2,k3⟩:=Ey hr hx;refine⟨x,hx,?_⟩;rw[decide_eq_true_iff];have h1:0<Cvx.sl (hs p) (pl x):=by
  rw[e];have:=h p hp
  rw[lr,lr]at hg;unfold Cvx.sl at this |-
  grind
 have w1:(0:Rat)<(x.2.2.2.1:Rat):=by exact_mod_cast k2
 have h2:=Rat.mul_pos w1 h1;rw[<-k1 p (hr p hp)]at h2
 exact_mod_cast h2
theorem Y4{c:List Pln}(h:chk c=0):ful c=true↔∃z,St c z/\St bx0 z:=by
 have hr:∀p∈c++bx0,okB p:=fun p hp=>(zLa.1 hp).elim ((ZE h).2 p) (J5 p)
 have e:ful c=full (c++bx0):=by unfold ful;rw[zLu h];rfl
 rw[e];constructor
 ·intro hf
  obtain⟨z,hz⟩:=G0 hr hf;exact⟨z,St.app.1 hz⟩
 ·rintro⟨z,h1,h2⟩
  exact G1 hr (St.app.2 ⟨h1,h2⟩)
theorem lz{c:Cell}(hf:ful c=true){p:Pln}:p∈ln c↔p∈c/\3<=onn p (crn (c++bx0)):=by
 unfold ln;rw[hf];show p∈cpc (Xr (fac c))↔_
 rw[lnm];unfold fac;rw[List.mem_filter,decide_eq_true_iff]
theorem Eo{c:Cell}(hf:ful c=false):ln c=[]:=by unfold ln;rw[hf];rfl
def Vd(c:List Pln):Prop:=∀p∈c,okP p=true
theorem Vd.chk{c:List Pln}(h:Vd c)(hl:c.length<=48):chk c=0:=AB.2 ⟨hl,zLw.2 h⟩
theorem Vd.of{c:List Pln}(h:Go.Geo.chk c=0):Vd c:=fun p hp=>zLw.1 (AB.1 h).2 p hp
theorem Vd.ln{c:List Pln}(h:Vd c):Vd (ln c):=fun p hp=>by
 cases hf:ful c with
 |true=>exact h p ((lz hf).1 hp).1
 |false=>rw[Eo hf]at hp;cases hp
theorem RV{p:Pln}(h:okP p=true):(hs p).1≠Z3:=fun e=>by
 unfold okP at h;simp only[zLR,zLj]at h;have e1:(p.1.1:Rat)=0:=zLi (·.1) e
 have e2:(p.1.2.1:Rat)=0:=zLi (·.2.1) e
 have e3:(p.1.2.2.1:Rat)=0:=zLi (·.2.2) e
 have i1:p.1.1=0:=by exact_mod_cast e1
 have i2:p.1.2.1=0:=by exact_mod_cast e2
 have i3:p.1.2.2.1=0:=by exact_mod_cast e3
 have h2:=h.2.1;unfold JI at h2;rw[i1,i2,i3]at h2;exact zLh h2 (by decide)
def Gn(c:List Pln)(x:Q3):Prop:=∀p∈c,Cvx.sl (hs p) x≠0
theorem Gn.sub{a b:List Pln}{x:Q3}(h:Gn a x)(hs:∀p∈b,p∈a):Gn b x:=fun p hp=>h p (hs p hp)
theorem zAz{A U:List Pln}(hU:Vd U){x:Q3}(hx:St A x):∃z,St A z/\Gn U z:=by
 obtain⟨z,h1,h2⟩:=gen (U.map hs) (A:=A.map hs) (x:=x) (fun g hg=>by obtain⟨p,hp,rfl⟩:=List.mem_map.1 hg;exact RV (hU p hp)) hx.map
 exact⟨z,fun p hp=>h1 _ (List.mem_map.2 ⟨p,hp,rfl⟩),fun p hp=>h2 _ (List.mem_map.2 ⟨p,hp,rfl⟩)⟩
theorem Cs{c:Cell}(hc:chk c=0)(hf:ful c=true){x:Q3}(hb:St bx0 x)(hg:Gn c x):St (ln c) x↔St c x:=by
 refine⟨fun h=>?_,fun h=>h.sub fun p hp=>((lz hf).1 hp).1⟩
 by_cases hx:St c x
 ·exact hx
 ·exfalso
  have hr:∀p∈c++bx0,okB p:=fun p hp=>(zLa.1 hp).elim ((ZE hc).2 p) (J5 p)
  have h1:∃p∈c.map hs,Cvx.sl p x<0:=by
   unfold St at hx;simp only[Classical.not_forall]at hx;obtain⟨p,hp,h2⟩:=hx;have:=hg p hp
   exact⟨hs p,List.mem_map.2 ⟨p,hp,rfl⟩,by grind⟩
  obtain⟨z,z1,z2⟩:=(Y4 hc).1 hf;have em:c.map hs++bx0.map hs=(c++bx0).map hs:=(List.map_append ..).symm
  obtain⟨q,hq,nC,dQ⟩:=zGj (c:=c.map hs) (B:=bx0.map hs) (by rw[em];exact HP) (fun p hp=>by obtain⟨p',hp',rfl⟩:=List.mem_map.1 hp;exact RV (Vd.of hc p' hp')) hb.map h1 ⟨z,fun p hp=>by
   rw[em]at hp;exact(St.app.2 ⟨z1,z2⟩).map p hp⟩
  obtain⟨p,hp,rfl⟩:=List.mem_map.1 hq;have h3:=dQ (((crn (c++bx0)).filter fun x=>decide (rm p x=0)).map pl) fun v q2 q3 hv=>by
   rw[em]at hv;obtain⟨y,hy,e⟩:=Qn hr hv;refine List.mem_map.2 ⟨y,?_,e⟩;rw[List.mem_filter,decide_eq_true_iff];refine⟨hy,?_⟩;obtain⟨k1,_,_⟩:=Ey hr hy;have h4:=k1 p ((ZE hc).2 p hp)
   rw[e,hv.t1]at h4;have h5:(rm p y:Rat)=0:=by rw[h4];grind
   exact_mod_cast h5
  rw[List.length_map]at h3;have:=h p ((lz hf).2 ⟨hp,h3⟩)
  grind
theorem Kk(p:Pln)(x:Q3):Cvx.sl (hs (yq p)) x = - Cvx.sl (hs p) x:=by
 unfold Cvx.sl hs yq dot;simp only[Rat.intCast_neg]
 grind
theorem KV{p:Pln}(h:okP p=true):okP (yq p)=true:=by
 unfold okP okN okv JI yq at *;simp only[zLR,zLj,Int.natAbs_neg]at *;refine⟨⟨?_,?_,?_⟩,h.2.1,?_⟩<;>omega
theorem Gz{rest:Cell}{p:Pln}{fs:List Pln}(h:vu (gp rest (p::fs))=false):rest.length<48/\vu (gp (ln (rest++[p])) fs)=false/\∀Y,some Y∈gp rest (p::fs)↔(Y=ln (rest++[yq p])/\Y≠[])\/some Y∈gp (ln (rest++[p])) fs:=by
 have e:gp rest (p::fs)=if 48<=rest.length then [none] else (bif decide (ln (rest++[yq p])=[]) then [] else [some (ln (rest++[yq p]))])++gp (ln (rest++[p])) fs:=by
  conv=>lhs;unfold gp
 rw[e]at h |-;clear e;split at h
 ·cases h
 ·rename_i hl
  rw[zLs hl];by_cases he:ln (rest++[yq p])=[]
  ·rw[zLu he]at h |-
   refine⟨by omega,h,fun Y=>?_⟩
   constructor
   ·exact .inr
   ·rintro(⟨h1,h2⟩|h1)
    ·rw[he]at h1;exact zLh h1 h2
    ·exact h1
  ·rw[zLt he]at h |-
   refine⟨by omega,h,fun Y=>?_⟩
   show some Y∈[some (ln (rest++[yq p]))]++gp (ln (rest++[p])) fs↔_
   rw[zLa,List.mem_singleton,zLo];constructor
   ·rintro(h1|h1)
    ·exact .inl ⟨h1,by rw[h1];exact he⟩
    ·exact .inr h1
   ·rintro(⟨h1,_⟩|h1)
    ·exact .inl h1
    ·exact .inr h1
theorem Vd.snoc{c:List Pln}{p:Pln}(h:Vd c)(hp:okP p=true):Vd (c++[p]):=fun q hq=>(zLa.1 hq).elim (h q) fun h=>by rw[List.mem_singleton.1 h];exact hp
theorem St.snoc{c:List Pln}{p:Pln}{x:Q3}:St (c++[p]) x↔St c x/\0<Cvx.sl (hs p) x:=by
 rw[St.app];exact⟨fun h=>⟨h.1,h.2 p (by simp)⟩,fun h=>⟨h.1,fun q hq=>by rw[List.mem_singleton.1 hq];exact h.2⟩⟩
theorem Gn.snoc{c:List Pln}{p:Pln}{x:Q3}(h:Gn c x)(hp:Cvx.sl (hs p) x≠0):Gn (c++[p]) x:=fun q hq=>(zLa.1 hq).elim (h q) fun h=>by rw[List.mem_singleton.1 h];exact hp
theorem zDu{c:Cell}(h:ln c≠[]):ful c=true:=by
 cases hf:ful c with
 |true=>rfl
 |false=>exact zLh (Eo hf) h
theorem Zz{c:Cell}(hf:ful c=true):∀p∈ln c,p∈c:=fun p hp=>((lz hf).1 hp).1
theorem zAx:∀(fs:List Pln) {rest:Cell},Vd rest->Vd fs->(∃u,St rest u/\St fs u/\St bx0 u)->vu (gp rest fs)=false->∀x,Gn rest x->Gn fs x->St bx0 x->St rest x->(∃p∈fs,Cvx.sl (hs p) x<0)->∃Y,some Y∈gp rest fs/\St Y x
 | [],_,_,_,_,_,_,_,_,_,_,⟨p,hp,_⟩=>nomatch hp
 |p::fs,rest,hr,hf,⟨u,u1,u2,u3⟩,hn,x,g1,g2,xb,xr,hx=>by
  obtain⟨hl,nP,hm⟩:=Gz hn;have hp:=hf p (by simp)
  have oV:=u2 p (by simp)
  have eJ:=g2 p (by simp)
  have c1:chk (rest++[p])=0:=(hr.snoc hp).chk (by simp;omega)
  have f1:ful (rest++[p])=true:=(Y4 c1).2 ⟨u,St.snoc.2 ⟨u1,oV⟩,u3⟩;by_cases h0:Cvx.sl (hs p) x<0
  ·have c2:chk (rest++[yq p])=0:=(hr.snoc (KV hp)).chk (by simp;omega)
   have hxf:St (rest++[yq p]) x:=St.snoc.2 ⟨xr,by rw[Kk];grind⟩
   have f2:ful (rest++[yq p])=true:=(Y4 c2).2 ⟨x,hxf,xb⟩;refine⟨_,(hm _).2 (.inl ⟨rfl,fun e=>?_⟩),hxf.sub (Zz f2)⟩
   obtain⟨w,w1,w2⟩:=zAz (A:=p::bx0) (U:=rest++[yq p]) (hr.snoc (KV hp)) (x:=u) fun q hq=>by
    rcases zLV.1 hq with c|c
    ·subst c;exact oV
    ·exact u3 q c
   have hw:=(Cs c2 f2 (fun q hq=>w1 q (by simp[hq])) w2).1 (by rw[e];exact fun q hq=>nomatch hq)
   have h3:=(St.snoc.1 hw).2;rw[Kk]at h3;have:=w1 p (by simp)
   grind
  ·have cP:∃q∈fs,Cvx.sl (hs q) x<0:=by
    obtain⟨q,hq,h⟩:=hx;rcases zLV.1 hq with c|c
    ·subst c;exact zLh h h0
    ·exact⟨q,c,h⟩
   have hxp:St (rest++[p]) x:=St.snoc.2 ⟨xr,by grind⟩
   obtain⟨Y,hY,h⟩:=zAx fs (rest:=ln (rest++[p])) (hr.snoc hp).ln (fun q hq=>hf q (by simp[hq])) ⟨u,(St.snoc.2 ⟨u1,oV⟩).sub (Zz f1),fun q hq=>u2 q (by simp[hq]),u3⟩ nP x ((g1.snoc eJ).sub (Zz f1)) (fun q hq=>g2 q (by simp[hq])) xb (hxp.sub (Zz f1)) cP
   exact⟨Y,(hm Y).2 (.inr hY),h⟩
theorem Rh:∀(fs:List Pln) {rest:Cell},Vd rest->Vd fs->(∃u,St rest u/\St fs u/\St bx0 u)->vu (gp rest fs)=false->∀Y,some Y∈gp rest fs->(chk Y=0/\∃z,St Y z/\St bx0 z)/\∀x,Gn rest x->Gn fs x->St bx0 x->St Y x->St rest x/\∃p∈fs,Cvx.sl (hs p) x<0
 | [],_,_,_,_,_,Y,h=>nomatch h
 |p::fs,rest,hr,hf,⟨u,u1,u2,u3⟩,hn,Y,hY=>by
  obtain⟨hl,nP,hm⟩:=Gz hn;have hp:=hf p (by simp)
  have oV:=u2 p (by simp)
  have c1:chk (rest++[p])=0:=(hr.snoc hp).chk (by simp;omega)
  have f1:ful (rest++[p])=true:=(Y4 c1).2 ⟨u,St.snoc.2 ⟨u1,oV⟩,u3⟩;rcases(hm Y).1 hY with ⟨rfl,fC⟩|hY
  ·have c2:chk (rest++[yq p])=0:=(hr.snoc (KV hp)).chk (by simp;omega)
   have f2:=zDu fC;obtain⟨z,z1,z2⟩:=(Y4 c2).1 f2;refine⟨⟨(hr.snoc (KV hp)).ln.chk W1.1,z,z1.sub (Zz f2),z2⟩,fun x g1 g2 xb xy=>?_⟩
   have eJ:=g2 p (by simp)
   have h:=St.snoc.1 ((Cs c2 f2 xb (g1.snoc (by rw[Kk];grind))).1 xy)
   refine⟨h.1,p,by simp,?_⟩
   have:=h.2;rw[Kk]at this
   grind
  ·obtain⟨h1,h2⟩:=Rh fs (rest:=ln (rest++[p])) (hr.snoc hp).ln (fun q hq=>hf q (by simp[hq])) ⟨u,(St.snoc.2 ⟨u1,oV⟩).sub (Zz f1),fun q hq=>u2 q (by simp[hq]),u3⟩ nP Y hY
   refine⟨h1,fun x g1 g2 xb xy=>?_⟩
   have eJ:=g2 p (by simp)
   obtain⟨h3,q,hq,h4⟩:=h2 x ((g1.snoc eJ).sub (Zz f1)) (fun q hq=>g2 q (by simp[hq])) xb xy
   have h5:=(Cs c1 f1 xb (g1.snoc eJ)).1 h3;exact⟨(St.snoc.1 h5).1,q,by simp[hq],h4⟩
theorem S9{X q:Cell}(hX:chk X=0)(hq:chk q=0):apa X q=false↔∃u,St X u/\St q u/\St bx0 u:=by
 have hr:∀p∈(X++q)++bx0,okB p:=fun p hp=>by
  rcases zLa.1 hp with hp|hp
  ·rcases zLa.1 hp with hp|hp
   ·exact(ZE hX).2 p hp
   ·exact(ZE hq).2 p hp
  ·exact J5 p hp
 unfold apa;rw[zLu hX,zLu hq];show (!full ((X++q)++bx0))=false↔_
 rw[Bool.not_eq_false'];constructor
 ·intro h
  obtain⟨u,hu⟩:=G0 hr h;obtain⟨h1,h2⟩:=St.app.1 hu;obtain⟨h3,h4⟩:=St.app.1 h1;exact⟨u,h3,h4,h2⟩
 ·rintro⟨u,h1,h2,h3⟩
  exact G1 hr (St.app.2 ⟨St.app.2 ⟨h1,h2⟩,h3⟩)
def PO(Y:Cell):Prop:=chk Y=0/\∃z,St Y z/\St bx0 z
theorem JN{Y:α}:∀ {l:List (Option α)},Y∈yM l↔some Y∈l
 | []=>by simp[yM]
 |none::l=>by simp[yM,JN (l:=l)]
 |some x::l=>by simp[yM,JN (l:=l)]
def Gq(U:List Pln)(X:Cell):Prop:=∀x,Gn U x->Gn X x
theorem zAy{U:List Pln}:∀(fs:List Pln) {rest:Cell},Gq U rest->(∀p∈fs,p∈U)->∀Y,some Y∈gp rest fs->Gq U Y
 | [],_,_,_,Y,h=>nomatch h
 |p::fs,rest,hr,hf,Y,hY=>by
  have hp:∀x,Gn U x->Cvx.sl (hs p) x≠0:=fun x hx=>hx p (hf p (by simp))
  have key:∀ {c:Cell} {q:Pln},(∀x,Gn U x->Cvx.sl (hs q) x≠0)->Gq U (ln (rest++[q])):=fun {c q} hq x hx r bW=>by
   cases hf:ful (rest++[q]) with
   |true=>exact((hr x hx).snoc (hq x hx)) r (Zz hf r bW)
   |false=>rw[Eo hf]at bW;cases bW
  have e:gp rest (p::fs)=if 48<=rest.length then [none] else (bif decide (ln (rest++[yq p])=[]) then [] else [some (ln (rest++[yq p]))])++gp (ln (rest++[p])) fs:=by
   conv=>lhs;unfold gp
  rw[e]at hY;split at hY
  ·simp at hY
  ·rcases zLa.1 hY with h|h
   ·have:Y=ln (rest++[yq p]):=by
     revert h
     cases decide (ln (rest++[yq p])=[]) with
     |true=>intro h;cases h
     |false=>intro h;simpa using h
    rw[this];exact key (c:=Y) fun x hx=>by rw[Kk];have:=hp x hx;grind
   ·exact zAy fs (key (c:=Y) hp) (fun q hq=>hf q (by simp[hq])) Y h
theorem nj{q x:Cell}{xs out R:List Cell}(h:wo q (x::xs) out=some R):(apa x q=true/\wo q xs (out++[x])=some R)\/(apa x q=false/\vu (gp x (ln q))=false/\wo q xs (out++yM (gp x (ln q)))=some R):=by
 have e:wo q (x::xs) out=if apa x q=true then wo q xs (out++[x]) else if vu (gp x (ln q))=true then none else wo q xs (out++yM (gp x (ln q))):=by
  conv=>lhs;unfold wo
 rw[e]at h;split at h
 ·rename_i h1;exact .inl ⟨h1,h⟩
 ·rename_i h1
  split at h
  ·cases h
  ·rename_i h2
   exact .inr ⟨by simpa using h1,by simpa using h2,h⟩
theorem lU{q:Cell}:∀ {xs out R:List Cell},wo q xs out=some R->∀Y∈out,Y∈R
 | [],out,R,h,Y,hY=>by
  have:some out=some R:=h;cases this;exact hY
 |x::xs,out,R,h,Y,hY=>by
  rcases nj h with ⟨_,h2⟩|⟨_,_,h2⟩
  ·exact lU h2 Y (by simp[hY])
  ·exact lU h2 Y (by simp[hY])
section
variable {q:Cell} (hq:chk q=0) (hf:ful q=true) {U:List Pln} (hU:∀p∈q,p∈U)
include hq hf hU
theorem zES{X:Cell}(hX:PO X)(hG:Gq U X)(ha:apa X q=false)(hn:vu (gp X (ln q))=false){x:Q3}(g:Gn U x)(xb:St bx0 x)(xX:St X x)(xq:¬St q x):∃Y,some Y∈gp X (ln q)/\St Y x:=by
 obtain⟨u,u1,u2,u3⟩:=(S9 hX.1 hq).1 ha;have gq:Gn q x:=g.sub hU
 refine zAx (ln q) (Vd.of hX.1) (Vd.of hq).ln ⟨u,u1,u2.sub (Zz hf),u3⟩ hn x (hG x g) (gq.sub (Zz hf)) xb xX ?_;have h1:¬St (ln q) x:=fun h=>xq ((Cs hq hf xb gq).1 h)
 unfold St at h1;simp only[Classical.not_forall]at h1;obtain⟨p,hp,h2⟩:=h1;have:=gq p (Zz hf p hp)
 exact⟨p,hp,by grind⟩
theorem zAR{x:Q3}(g:Gn U x)(xb:St bx0 x)(xq:¬St q x):∀ {xs out R:List Cell},(∀X∈xs,PO X/\Gq U X)->wo q xs out=some R->(∃X∈xs,St X x)->∃Y∈R,St Y x
 | [],_,_,_,_,⟨X,hX,_⟩=>nomatch hX
 |y::xs,out,R,hs,h,⟨X,hX,hx⟩=>by
  have ih:∀ {out'},wo q xs out'=some R->(X∈xs->∃Y∈R,St Y x):=fun {out'} h2 aJ=>zAR g xb xq (fun Z hZ=>hs Z (by simp[hZ])) h2 ⟨X,aJ,hx⟩
  rcases nj h with ⟨h1,h2⟩|⟨h1,h3,h2⟩
  ·rcases zLV.1 hX with e|e
   ·subst e;exact⟨X,lU h2 X (by simp),hx⟩
   ·exact ih h2 e
  ·rcases zLV.1 hX with e|e
   ·subst e
    obtain⟨p1,p2⟩:=hs X (by simp)
    obtain⟨Y,hY,h4⟩:=zES hq hf hU p1 p2 h1 h3 g xb hx xq;exact⟨Y,lU h2 Y (by simp[JN.2 hY]),h4⟩
   ·exact ih h2 e
theorem D7:∀ {xs out R:List Cell},(∀X∈xs,PO X/\Gq U X)->wo q xs out=some R->∀Y∈R,Y∈out\/(PO Y/\Gq U Y)/\∃X∈xs,∀x,Gn U x->St bx0 x->St Y x->St X x/\¬St q x
 | [],out,R,_,h,Y,hY=>by
  have:some out=some R:=h;cases this;exact .inl hY
 |X::xs,out,R,hs,h,Y,hY=>by
  have up:(∃Z∈xs,∀x,Gn U x->St bx0 x->St Y x->St Z x/\¬St q x)->∃Z∈X::xs,∀x,Gn U x->St bx0 x->St Y x->St Z x/\¬St q x:=fun ⟨Z,h1,h2⟩=>⟨Z,by simp[h1],h2⟩
  obtain⟨p1,p2⟩:=hs X (by simp)
  rcases nj h with ⟨h1,h2⟩|⟨h1,h3,h2⟩
  ·rcases D7 (fun Z hZ=>hs Z (by simp[hZ])) h2 Y hY with h4|⟨h4,h5⟩
   ·rcases zLa.1 h4 with h4|h4
    ·exact .inl h4
    ·rw[List.mem_singleton.1 h4]
     refine .inr ⟨⟨p1,p2⟩,X,by simp,fun x g xb xX=>⟨xX,fun xq=>?_⟩⟩
     have:=(S9 p1.1 hq).2 ⟨x,xX,xq,xb⟩;rw[h1]at this;cases this
   ·exact .inr ⟨h4,up h5⟩
  ·rcases D7 (fun Z hZ=>hs Z (by simp[hZ])) h2 Y hY with h4|⟨h4,h5⟩
   ·rcases zLa.1 h4 with h4|h4
    ·exact .inl h4
    ·have h4:=JN.1 h4
     obtain⟨u,u1,u2,u3⟩:=(S9 p1.1 hq).1 h1;obtain⟨g1,g2⟩:=Rh (ln q) (Vd.of p1.1) (Vd.of hq).ln ⟨u,u1,u2.sub (Zz hf),u3⟩ h3 Y h4;refine .inr ⟨⟨g1,zAy (ln q) p2 (fun p hp=>hU p (Zz hf p hp)) Y h4⟩,X,by simp,fun x g xb xY=>?_⟩
     obtain⟨k1,p,hp,k2⟩:=g2 x (p2 x g) ((g.sub hU).sub (Zz hf)) xb xY;refine⟨k1,fun xq=>?_⟩
     have:=xq p (Zz hf p hp)
     grind
   ·exact .inr ⟨h4,up h5⟩
end
section
variable {U:List Pln}
theorem zBN{q:Cell}(hq:chk q=0)(hU:∀p∈q,p∈U){pcs:List Cell}(hs:∀X∈pcs,PO X/\Gq U X)(h:(wth pcs q).2=0):(∀Y∈(wth pcs q).1,(PO Y/\Gq U Y)/\∃X∈pcs,∀x,Gn U x->St bx0 x->St Y x->St X x/\¬St q x)/\∀x,Gn U x->St bx0 x->¬St q x->(∃X∈pcs,St X x)->∃Y∈(wth pcs q).1,St Y x:=by
 unfold wth at h |-
 cases hf:ful q with
 |false =>
  rw[zLs (by simp)]
  refine⟨fun Y hY=>⟨hs Y hY,Y,hY,fun x g xb xY=>⟨xY,fun xq=>?_⟩⟩,fun x g xb xq h=>h⟩
  have:=(Y4 hq).2 ⟨x,xq,xb⟩;rw[hf]at this;cases this
 |true =>
  rw[zLr hf]at h;rw[zLr rfl]
  cases hw:wo q pcs [] with
  |none=>rw[hw]at h;cases h
  |some R =>
   rw[hw]at h;dsimp only at h |-;split at h
   ·cases h
   ·rename_i hl
    rw[zLs hl];dsimp only;refine⟨fun Y hY=>?_,fun x g xb xq hx=>zAR hq hf hU g xb xq hs hw hx⟩
    rcases D7 hq hf hU hs hw Y hY with h1|h1
    ·cases h1
    ·exact h1
theorem Bf:∀ {s pcs:List Cell},(∀q∈s,chk q=0/\∀p∈q,p∈U)->(∀X∈pcs,PO X/\Gq U X)->(ZN pcs s).2=0->(∀Y∈(ZN pcs s).1,(PO Y/\Gq U Y)/\∃X∈pcs,∀x,Gn U x->St bx0 x->St Y x->St X x/\∀q∈s,¬St q x)/\∀x,Gn U x->St bx0 x->(∀q∈s,¬St q x)->(∃X∈pcs,St X x)->∃Y∈(ZN pcs s).1,St Y x
 | [],pcs,_,hp,_=>⟨fun Y hY=>⟨hp Y hY,Y,hY,fun x _ _ h=>⟨h,fun q hq=>nomatch hq⟩⟩,fun x _ _ _ h=>h⟩
 |q::s,pcs,hs,hp,h=>by
  have e:ZN pcs (q::s)=if (wth pcs q).2=0 then ZN (wth pcs q).1 s else ([],(wth pcs q).2):=by
   conv=>lhs;unfold ZN
  rw[e]at h |-;split at h
  ·rename_i h0
   rw[zLr h0];obtain⟨w1,w2⟩:=zBN (hs q (by simp)).1 (hs q (by simp)).2 hp h0
   obtain⟨m1,m2⟩:=Bf (s:=s) (pcs:=(wth pcs q).1) (fun r hr=>hs r (by simp[hr])) (fun X hX=>(w1 X hX).1) h
   refine⟨fun Y hY=>?_,fun x g xb xq hx=>m2 x g xb (fun r hr=>xq r (by simp[hr])) (w2 x g xb (xq q (by simp)) hx)⟩
   obtain⟨k1,X,hX,k2⟩:=m1 Y hY;obtain⟨_,Z,hZ,k3⟩:=w1 X hX;refine⟨k1,Z,hZ,fun x g xb xY=>?_⟩
   obtain⟨a1,a2⟩:=k2 x g xb xY;obtain⟨a3,a4⟩:=k3 x g xb a1;refine⟨a3,fun r hr=>?_⟩
   rcases zLV.1 hr with c|c
   ·rw[c];exact a4
   ·exact a2 r c
  ·rename_i h0;exact zLh h h0
end
theorem Gm{c:Cell}{s:List Cell}{U:List Pln}(hU:Vd U)(hcU:∀p∈c,p∈U)(hsU:∀q∈s,∀p∈q,p∈U)(h:(mns c s).2=0):(mns c s).1=[]↔∀x,Gn U x->St bx0 x->St c x->∃q∈s,St q x:=by
 unfold mns at h |-;split at h
 ·rename_i hc
  rw[zLr hc];split at h
  ·rename_i hk
   rw[zLr hk];have hs:∀q∈s,chk q=0:=by
    unfold sck at hk;split at hk
    ·cases hk
    ·exact ZC.1 hk
   cases hf:ful c with
   |false =>
    rw[zLs (by simp)]
    refine⟨fun _ x _ xb xc=>?_,fun _=>rfl⟩
    have:=(Y4 hc).2 ⟨x,xc,xb⟩;rw[hf]at this;cases this
   |true =>
    rw[zLr hf]at h;rw[zLr rfl];obtain⟨z,z1,z2⟩:=(Y4 hc).1 hf;obtain⟨m1,m2⟩:=Bf (U:=U) (s:=s) (pcs:=[ln c]) (fun q hq=>⟨hs q hq,hsU q hq⟩) (fun X hX=>by
     rw[List.mem_singleton.1 hX];exact⟨⟨(Vd.of hc).ln.chk W1.1,z,z1.sub (Zz hf),z2⟩,fun x hx p hp=>hx p (hcU p (Zz hf p hp))⟩) h
    constructor
    ·intro he x g xb xc
     by_cases hq:∃q∈s,St q x
     ·exact hq
     ·obtain⟨Y,hY,_⟩:=m2 x g xb (fun q dQ h3=>hq ⟨q,dQ,h3⟩) ⟨ln c,by simp,xc.sub (Zz hf)⟩
      rw[he]at hY;cases hY
    ·intro ha
     refine List.eq_nil_iff_forall_not_mem.2 fun Y hY=>?_
     obtain⟨⟨⟨_,y,y1,y2⟩,_⟩,X,hX,k⟩:=m1 Y hY;obtain⟨w,w1,w2⟩:=zAz (A:=Y++bx0) hU (St.app.2 ⟨y1,y2⟩);obtain⟨w3,w4⟩:=St.app.1 w1;obtain⟨k1,k2⟩:=k w w2 w4 w3;rw[List.mem_singleton.1 hX]at k1;obtain⟨q,hq,k3⟩:=ha w w2 w4 ((Cs hc hf w4 (w2.sub hcU)).1 k1);exact k2 q hq k3
  ·rename_i hk;exact zLh h hk
 ·rename_i hc;exact zLh h hc
theorem QR{c:Cell}{s t:List Cell}(f9:∀q∈s,q∈t)(h:(cov s c).1=true)(he:(cov t c).2=0):(cov t c).1=true:=by
 unfold cov at h he |-;simp only[zLR,zLj]at h he |-;obtain⟨h1,h2⟩:=h;refine⟨he,?_⟩;have hc:chk c=0:=by
  unfold mns at he;split at he
  ·assumption
  ·exact zLh he (by assumption)
 have ht:∀q∈t,chk q=0:=by
  unfold mns at he;rw[zLr hc]at he;split at he
  ·rename_i hk
   unfold sck at hk;split at hk
   ·cases hk
   ·exact ZC.1 hk
  ·exact zLh he (by assumption)
 have hU:Vd (c++t.flatten):=fun p hp=>by
  rcases zLa.1 hp with hp|hp
  ·exact Vd.of hc p hp
  ·obtain⟨q,hq,hp⟩:=List.mem_flatten.1 hp
   exact Vd.of (ht q hq) p hp
 have hcU:∀p∈c,p∈c++t.flatten:=fun p hp=>by simp[hp]
 have htU:∀q∈t,∀p∈q,p∈c++t.flatten:=fun q hq p hp=>List.mem_append_right _ (List.mem_flatten.2 ⟨q,hq,hp⟩)
 have a1:=(Gm hU hcU (fun q hq=>htU q (f9 q hq)) h1).1 (List.eq_nil_of_length_eq_zero h2)
 have a2:=(Gm hU hcU htU he).2 fun x g xb xc=>by
  obtain⟨q,hq,h3⟩:=a1 x g xb xc;exact⟨q,f9 q hq,h3⟩
 rw[a2];rfl
theorem qT{p:Part}{x:vN}{A B:List Cell}(t8:∀q∈A,q∈B):∀ {m i:Nat},(enR p x A i m).1=true->(enR p x B i m).2=0->(enR p x B i m).1=true
 |0,_,_,_=>rfl
 |m+1,i,h,he=>by
  unfold enR at h he |-;split at h
  ·rename_i h1
   rw[zLr h1]at he |-;exact qT t8 h he
  ·rename_i h1
   rw[zLs h1]at he |-;split at h
   ·rename_i h2
    split at he
    ·rename_i h3
     rw[zLr h3];exact qT t8 h he
    ·rename_i h3
     exact zLh (QR (zDg t8) h2 he) h3
   ·cases h
theorem QN{j:Job}{s t:List Bool}(h:jI s t):∀q∈ctS j s,q∈ctS j t:=fun q hq=>by
 unfold ctS at hq |-;rcases zLa.1 hq with h1|h1
 ·exact List.mem_append_left _ h1
 ·obtain⟨k,hk,h2⟩:=List.mem_flatMap.1 h1
  have:=kK.1 hk;exact List.mem_append_right _ (List.mem_flatMap.2 ⟨k,kK.2 ⟨this.1,h k this.2⟩,h2⟩)
theorem QH{j:Job}{s t:List Bool}(h:jI s t)(h1:(enq j s).1=true)(h2:(enq j t).2=0):(enq j t).1=true:=qT (QN h) h1 h2
end Go.Geo
end
