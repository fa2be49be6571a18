/- Lemmas behind a claim. -/
import Derived.Test.YtknbpncolbmoaaaGreatKPoE
set_option linter.unusedSimpArgs false
set_option linter.unusedVariables false
open Go.Lift.Comp (zA QM zO YJ)
section
namespace Go.Geo
open Go Go.Eng Go.Lift Go.Den Go.F
variable {α β γ δ ε σ τ:Type}
theorem mL{s:List Cell}(hl:s.length<9223372036854775807){body:Int->Comp (Comp.Step Int (Unit⊕Int))}(hb:∀(i:Nat) c,s[i]?=some c->(body (i:Int)).val=some (if chk c=0 then .next ((i+1:Nat):Int) else .done (.inr (chk c))))(he:(body (s.length:Int)).val=some (.done (.inl ()))) :
  ∃r:Unit⊕Int,(match r with|.inl _=>0|.inr n=>n)=ja s/\(Comp.loop body 0).val=some r:=by
 have key:∀(ys zs:List Cell),s=zs++ys->∃r:Unit⊕Int,(match r with|.inl _=>0|.inr n=>n)=ja ys/\(Comp.loop body (zs.length:Int)).val=some r:=by
  intro ys
  induction ys with
  |nil =>
   intro zs hx;refine⟨.inl (),rfl,?_⟩;rw[zO,show zs.length=s.length by rw[hx];simp,he];rfl
  |cons y ys ih =>
   intro zs hx;have hy:s[zs.length]?=some y:=by rw[hx];simp
   unfold ja;by_cases h:chk y=0
   ·obtain⟨r,h1,h2⟩:=ih (zs++[y]) (by rw[hx];simp)
    refine⟨r,by rw[zKu h];exact h1,?_⟩
    rw[zO,hb _ _ hy,zKu h,zKS];simpa using h2
   ·refine⟨.inr (chk y),by rw[zKv h],?_⟩
    rw[zO,hb _ _ hy,zKv h,zKS]
 exact key s [] rfl
theorem w7(s:List Cell):(Yu s).val=some (sck s,()):=by
 unfold Yu sck;by_cases h:16<s.length
 ·rw[zKu (by rw[ya,zC];omega),zKu h,Comp.zB]
 ·rw[zKv (by rw[ya,zC];omega),zKv h]
  obtain⟨r,h1,h2⟩:=mL (s:=s) (by omega)
   (body:=(fun (x:Int)=>if ltI x (zF s)=true then
        (idx s x).bind fun x_1=>(Go.F.gm x_1).bind fun x_2=>if neI x_2.1 0=true then Comp.pure (.done (Sum.inr x_2.1)) else Comp.pure (.next (zJ .i64 x 1))
       else Comp.pure (.done (Sum.inl ()))))
   (fun i c hc=>by
    have gF:=zM hc;rw[zKu (by rw[zH,zC];omega),zA,zQ hc,zKS,zA,jo,zKS,zL (by omega)]
    by_cases h:chk c=0
    ·rw[zKv (by rw[zj];simp[h]),zKu h,Comp.zB]
    ·rw[zKu (by rw[zj];exact h),zKv h,Comp.zB])
   (by rw[zKv (by rw[zH,zC];omega),Comp.zB])
  rw[zA];refine(zKl (fun o=>Option.bind o _) h2).trans ?_
  rw[zKS,<-h1];cases r<;>exact Comp.zB _
theorem XX(c:Cell){s:List Cell}(hl:s.length<9223372036854775807):(jI c s).val=some (sap c s,()):=by
 unfold jI;have h1:(zI s fun z=>gz z.1 c).val=some (s.any fun q=>!apa c q,()) :=
  Zp (xs:=s) (f:=fun z=>gz z.1 c) (p:=fun q=>!apa c q) hl fun q _=>by
   show (gz q c).val=_
   unfold gz;rw[zA,jq,zKS,Comp.zB];rfl
 rw[zA,h1,zKS,Comp.zB,yQ];unfold sap;rw[List.all_eq_not_any_not]
theorem BZ{p:Pln}(h:okB p):(YV p).val=some (jc p,()):=by
 obtain⟨⟨h1,h2,h3⟩,h4⟩:=h;unfold YV K6;rw[zA,Comp.zB,zKS,Comp.zB,JV (by omega),YE (by simp only;omega),YE (by simp only;omega),YE (by simp only;omega)]
 unfold jc;simp only[Int.zero_sub]
theorem Bv{c:Cell}{p:Pln}(h:c.length<=1000):(zN [c,[p]]).val=some (c++[p],()):=by
 have:=mV (z:=((0,0,0,()),0,())) (xs:=[c,[p]]) (by simp;unfold LIM;omega) (by simp)
 simp only[List.flatten_cons,List.flatten_nil,List.append_nil]at this;exact this
theorem rU{piece:Cell}{fs:List Pln}(hl:fs.length<=1000)(hB:∀p∈fs,okB p):(ji piece fs).val=some ((gp piece fs).map fun o=>(o,())):=by
 unfold ji;have key:∀(ys zs:List Pln) (rest:Cell),fs=zs++ys->∃e:Unit⊕Unit,(Z9
       (fun (x:List (Pln)×Int)=>if ltI x.2 (zF fs)=true then
         (idx fs x.2).bind fun x_1=>if geI (zF x.1) 48=true then tell [(none,())] (Comp.pure ([],.done (Sum.inr ())))
          else
           (Go.F.YV x_1).bind fun x_2=>(Go.F.zN [x.1,[x_2.1]]).bind fun y=>(Go.F.ga y.1).bind fun y_1=>if gtI (zF y_1.1) 0=true then
               tell [(some y_1.1,())]
                ((Go.F.zN [x.1,[x_1]]).bind fun y=>(Go.F.ga y.1).bind fun y=>Comp.pure ([],.next (y.1,zJ .i64 x.2 1)))
              else
               (Go.F.zN [x.1,[x_1]]).bind fun y=>(Go.F.ga y.1).bind fun y=>Comp.pure ([],.next (y.1,zJ .i64 x.2 1))
        else Comp.pure ([],.done (Sum.inl ()))) (rest,(zs.length:Int))).val=some ((gp rest ys).map fun o=>(o,()),e):=by
  intro ys
  induction ys with
  |nil =>
   intro zs rest hx;exact⟨.inl (),Jp (by rw[zKv (by rw[zH,zC,hx];simp),Comp.zB];rfl)⟩
  |cons p ys ih =>
   intro zs rest hx;have hy:fs[zs.length]?=some p:=by rw[hx];simp
   have gF:=zM hy;have hp:=hB p (zKZ hy)
   by_cases hr:48<=rest.length
   ·refine⟨.inr (),Jp ?_⟩
    rw[zKu (by rw[zH,zC];show (zs.length:Int)<_;omega),zA,zQ hy,zKS,zKu (by rw[YA,zC];show _<=((rest.length:Nat):Int);omega),Yf,Comp.zB]
    unfold gp;rw[zKu hr];rfl
   ·obtain⟨e,he⟩:=ih (zs++[p]) (ln (rest++[p])) (by rw[hx];simp)
    refine⟨e,?_⟩;have hgp:(gp rest (p::ys)).map (fun o=>(o,()))=(bif decide (ln (rest++[jc p])=[]) then [] else [(some (ln (rest++[jc p])),())])++(gp (ln (rest++[p])) ys).map fun o=>(o,()):=by
     conv=>lhs;unfold gp
     rw[zKv hr,List.map_append];cases decide (ln (rest++[jc p])=[])<;>rfl
    rw[hgp];refine tG (s':=(ln (rest++[p]),((zs.length+1:Nat):Int))) ?_ (by simpa using he)
    rw[zKu (by rw[zH,zC];show (zs.length:Int)<_;omega),zA,zQ hy,zKS,zKv (by rw[YA,zC];show ¬_<=((rest.length:Nat):Int);omega),
     zA,BZ hp,zKS,zA,Bv (by show rest.length<=1000;omega),zKS,zA,KN,zKS]
    have ht:((Go.F.zN [rest,[p]]).bind fun y=>(Go.F.ga y.1).bind fun y=>(Comp.pure ([],.next (y.1,zJ .i64 (zs.length:Int) 1)):Comp (List (Option Cell×Unit)×Comp.Step (Cell×Int) (Unit⊕Unit)))).val=some ([],.next (ln (rest++[p]),((zs.length+1:Nat):Int))):=by
     rw[zA,Bv (by omega),zKS,zA,KN,zKS,Comp.zB,zL (by omega)]
    by_cases h0:ln (rest++[jc p])=[]
    ·rw[zKv (by rw[ya,zC,h0];simp),zKx h0]
     exact ht
    ·rw[zKu (by rw[ya,zC];have:=List.length_pos_iff.2 h0;show (0:Int)<((ln (rest++[jc p])).length:Int);omega),Yf,zKw h0]
     refine(zKl (Option.map _) ht).trans ?_;rfl
 obtain⟨e,he⟩:=key fs [] piece rfl;rw[zA,zA];refine(zKl (fun o=>Option.bind (Option.bind o _) _) he).trans ?_
 rw[zKS,Yf];have h3:∀e:Unit⊕Unit,(match e with|Sum.inl x=>Comp.pure ([],())|Sum.inr x=>Comp.pure ([],()):Comp (List (Option Cell×Unit)×Unit)).val=some ([],()):=fun e=>by cases e<;>exact Comp.zB _
 refine(zKl (fun o=>Option.bind (Option.map _ o) _) (h3 e)).trans ?_
 simp only[Option.map_some,zKS,List.append_nil];exact Comp.zB _
theorem rv{a:List Cell}{b:Int}:∀(L:List (Option Cell)) (out:List Cell),(∀c,some c∈L->c≠[])->out.length+L.length<=1000000->(Kv
                   (fun (x :
                      List (List (Pln))×Int×List (List (Pln)))
                     (d:Option (List (Pln))×Unit) =>
                    match d.1 with
                    |none=>Comp.pure (.done ([],Int.ofNat 9))
                    |some xs =>
                     amb (uG xs) (Comp.pure (.done ([],Int.ofNat 9)))
                      ((app x.2.2 [xs]).bind fun zs=>Comp.pure (.next (x.1,x.2.1,zs))))
                   (L.map fun o=>(o,())) (a,b,out)).val=some (if jg L=true then .done ([],9) else .next (a,b,out++yg L):Comp.Step (List Cell×Int×List Cell) (List Cell×Int))
 | [],out,_,_=>by
  show (Comp.pure _).val=_
  rw[Comp.zB];simp[jg,yg]
 |none::L,out,_,_=>by
  show ((Comp.pure _).bind _).val=_
  rw[zA,Comp.zB,zKS,Comp.zB];rfl
 |some c::L,out,fB,kA=>by
  have hc:=fB c (by simp)
  simp only[zKc]at kA;show ((amb (uG c) _ _).bind _).val=_
  have hn:uG c=false:=by cases c with
   |nil=>exact zKk rfl hc
   |cons _ _=>rfl
  have h1:(amb (uG c) (Comp.pure (.done ([],Int.ofNat 9))) ((app out [c]).bind fun zs=>Comp.pure (.next (a,b,zs))):Comp (Comp.Step (List Cell×Int×List Cell) (List Cell×Int))).val=some (.next (a,b,out++[c])):=by
   rw[hn];show ((app out [c]).bind _).val=_
   rw[zA,yP (by simp only[zKX];unfold LIM;omega),zKS,Comp.zB]
  rw[zA];refine(zKl (fun o=>Option.bind o _) h1).trans ?_
  rw[zKS];refine(rv L (out++[c]) (fun c' h=>fB c' (zKe _ h)) (by simp only[zKV,zKX];omega)).trans ?_
  show some (if jg L=true then _ else _)=some (if jg L=true then _ else _)
  simp only[yg,zKo,List.singleton_append]
theorem wK{pieces:List Cell}(q:Cell)(hl:pieces.length<=200):(kD pieces q).val=some ((wth pieces q).1,(wth pieces q).2,()):=by
 unfold kD;rw[zA,Za,zKS,yQ];by_cases hf:ful q=true
 ·rw[zKv (by simp[hf]),zA,KN,zKS]
  have hq:=zGd (c:=q)
  have key:∀(ys zs:List Cell) (out:List Cell),pieces=zs++ys->out.length+ys.length * 49<=20000->∃r,(match r with
    |.inl x=>some x.2.2
    |.inr _=>none)=wo q ys out/\(∀x,r=.inr x->x=([],9))/\(∀x,r=.inl x->x.1=[]/\x.2.1=0)/\(Comp.loop
        (fun (x:Int×List (List (Pln))×Int×List (List (Pln)))=>if ltI x.1 (zF pieces)=true then
          jn
           (fun (x_1:List (List (Pln))×Int×List (List (Pln)))=>Comp.pure (.next (zJ .i64 x.1 1,x_1.1,x_1.2.1,x_1.2.2)))
           fun (j :
             List (List (Pln))×Int×List (List (Pln))->Comp
               (Comp.Step
                (Int×List (List (Pln))×Int×List (List (Pln)))
                (List (List (Pln))×Int×List (List (Pln)) ⊕
                 List (List (Pln))×Int))) =>
           (idx pieces x.1).bind fun x_1=>(Go.F.kV x_1 q).bind fun x_2=>if x_2.1=true then (app x.2.2.2 [x_1]).bind fun zs=>j (x.2.1,x.2.2.1,zs)
             else
              (Go.F.Zc x_1 (ln q)).bind fun (x_3:Comp (List (Option (List (Pln))×Unit))×Unit)=>x_3.1.bind fun (xs:List (Option (List (Pln))×Unit))=>(Kv
                   (fun (x :
                      List (List (Pln))×Int×List (List (Pln)))
                     (d:Option (List (Pln))×Unit) =>
                    match d.1 with
                    |none=>Comp.pure (.done ([],Int.ofNat 9))
                    |some xs =>
                     amb (uG xs) (Comp.pure (.done ([],Int.ofNat 9)))
                      ((app x.2.2 [xs]).bind fun zs=>Comp.pure (.next (x.1,x.2.1,zs))))
                   xs (x.2.1,x.2.2.1,x.2.2.2)).bind fun (r :
                   Comp.Step
                    (List (List (Pln))×Int×List (List (Pln)))
                    (List (List (Pln))×Int)) =>
                 match r with
                 |.next x=>j (x.1,x.2.1,x.2.2)
                 |.done e=>Comp.pure (.done (Sum.inr (e.1,e.2)))
         else Comp.pure (.done (Sum.inl (x.2.1,x.2.2.1,x.2.2.2)))) ((zs.length:Int),[],0,out)).val=some r:=by
   intro ys
   induction ys with
   |nil =>
    intro zs out hx kA;refine⟨.inl ([],0,out),rfl,(fun x h=>nomatch h),(fun x h=>by cases h;exact⟨rfl,rfl⟩),?_⟩
    rw[zO,zKv (by rw[zH,zC,hx];simp),Comp.zB];rfl
   |cons y ys ih =>
    intro zs out hx kA;simp only[zKc]at kA;have hy:pieces[zs.length]?=some y:=by rw[hx];simp
    have gF:=zM hy;by_cases ha:apa y q=true
    ·obtain⟨r,h1,h2,h3,h4⟩:=ih (zs++[y]) (out++[y]) (by rw[hx];simp) (by simp only[zKV,zKX];omega)
     refine⟨r,by rw[h1];conv=>rhs;unfold wo;rw[zKu ha],h2,h3,?_⟩
     rw[zO,zKu (by rw[zH,zC];show (zs.length:Int)<_;omega),vR,zA,zQ hy,zKS,zA,jq,zKS,zKu ha,zA,
      yP (by simp only[zKX];unfold LIM;show out.length+1<=_;omega),zKS,Comp.zB,zKS,zL (by omega)]
     simpa using h4
    ·have hp:(Zc y (ln q)).val=some (ji y (ln q),()):=by unfold Zc;exact Comp.zB _
     have hfo:=rv (a:=[]) (b:=0) (gp y (ln q)) out (fun c h=>zAH h) (by have:=lP (fs:=ln q) (rest:=y);omega)
     by_cases hn:jg (gp y (ln q))=true
     ·refine⟨.inr ([],9),by conv=>rhs;unfold wo;rw[zKv ha,zKu hn],(fun x h=>by cases h;rfl),(fun x h=>nomatch h),?_⟩
      rw[zKu hn]at hfo;rw[zO,zKu (by rw[zH,zC];show (zs.length:Int)<_;omega),vR,zA,zQ hy,zKS,zA,jq,zKS,zKv ha,zA,hp,zKS,zA,
       rU (by omega) hq.2,zKS,zA]
      refine(zKl (fun o=>Option.bind (Option.bind o _) _) hfo).trans ?_
      rw[zKS,Comp.zB];rfl
     ·have hs:=JL (l:=gp y (ln q))
      have hg:=lP (fs:=ln q) (rest:=y);obtain⟨r,h1,h2,h3,h4⟩:=ih (zs++[y]) (out++yg (gp y (ln q))) (by rw[hx];simp) (by simp only[zKV];omega)
      refine⟨r,by rw[h1];conv=>rhs;unfold wo;rw[zKv ha,zKv hn],h2,h3,?_⟩
      rw[zKv hn]at hfo;rw[zO,zKu (by rw[zH,zC];show (zs.length:Int)<_;omega),vR,zA,zQ hy,zKS,zA,jq,zKS,zKv ha,zA,hp,zKS,zA,
       rU (by omega) hq.2,zKS,zA]
      refine(zKl (fun o=>Option.bind (Option.bind o _) _) hfo).trans ?_
      rw[zKS,Comp.zB,zKS,zL (by omega)]
      simpa using h4
  obtain⟨r,h1,h2,h3,h4⟩:=key pieces [] [] rfl (by simp;omega)
  rw[zA];refine(zKl (fun o=>Option.bind o _) h4).trans ?_
  rw[zKS];unfold wth;rw[zKu hf,<-h1]
  cases r with
  |inl x =>
   simp only;by_cases kA:200<x.2.2.length
   ·rw[zKu (by rw[ya,zC];omega),zKu kA,Comp.zB]
   ·rw[zKv (by rw[ya,zC];omega),zKv kA,Comp.zB]
  |inr x =>
   rw[h2 x rfl];exact Comp.zB _
 ·rw[zKu (by simpa using hf),Comp.zB]
  unfold wth;rw[zKv hf]
theorem Ic(c:Cell)(s:List Cell):(Ys c s).val=some ((mns c s).1,(mns c s).2,()):=by
 unfold Ys mns;rw[zA,jo,zKS];by_cases hc:chk c=0
 ·rw[zKv (by rw[zj];simp[hc]),zKu hc,zA,w7,zKS]
  by_cases hs:sck s=0
  ·have kA:s.length<=16:=by
    unfold sck at hs;split at hs
    ·cases hs
    ·omega
   rw[zKv (by rw[zj];simp[hs]),zKu hs,zA,Za,zKS,yQ]
   by_cases hf:ful c=true
   ·rw[zKv (by simp[hf]),zKu hf,zA,KN,zKS]
    have key:∀(ys zs:List Cell) (pcs:List Cell),s=zs++ys->pcs.length<=200->∃r:List Cell⊕List Cell×Int,(match r with
      |.inl x=>(x,0)
      |.inr x =>
            x)=Xb pcs ys/\(Comp.loop
            (fun (x:List (List (Pln))×Int)=>if ltI x.2 (zF s)=true then
              (idx s x.2).bind fun x_1=>(Go.F.kD x.1 x_1).bind fun x_2=>if neI x_2.2.1 0=true then Comp.pure (.done (Sum.inr ([],x_2.2.1)))
                else Comp.pure (.next (x_2.1,zJ .i64 x.2 1))
             else Comp.pure (.done (Sum.inl x.1))) (pcs,(zs.length:Int))).val=some r:=by
     intro ys
     induction ys with
     |nil =>
      intro zs pcs hx kA;refine⟨.inl pcs,rfl,?_⟩;rw[zO,zKv (by rw[zH,zC,hx];simp),Comp.zB];rfl
     |cons y ys ih =>
      intro zs pcs hx hlen';have hy:s[zs.length]?=some y:=by rw[hx];simp
      have gF:=zM hy;unfold Xb;by_cases he:(wth pcs y).2=0
      ·obtain⟨r,h1,h2⟩:=ih (zs++[y]) (wth pcs y).1 (by rw[hx];simp) (Ek hlen')
       refine⟨r,by rw[zKu he];exact h1,?_⟩
       rw[zO,zKu (by rw[zH,zC];show (zs.length:Int)<_;omega),zA,zQ hy,zKS,zA,wK y hlen',zKS,zKv (by rw[zj];simp[he]),Comp.zB,zL (by omega),zKS]
       simpa using h2
      ·refine⟨.inr ([],(wth pcs y).2),by rw[zKv he],?_⟩
       rw[zO,zKu (by rw[zH,zC];show (zs.length:Int)<_;omega),zA,zQ hy,zKS,zA,wK y hlen',zKS,zKu (by rw[zj];exact he),Comp.zB,zKS]
    obtain⟨r,h1,h2⟩:=key s [] [ln c] rfl (by simp)
    rw[zA];refine(zKl (fun o=>Option.bind o _) h2).trans ?_
    rw[zKS,<-h1];cases r<;>exact Comp.zB _
   ·rw[zKu (by simpa using hf),zKv hf,Comp.zB]
  ·rw[zKu (by rw[zj];exact hs),zKv hs,Comp.zB]
 ·rw[zKu (by rw[zj];exact hc),zKv hc,Comp.zB]
theorem DW(s:List Cell)(c:Cell):(ky s c).val=some ((cov s c).1,(cov s c).2,()):=by
 unfold ky cov;rw[zA,Ic,zKS,Comp.zB,vg];unfold eqI;rw[zC]
 congr 3
 by_cases h:(mns c s).1.length=0
 ·simp[h]
 ·simp[h]
theorem lv(s:List Cell):(jZ s).val=some (sck s,()):=by
 unfold jZ sck;by_cases h:16<s.length
 ·rw[zKu (by rw[ya,zC];omega),zKu h,Comp.zB]
 ·rw[zKv (by rw[ya,zC];omega),zKv h]
  obtain⟨r,h1,h2⟩:=mL (s:=s) (by omega)
   (body:=(fun (x:Int)=>if ltI x (zF s)=true then
        (idx s x).bind fun x_1=>(Go.F.zZ x_1).bind fun x_2=>if neI x_2.1 0=true then Comp.pure (.done (Sum.inr x_2.1)) else Comp.pure (.next (zJ .i64 x 1))
       else Comp.pure (.done (Sum.inl ()))))
   (fun i c hc=>by
    have gF:=zM hc;rw[zKu (by rw[zH,zC];omega),zA,zQ hc,zKS,zA,ju,zKS,zL (by omega)]
    by_cases h:chk c=0
    ·rw[zKv (by rw[zj];simp[h]),zKu h,Comp.zB]
    ·rw[zKu (by rw[zj];exact h),zKv h,Comp.zB])
   (by rw[zKv (by rw[zH,zC];omega),Comp.zB])
  rw[zA];refine(zKl (fun o=>Option.bind o _) h2).trans ?_
  rw[zKS,<-h1];cases r<;>exact Comp.zB _
theorem wO(c:Cell){s:List Cell}(hl:s.length<9223372036854775807):(yy c s).val=some (sap c s,()):=by
 unfold yy;have h1:=Zq s (fun q=>apa c q) (c:=(Sum.inr false:Unit⊕Bool)) (d:=Sum.inl ())
  (body:=(fun (x:Int)=>if ltI x (zF s)=true then
       (idx s x).bind fun x_1=>(Go.F.zb c x_1).bind fun x_2=>if ntB x_2.1=true then Comp.pure (.done (Sum.inr false)) else Comp.pure (.next (zJ .i64 x 1))
      else Comp.pure (.done (Sum.inl ()))))
  (fun i q hq=>by
   have gF:=zM hq;rw[zKu (by rw[zH,zC];omega),zA,zQ hq,zKS,zA,ZQ,zKS,yQ,zL (by omega)]
   cases apa c q<;>exact Comp.zB _)
  (by rw[zKv (by rw[zH,zC];omega),Comp.zB])
 rw[zA];refine(zKl (fun o=>Option.bind o _) h1).trans ?_
 rw[zKS];unfold sap;cases s.all fun q=>apa c q<;>exact Comp.zB _
theorem ID{p:Pln}(h:okB p):(vM p).val=some (jc p,()):=BZ h
theorem AX{c:Cell}{p:Pln}(h:c.length<=1000):(yL c p).val=some (c++[p],()):=by
 unfold yL;rw[zA,yP (by simp;unfold LIM;omega),zKS,zA,yP (by simp;unfold LIM;omega),zKS,Comp.zB]
 simp
def prt(piece:Cell)(fs:List Pln):List Cell×Int:=if jg (gp piece fs)=true then ([],9) else (yg (gp piece fs),0)
theorem DN{l m:List (Option α)}:jg (l++m)=(jg l || jg m):=by
 induction l with
 |nil=>simp[jg]
 |cons x l ih=>cases x<;>simp[jg,ih]
theorem H9{l m:List (Option α)}:yg (l++m)=yg l++yg m:=by
 induction l with
 |nil=>simp[yg]
 |cons x l ih=>cases x<;>simp[yg,ih]
theorem C4{piece:Cell}{fs:List Pln}(hl:fs.length<=1000)(hB:∀p∈fs,okB p):(gW piece fs).val=some ((prt piece fs).1,(prt piece fs).2,()):=by
 unfold gW
 have key:∀(ys zs:List Pln) (rest:Cell) (out:List Cell),fs=zs++ys->out.length+ys.length<=10000->∃r:List Cell⊕List Cell×Int,(match r with
   |.inl x=>(x,0)
   |.inr x=>x)=(if jg (gp rest ys)=true then ([],9) else (out++yg (gp rest ys),0))/\(Comp.loop
     (fun (x:List (List (Pln))×List (Pln)×Int)=>if ltI x.2.2 (zF fs)=true then
       if geI (zF x.2.1) 48=true then Comp.pure (.done (Sum.inr ([],9)))
       else
        (idx fs x.2.2).bind fun x_1=>(Go.F.vM x_1).bind fun x_2=>(Go.F.yL x.2.1 x_2.1).bind fun y=>(Go.F.zm y.1).bind fun x_3=>jn
             (fun (x_4:List (List (Pln)))=>(idx fs x.2.2).bind fun x_5=>(Go.F.yL x.2.1 x_5).bind fun y=>(Go.F.zm y.1).bind fun x_6=>Comp.pure (.next (x_4,x_6.1,zJ .i64 x.2.2 1)))
             fun (j :
               List (List (Pln))->Comp
                 (Comp.Step (List (List (Pln))×List (Pln)×Int)
                  (List (List (Pln))⊕List (List (Pln))×Int))) =>
             if gtI (zF x_3.1) 0=true then (app x.1 [x_3.1]).bind fun zs=>j zs
             else j x.1
      else Comp.pure (.done (Sum.inl x.1))) (out,rest,(zs.length:Int))).val=some r:=by
  intro ys
  induction ys with
  |nil =>
   intro zs rest out hx _;refine⟨.inl out,by simp[gp,jg,yg],?_⟩
   rw[zO,zKv (by rw[zH,zC,hx];simp),Comp.zB];rfl
  |cons p ys ih =>
   intro zs rest out hx kA;simp only[zKc]at kA;have hy:fs[zs.length]?=some p:=by rw[hx];simp
   have gF:=zM hy;have hp:=hB p (zKZ hy)
   by_cases hr:48<=rest.length
   ·refine⟨.inr ([],9),by unfold gp;rw[zKu hr];rfl,?_⟩
    rw[zO,zKu (by rw[zH,zC];show (zs.length:Int)<_;omega),zKu (by rw[YA,zC];show _<=((rest.length:Nat):Int);omega),Comp.zB];rfl
   ·let out2:List Cell:=if ln (rest++[jc p])=[] then out else out++[ln (rest++[jc p])]
    have hout2:out2.length<=out.length+1:=by
     show (if ln (rest++[jc p])=[] then out else out++[ln (rest++[jc p])]).length<=_
     split<;>simp
    obtain⟨r,h1,h2⟩:=ih (zs++[p]) (ln (rest++[p])) out2 (by rw[hx];simp) (by omega)
    refine⟨r,?_,?_⟩
    ·rw[h1]
     have hgp:gp rest (p::ys)=(bif decide (ln (rest++[jc p])=[]) then [] else [some (ln (rest++[jc p]))])++gp (ln (rest++[p])) ys:=by
      conv=>lhs;unfold gp
      rw[zKv hr]
     rw[hgp,DN,H9];show (if _ then _ else ((if ln (rest++[jc p])=[] then out else out++[ln (rest++[jc p])])++_,_))=_
     by_cases h0:ln (rest++[jc p])=[]
     ·rw[zKx h0,zKu h0];simp[jg,yg]
     ·rw[zKw h0,zKv h0];simp[jg,yg]
    ·have ht:∀o:List Cell,((idx fs (zs.length:Int)).bind fun x_5=>(Go.F.yL rest x_5).bind fun y=>(Go.F.zm y.1).bind fun x_6=>(Comp.pure (.next (o,x_6.1,zJ .i64 (zs.length:Int) 1)):Comp (Comp.Step (List Cell×Cell×Int) (List Cell⊕List Cell×Int)))).val=some (.next (o,ln (rest++[p]),((zs.length+1:Nat):Int))):=fun o=>by
      rw[zA,zQ hy,zKS,zA,AX (by omega),zKS,zA,XD,zKS,Comp.zB,zL (by omega)]
     rw[zO,zKu (by rw[zH,zC];show (zs.length:Int)<_;omega),zKv (by rw[YA,zC];show ¬_<=((rest.length:Nat):Int);omega),
      zA,zQ hy,zKS,zA,ID hp,zKS,zA,AX (by show rest.length<=1000;omega),zKS,zA,XD,zKS,vR]
     have xD:(if gtI (zF (ln (rest++[jc p]))) 0=true then (app out [ln (rest++[jc p])]).bind fun zs1=>((idx fs (zs.length:Int)).bind fun x_5=>(Go.F.yL rest x_5).bind fun y=>(Go.F.zm y.1).bind fun x_6=>(Comp.pure (.next (zs1,x_6.1,zJ .i64 (zs.length:Int) 1)):Comp (Comp.Step (List Cell×Cell×Int) (List Cell⊕List Cell×Int))))
       else ((idx fs (zs.length:Int)).bind fun x_5=>(Go.F.yL rest x_5).bind fun y=>(Go.F.zm y.1).bind fun x_6=>(Comp.pure (.next (out,x_6.1,zJ .i64 (zs.length:Int) 1)):Comp (Comp.Step (List Cell×Cell×Int) (List Cell⊕List Cell×Int))))).val=some (.next (out2,ln (rest++[p]),((zs.length+1:Nat):Int))):=by
      show _=some (Comp.Step.next (if ln (rest++[jc p])=[] then out else out++[ln (rest++[jc p])],_,_))
      by_cases h0:ln (rest++[jc p])=[]
      ·rw[zKv (by rw[ya,zC,h0];simp),zKu h0]
       exact ht out
      ·rw[zKu (by rw[ya,zC];have:=List.length_pos_iff.2 h0;omega),zKv h0,zA,yP (by simp only[zKX];unfold LIM;omega),zKS]
       exact ht _
     refine(zKl (fun o=>Option.bind o _) xD).trans ?_
     rw[zKS];simpa using h2
 obtain⟨r,h1,h2⟩:=key fs [] piece [] rfl (by simp;omega)
 rw[zA];refine(zKl (fun o=>Option.bind o _) h2).trans ?_
 rw[zKS]
 have hp:prt piece fs=(match (generalizing:=false) r with
   |.inl x=>(x,0)
   |.inr x=>x):=by rw[h1];rfl
 rw[hp];cases r<;>exact Comp.zB _
theorem J8{pieces:List Cell}(q:Cell)(hl:pieces.length<=200):(y7 pieces q).val=some ((wth pieces q).1,(wth pieces q).2,()):=by
 unfold y7;rw[zA,YQ,zKS,yQ];by_cases hf:ful q=true
 ·rw[zKv (by simp[hf])]
  have hq:=zGd (c:=q)
  have key:∀(ys zs:List Cell) (out:List Cell),pieces=zs++ys->out.length+ys.length * 49<=20000->∃r:List Cell⊕List Cell×Int,(match r with
    |.inl x=>some x
    |.inr _=>none)=wo q ys out/\(∀x,r=.inr x->x=([],9))/\(Comp.loop
       (fun (x:List (List (Pln))×Int)=>if ltI x.2 (zF pieces)=true then
         jn (fun (x_1:List (List (Pln)))=>Comp.pure (.next (x_1,zJ .i64 x.2 1)))
          fun (j :
            List (List (Pln))->Comp
              (Comp.Step (List (List (Pln))×Int)
               (List (List (Pln))⊕List (List (Pln))×Int))) =>
          (idx pieces x.2).bind fun x_1=>(Go.F.zb x_1 q).bind fun x_2=>if x_2.1=true then
             (idx pieces x.2).bind fun x_3=>(app x.1 [x_3]).bind fun zs=>j zs
            else
             (idx pieces x.2).bind fun x_3=>(Go.F.zm q).bind fun x_4=>(Go.F.gW x_3 x_4.1).bind fun x_5=>if neI x_5.2.1 0=true then Comp.pure (.done (Sum.inr ([],x_5.2.1)))
                else (app x.1 x_5.1).bind fun zs=>j zs
        else Comp.pure (.done (Sum.inl x.1))) (out,(zs.length:Int))).val=some r:=by
   intro ys
   induction ys with
   |nil =>
    intro zs out hx kA;refine⟨.inl out,rfl,(fun x h=>nomatch h),?_⟩
    rw[zO,zKv (by rw[zH,zC,hx];simp),Comp.zB];rfl
   |cons y ys ih =>
    intro zs out hx kA;simp only[zKc]at kA;have hy:pieces[zs.length]?=some y:=by rw[hx];simp
    have gF:=zM hy;by_cases ha:apa y q=true
    ·obtain⟨r,h1,h2,h4⟩:=ih (zs++[y]) (out++[y]) (by rw[hx];simp) (by simp only[zKV,zKX];omega)
     refine⟨r,by rw[h1];conv=>rhs;unfold wo;rw[zKu ha],h2,?_⟩
     rw[zO,zKu (by rw[zH,zC];show (zs.length:Int)<_;omega),vR,zA,zQ hy,zKS,zA,ZQ,zKS,zKu ha,zA,zQ hy,zKS,zA,
      yP (by simp only[zKX];unfold LIM;show out.length+1<=_;omega),zKS,Comp.zB,zKS,zL (by omega)]
     simpa using h4
    ·have oU:=C4 (piece:=y) (fs:=ln q) (by omega) hq.2
     by_cases hn:jg (gp y (ln q))=true
     ·have hp:prt y (ln q)=([],9):=by unfold prt;rw[zKu hn]
      refine⟨.inr ([],9),by conv=>rhs;unfold wo;rw[zKv ha,zKu hn],(fun x h=>by cases h;rfl),?_⟩
      rw[hp]at oU;rw[zO,zKu (by rw[zH,zC];show (zs.length:Int)<_;omega),vR,zA,zQ hy,zKS,zA,ZQ,zKS,zKv ha,zA,zQ hy,zKS,zA,
       XD,zKS,zA,oU,zKS,zKu (by rw[zj];show (9:Int)≠0;decide),Comp.zB]
      rfl
     ·have hp:prt y (ln q)=(yg (gp y (ln q)),0):=by unfold prt;rw[zKv hn]
      have hs:=JL (l:=gp y (ln q));have hg:=lP (fs:=ln q) (rest:=y)
      obtain⟨r,h1,h2,h4⟩:=ih (zs++[y]) (out++yg (gp y (ln q))) (by rw[hx];simp) (by simp only[zKV];omega)
      refine⟨r,by rw[h1];conv=>rhs;unfold wo;rw[zKv ha,zKv hn],h2,?_⟩
      rw[hp]at oU;rw[zO,zKu (by rw[zH,zC];show (zs.length:Int)<_;omega),vR,zA,zQ hy,zKS,zA,ZQ,zKS,zKv ha,zA,zQ hy,zKS,zA,
       XD,zKS,zA,oU,zKS,zKv (by rw[zj];simp),zA,yP (by unfold LIM;show out.length+(yg (gp y (ln q))).length<=_;omega),zKS,Comp.zB,zKS,zL (by omega)]
      simpa using h4
  obtain⟨r,h1,h2,h4⟩:=key pieces [] [] rfl (by simp;omega)
  rw[zA];refine(zKl (fun o=>Option.bind o _) h4).trans ?_
  rw[zKS];unfold wth;rw[zKu hf,<-h1]
  cases r with
  |inl x =>
   simp only;by_cases kA:200<x.length
   ·rw[zKu (by rw[ya,zC];omega),zKu kA,Comp.zB]
   ·rw[zKv (by rw[ya,zC];omega),zKv kA,Comp.zB]
  |inr x =>
   rw[h2 x rfl];exact Comp.zB _
 ·rw[zKu (by simpa using hf),Comp.zB]
  unfold wth;rw[zKv hf]
theorem rf:∀(s:List Cell),Xb [] s=([],0)
 | []=>rfl
 |q::s=>by
  have h:wth [] q=([],0):=by
   unfold wth;split
   ·rfl
   ·rfl
  unfold Xb;rw[h];exact rf s
theorem C5(c:Cell)(s:List Cell):(jY c s).val=some ((mns c s).1,(mns c s).2,()):=by
 unfold jY mns;rw[zA,ju,zKS,vR];by_cases hc:chk c=0
 ·rw[zKu (by rw[yA];exact hc),zKu hc,zA,lv,zKS]
  by_cases hs:sck s=0
  ·have kA:s.length<=16:=by
    unfold sck at hs;split at hs
    ·cases hs
    ·omega
   show (if neI (sck s) 0=true then _ else _:Comp (List Cell×Int×Unit)).val=_
   rw[zKv (by rw[zj];simp[hs]),zKu hs,zA,YQ,zKS,vR]
   have key:∀(ys zs:List Cell) (pcs:List Cell),s=zs++ys->pcs.length<=200->∃r:List Cell⊕List Cell×Int,(match r with
     |.inl x=>(x,0)
     |.inr x =>
           x)=Xb pcs ys/\(Comp.loop
           (fun (x:List (List (Pln))×Int)=>if ltI x.2 (zF s)=true then
             (idx s x.2).bind fun x_1=>(Go.F.y7 x.1 x_1).bind fun x_2=>if neI x_2.2.1 0=true then Comp.pure (.done (Sum.inr ([],x_2.2.1)))
               else Comp.pure (.next (x_2.1,zJ .i64 x.2 1))
            else Comp.pure (.done (Sum.inl x.1))) (pcs,(zs.length:Int))).val=some r:=by
    intro ys
    induction ys with
    |nil =>
     intro zs pcs hx kA;refine⟨.inl pcs,rfl,?_⟩;rw[zO,zKv (by rw[zH,zC,hx];simp),Comp.zB];rfl
    |cons y ys ih =>
     intro zs pcs hx hlen';have hy:s[zs.length]?=some y:=by rw[hx];simp
     have gF:=zM hy;unfold Xb;by_cases he:(wth pcs y).2=0
     ·obtain⟨r,h1,h2⟩:=ih (zs++[y]) (wth pcs y).1 (by rw[hx];simp) (Ek hlen')
      refine⟨r,by rw[zKu he];exact h1,?_⟩
      rw[zO,zKu (by rw[zH,zC];show (zs.length:Int)<_;omega),zA,zQ hy,zKS,zA,J8 y hlen',zKS,zKv (by rw[zj];simp[he]),Comp.zB,zL (by omega),zKS]
      simpa using h2
     ·refine⟨.inr ([],(wth pcs y).2),by rw[zKv he],?_⟩
      rw[zO,zKu (by rw[zH,zC];show (zs.length:Int)<_;omega),zA,zQ hy,zKS,zA,J8 y hlen',zKS,zKu (by rw[zj];exact he),Comp.zB,zKS]
   have tail:∀pcs:List Cell,pcs.length<=200->((Comp.loop
            (fun (x:List (List (Pln))×Int)=>if ltI x.2 (zF s)=true then
              (idx s x.2).bind fun x_1=>(Go.F.y7 x.1 x_1).bind fun x_2=>if neI x_2.2.1 0=true then Comp.pure (.done (Sum.inr ([],x_2.2.1)))
                else Comp.pure (.next (x_2.1,zJ .i64 x.2 1))
             else Comp.pure (.done (Sum.inl x.1)))
            (pcs,0)).bind fun (x:List (List (Pln))⊕List (List (Pln))×Int)=>match x with
          |Sum.inl x=>(Comp.pure (x,0,()):Comp (List Cell×Int×Unit))
          |Sum.inr x=>Comp.pure (x.1,x.2,())).val=some ((Xb pcs s).1,(Xb pcs s).2,()):=by
    intro pcs hp;obtain⟨r,h1,h2⟩:=key s [] pcs rfl hp;rw[zA];refine(zKl (fun o=>Option.bind o _) h2).trans ?_
    rw[zKS,<-h1];cases r<;>exact Comp.zB _
   by_cases hf:ful c=true
   ·rw[zKu hf,zKu hf,zA,XD,zKS,zA,yP (by simp;unfold LIM;omega),zKS]
    exact tail [ln c] (by simp)
   ·rw[zKv hf,zKv hf]
    refine(tail [] (by simp)).trans ?_
    rw[rf]
  ·show (if neI (sck s) 0=true then _ else _:Comp (List Cell×Int×Unit)).val=_
   rw[zKu (by rw[zj];exact hs),zKv hs,Comp.zB]
 ·rw[zKv (by rw[yA];exact hc),zKv hc]
  show (if neI (chk c) 0=true then _ else _:Comp (List Cell×Int×Unit)).val=_
  rw[zKu (by rw[zj];exact hc),Comp.zB]
theorem l6(s:List Cell)(c:Cell):(vH s c).val=some ((cov s c).1,(cov s c).2,()):=by
 unfold vH cov;rw[zA,C5,zKS,Comp.zB,vg];unfold eqI;rw[zC]
 congr 3
 by_cases h:(mns c s).1.length=0
 ·simp[h]
 ·simp[h]
abbrev Part:=vF×List Cell×List Int×Unit
abbrev vG:=List Bool×List Bool×List Cell×Unit
abbrev Eff:=List Cell×List Cell×Int×List Int×Unit
abbrev Job:=Part×vG×List Eff×Unit
def j8(w:Int):Bool:=decide (w<1) || decide (3<w)
def Xu:List Cell->List Cell->Bool
 |_,[]=>true
 |seen,c::l=>ful c && (sap c seen && Xu (seen++[c]) l)
def ckP(p:Part):Int :=
 if p.2.1.length=0\/16<p.2.1.length then 2 else if p.2.2.1.length≠p.2.1.length\/p.2.2.1.any j8=true then 1 else bif Xu [] p.2.1 then 0 else 13
def Yd(p:Part)(x:vG):Bool:=(decide (x.1.length=p.2.1.length) && decide (x.2.1.length=p.2.1.length)) && (decide (x.2.2.1.length<=24) && decide (ja x.2.2.1=0))
theorem JO{c:Cell}{s:List Cell}:ja (c::s)=if chk c=0 then ja s else chk c:=rfl
theorem Yk{s:List Cell}:ja s=0↔∀c∈s,chk c=0:=by
 induction s with
 |nil=>simp[ja]
 |cons c s ih =>
  unfold ja;by_cases h:chk c=0
  ·rw[zKu h,ih]
   constructor
   ·intro h2 d hd
    rcases zKY.1 hd with rfl|hd
    ·exact h
    ·exact h2 d hd
   ·exact fun h2 d hd=>h2 d (zKe _ hd)
  ·rw[zKv h]
   exact⟨fun e=>zKk e h,fun h2=>zKk (h2 c (by simp)) h⟩
theorem KR{s t:List Cell}:ja (s++t)=if ja s=0 then ja t else ja s:=by
 induction s with
 |nil=>simp[ja]
 |cons c s ih =>
  rw[List.cons_append,JO,JO];by_cases h:chk c=0
  ·rw[zKu h,zKu h,ih]
  ·rw[zKv h,zKv h,zKv h]
theorem XS{s:List Cell}(hl:s.length<9223372036854775807):(yZ s).val=some (ja s,()):=by
 unfold yZ;obtain⟨r,h1,h2⟩:=mL (s:=s) hl
  (body:=(fun (x:Int)=>if ltI x (zF s)=true then
       (idx s x).bind fun x_1=>(Go.F.zZ x_1).bind fun x_2=>if neI x_2.1 0=true then Comp.pure (.done (Sum.inr x_2.1)) else Comp.pure (.next (zJ .i64 x 1))
      else Comp.pure (.done (Sum.inl ()))))
  (fun i c hc=>by
   have gF:=zM hc;rw[zKu (by rw[zH,zC];omega),zA,zQ hc,zKS,zA,ju,zKS,zL (by omega)]
   by_cases h:chk c=0
   ·rw[zKv (by rw[zj];simp[h]),zKu h,Comp.zB]
   ·rw[zKu (by rw[zj];exact h),zKv h,Comp.zB])
  (by rw[zKv (by rw[zH,zC];omega),Comp.zB])
 rw[zA];refine(zKl (fun o=>Option.bind o _) h2).trans ?_
 rw[zKS,<-h1];cases r<;>exact Comp.zB _
theorem UO{xs:List α}{k:Nat}(h:k<=xs.length):(sub xs 0 (k:Int)).val=some (xs.take k):=by
 rw[YK (by omega)];simp
theorem w6{p:Part}(hw:p.2.2.1.length<9223372036854775807):(Yr p).val=some (ckP p,()):=by
 unfold Yr ckP;by_cases h1:p.2.1.length=0\/16<p.2.1.length
 ·rw[zKu (by rw[jD,zKs,yA,ya,zC];omega),zKu h1,Comp.zB]
 ·rw[zKv (by rw[jD,zKs,yA,ya,zC];omega),zKv h1,zA]
  have hc:(zg p.2.2.1 fun z=>gI z.1).val=some (p.2.2.1.any j8,()) :=
   Zp (xs:=p.2.2.1) (f:=fun z=>gI z.1) (p:=j8) hw fun w _=>by
    show (gI w).val=_
    unfold gI;rw[Comp.zB,jD];rfl
  have dS:(Comp.loop
        (fun (x:Int)=>if ltI x (zF p.2.1)=true then
          (idx p.2.1 x).bind fun x_1=>(Go.F.j5 x_1).bind fun x_2=>(Comp.gd (ntB (ntB x_2.1)) (sub p.2.1 0 x) []).bind fun x_3=>(Comp.gd (ntB (ntB x_2.1)) (Go.F.jI x_1 x_3) (false,())).bind fun x_4=>if sel (ntB x_2.1) true (ntB x_4.1)=true then Comp.pure (.done (Sum.inr 13))
              else Comp.pure (.next (zJ .i64 x 1))
         else Comp.pure (.done (Sum.inl ():Unit⊕Int)))
        0).val=some (bif Xu [] p.2.1 then .inl () else .inr 13):=by
   have key:∀(ys zs:List Cell),p.2.1=zs++ys->(Comp.loop
        (fun (x:Int)=>if ltI x (zF p.2.1)=true then
          (idx p.2.1 x).bind fun x_1=>(Go.F.j5 x_1).bind fun x_2=>(Comp.gd (ntB (ntB x_2.1)) (sub p.2.1 0 x) []).bind fun x_3=>(Comp.gd (ntB (ntB x_2.1)) (Go.F.jI x_1 x_3) (false,())).bind fun x_4=>if sel (ntB x_2.1) true (ntB x_4.1)=true then Comp.pure (.done (Sum.inr 13))
              else Comp.pure (.next (zJ .i64 x 1))
         else Comp.pure (.done (Sum.inl ():Unit⊕Int))) (zs.length:Int)).val=some (bif Xu zs ys then .inl () else .inr 13):=by
    intro ys
    induction ys with
    |nil =>
     intro zs hx;rw[zO,zKv (by rw[zH,zC,hx];simp),Comp.zB];rfl
    |cons y ys ih =>
     intro zs hx;have hy:p.2.1[zs.length]?=some y:=by rw[hx];simp
     have gF:=zM hy;have ht:p.2.1.take zs.length=zs:=by rw[hx];simp
     rw[zO,zKu (by rw[zH,zC];omega),zA,zQ hy,zKS,zA,Za,zKS]
     unfold Xu
     cases hf:ful y with
     |false =>
      rw[zA];show Option.bind (Option.bind (Comp.pure _).val _) _=_
      rw[Comp.zB,zKS,zA];show Option.bind (Option.bind (Comp.pure _).val _) _=_
      rw[Comp.zB,zKS,zKu (by rfl),Comp.zB];rfl
     |true =>
      rw[zA];show Option.bind (Option.bind (sub p.2.1 0 (zs.length:Int)).val _) _=_
      rw[UO (by omega),zKS,ht,zA]
      show Option.bind (Option.bind (jI y zs).val _) _=_
      rw[XX y (by omega),zKS]
      cases ha:sap y zs with
      |false=>rw[zKu (by rfl),Comp.zB];rfl
      |true =>
       rw[zKv (by simp[sel,ntB]),Comp.zB,zL (by omega),zKS]
       simpa using ih (zs++[y]) (by rw[hx];simp)
   exact key p.2.1 [] rfl
  have bQ:∀b:Bool,((Comp.pure (bif b then Sum.inl () else Sum.inr 13):Comp (Unit⊕Int)).bind fun (x:Unit⊕Int)=>match x with
      |Sum.inl x=>(Comp.pure (0,()):Comp (Int×Unit))
      |Sum.inr x=>Comp.pure (x,())).val=some (bif b then 0 else 13,()):=fun b=>by
   cases b<;>(rw[zA,Comp.zB,zKS];exact Comp.zB _)
  by_cases h2:p.2.2.1.length≠p.2.1.length
  ·have e:neI (zF p.2.2.1) (zF p.2.1)=true:=by rw[zj,zC,zC];omega
   rw[e];show Option.bind (Comp.pure _).val _=_
   rw[Comp.zB,zKS,zKu (by rfl),Comp.zB,zKu (.inl h2)]
  ·have e:neI (zF p.2.2.1) (zF p.2.1)=false:=by unfold neI;rw[zKw];rw[zC,zC];omega
   rw[e];show Option.bind (zg p.2.2.1 fun z=>gI z.1).val _=_
   rw[hc,zKS];by_cases h3:p.2.2.1.any j8=true
   ·rw[zKu (by rw[h3];rfl),Comp.zB,zKu (.inr h3)]
   ·rw[zKv (by simpa[sel] using h3),zKv (by rintro(h|h);exact h2 h;exact h3 h),zA]
    refine(zKl (fun o=>Option.bind o _) dS).trans ?_
    rw[zKS];have:=bQ (Xu [] p.2.1)
    rw[zA,Comp.zB,zKS]at this;exact this
theorem Y7{p:Part}(hw:p.2.2.1.length<9223372036854775807):(gV p).val=some (ckP p,()):=by
 unfold gV ckP;by_cases h1:p.2.1.length=0\/16<p.2.1.length
 ·rw[zKu (by rw[jD,zKs,zH,ya,zC];omega),zKu h1,Comp.zB]
 ·rw[zKv (by rw[jD,zKs,zH,ya,zC];omega),zKv h1]
  by_cases h2:p.2.2.1.length≠p.2.1.length
  ·rw[zKu (by rw[zj,zC,zC];omega),Comp.zB,zKu (.inl h2)]
  ·rw[zKv (by rw[zj,zC,zC];omega)]
   have hw1:=Zq p.2.2.1 (fun w=>!j8 w) (c:=(Sum.inr 1:Unit⊕Int)) (d:=Sum.inl ())
    (body:=(fun (x:Int)=>if ltI x (zF p.2.2.1)=true then
         (idx p.2.2.1 x).bind fun x_1=>(Comp.gd (ntB (ltI x_1 1)) (idx p.2.2.1 x) (Int.ofNat 0)).bind fun x_2=>if sel (ltI x_1 1) true (gtI x_2 3)=true then Comp.pure (.done (Sum.inr 1))
           else Comp.pure (.next (zJ .i64 x 1))
        else Comp.pure (.done (Sum.inl ()))))
    (fun i w hx=>by
     have gF:=zM hx;rw[zKu (by rw[zH,zC];omega),zA,zQ hx,zKS,zA,QM,zQ hx,zL (by omega)]
     unfold j8;by_cases h1:w<1
     ·have:ltI w 1=true:=by rw[zH];exact h1
      simp[this,yQ,sel,h1]
     ·have:ltI w 1=false:=by unfold ltI;exact zKw h1
      by_cases h3:3<w
      ·have h4:gtI w 3=true:=by rw[ya];exact h3
       simp[this,yQ,sel,h1,h3,h4]
      ·have h4:gtI w 3=false:=by unfold gtI;exact zKw (by omega)
       simp[this,yQ,sel,h1,h3,h4])
    (by rw[zKv (by rw[zH,zC];omega),Comp.zB])
   have fE:(p.2.2.1.all fun w=>!j8 w) = !p.2.2.1.any j8:=by rw[List.all_eq_not_any_not];simp
   rw[fE]at hw1;rw[zA];refine(zKl (fun o=>Option.bind o _) hw1).trans ?_
   rw[zKS];by_cases h3:p.2.2.1.any j8=true
   ·rw[h3,zKu (.inr rfl)]
    exact Comp.zB _
   ·have h3':p.2.2.1.any j8=false:=by simpa using h3
    rw[h3',zKv (by rintro(h|h);exact h2 h;cases h)]
    have inner:∀(k:Nat) (c:Cell),p.2.1[k]?=some c->(Comp.loop
                 (fun (x_3:Int)=>if ltI x_3 (k:Int)=true then
                   (idx p.2.1 x_3).bind fun x_4=>(idx p.2.1 (k:Int)).bind fun x=>(Go.F.zb x_4 x).bind fun x=>if ntB x.1=true then Comp.pure (.done (Sum.inr 13))
                      else Comp.pure (.next (zJ .i64 x_3 1))
                  else Comp.pure (.done (Sum.inl ():Unit⊕Int)))
                 0).val=some (bif sap c (p.2.1.take k) then .inl () else .inr 13):=by
     intro k c hc;have hk:=zM hc
     have h5:=Zq (p.2.1.take k) (fun q=>apa c q) (c:=(Sum.inr 13:Unit⊕Int)) (d:=Sum.inl ())
      (body:=(fun (x_3:Int)=>if ltI x_3 (k:Int)=true then
                   (idx p.2.1 x_3).bind fun x_4=>(idx p.2.1 (k:Int)).bind fun x=>(Go.F.zb x_4 x).bind fun x=>if ntB x.1=true then Comp.pure (.done (Sum.inr 13))
                      else Comp.pure (.next (zJ .i64 x_3 1))
                  else Comp.pure (.done (Sum.inl ():Unit⊕Int))))
      (fun i q hq=>by
       have hi:=zM hq;rw[zKp]at hi;have hq':p.2.1[i]?=some q:=by rw[<-hq,List.getElem?_take_of_lt (by omega)]
       rw[zKu (by rw[zH];omega),zA,zQ hq',zKS,zA,zQ hc,zKS,zA,ZQ,zKS,yQ,QF q c,zL (by omega)]
       cases apa c q<;>exact Comp.zB _)
      (by rw[zKv (by rw[zH,zKp];omega),Comp.zB])
     exact h5
    have key:∀(ys zs:List Cell),p.2.1=zs++ys->(Comp.loop
         (fun (x:Int)=>if ltI x (zF p.2.1)=true then
           (idx p.2.1 x).bind fun x_1=>(Go.F.z6 x_1).bind fun x_2=>if ntB x_2.1=true then Comp.pure (.done (Sum.inr 13))
             else
              (Comp.loop
                 (fun (x_3:Int)=>if ltI x_3 x=true then
                   (idx p.2.1 x_3).bind fun x_4=>(idx p.2.1 x).bind fun x=>(Go.F.zb x_4 x).bind fun x=>if ntB x.1=true then Comp.pure (.done (Sum.inr 13))
                      else Comp.pure (.next (zJ .i64 x_3 1))
                  else Comp.pure (.done (Sum.inl ())))
                 0).bind fun (x_3:Unit⊕Int)=>match x_3 with
               |Sum.inl x_4=>Comp.pure (.next (zJ .i64 x 1))
               |Sum.inr x=>Comp.pure (.done (Sum.inr x))
          else Comp.pure (.done (Sum.inl ():Unit⊕Int))) (zs.length:Int)).val=some (bif Xu zs ys then .inl () else .inr 13):=by
     intro ys
     induction ys with
     |nil =>
      intro zs hx;rw[zO,zKv (by rw[zH,zC,hx];simp),Comp.zB];rfl
     |cons y ys ih =>
      intro zs hx;have hy:p.2.1[zs.length]?=some y:=by rw[hx];simp
      have gF:=zM hy;have ht:p.2.1.take zs.length=zs:=by rw[hx];simp
      rw[zO,zKu (by rw[zH,zC];omega),zA,zQ hy,zKS,zA,YQ,zKS,yQ]
      unfold Xu
      cases hf:ful y with
      |false=>rw[zKu (by simp),Comp.zB];rfl
      |true =>
       rw[zKv (by simp),zA]
       have h6:=inner zs.length y hy;rw[ht]at h6;refine(zKl (fun o=>Option.bind (Option.bind o _) _) h6).trans ?_
       cases ha:sap y zs with
       |false=>rw[zKS];exact(zKl (fun o=>Option.bind o _) (Comp.zB _)).trans rfl
       |true =>
        rw[zKS];refine(zKl (fun o=>Option.bind o _) (Comp.zB _)).trans ?_
        rw[zKS,zL (by omega)]
        simpa using ih (zs++[y]) (by rw[hx];simp)
    have h7:=key p.2.1 [] rfl;show (Comp.bind (Comp.loop _ _) _).val=_
    rw[zA];refine(zKl (fun o=>Option.bind o _) h7).trans ?_
    rw[zKS];cases Xu [] p.2.1<;>exact Comp.zB _
theorem Gf{xs:List α}{ys:List β}:eqI (zF xs) (zF ys)=decide (xs.length=ys.length):=by
 rw[Bool.eq_iff_iff,yA,decide_eq_true_iff,zC,zC];omega
theorem VL{xs:List α}{n:Nat}:leI (zF xs) (n:Int)=decide (xs.length<=n):=by
 rw[Bool.eq_iff_iff,SD,decide_eq_true_iff,zC];omega
theorem Bc(p:Part)(x:vG):sel (sel (eqI (zF x.1) (zF p.2.1)) (eqI (zF x.2.1) (zF p.2.1)) false) (leI (zF x.2.2.1) 24) false=((decide (x.1.length=p.2.1.length) && decide (x.2.1.length=p.2.1.length)) && decide (x.2.2.1.length<=24)):=by
 rw[vg,vg,Gf,Gf,show (24:Int)=((24:Nat):Int) from rfl,VL]
theorem Bf(p:Part)(x:vG):Yd p x=(((decide (x.1.length=p.2.1.length) && decide (x.2.1.length=p.2.1.length)) && decide (x.2.2.1.length<=24)) && decide (ja x.2.2.1=0)):=by
 unfold Yd;rw[Bool.and_assoc (decide (x.1.length=p.2.1.length) && decide (x.2.1.length=p.2.1.length))]
theorem q8(p:Part)(x:vG):(JM p x).val=some (Yd p x,()):=by
 unfold JM;rw[Bc,Bf,zA]
 cases hb:((decide (x.1.length=p.2.1.length) && decide (x.2.1.length=p.2.1.length)) && decide (x.2.2.1.length<=24)) with
 |false =>
  show Option.bind (Comp.pure _).val _=_
  rw[Comp.zB,zKS,Comp.zB];rfl
 |true =>
  have hl:x.2.2.1.length<=24:=by
   rw[zKU]at hb;simpa using hb.2
  have h1:(zI x.2.2.1 fun z=>jM z.1).val=some (x.2.2.1.any fun c=>decide (chk c≠0),()) :=
   Zp (xs:=x.2.2.1) (f:=fun z=>jM z.1) (p:=fun c=>decide (chk c≠0)) (by omega) fun c _=>by
    show (jM c).val=_
    unfold jM;rw[zA,jo,zKS,Comp.zB];rfl
  show Option.bind (zI x.2.2.1 fun z=>jM z.1).val _=_
  rw[h1,zKS,Comp.zB,vg,Bool.true_and,Bool.true_and,yQ]
  congr 2
  by_cases h:ja x.2.2.1=0
  ·rw[zKx h]
   have:=Yk.1 h;rw[Bool.not_eq_true',List.any_eq_false];intro c hc;simp[this c hc]
  ·rw[zKw h]
   simp only[Bool.not_eq_false',List.any_eq_true];rw[Yk]at h;simp only[Classical.not_forall]at h;obtain⟨c,hc,h2⟩:=h;exact⟨c,hc,by simpa using h2⟩
theorem rQ(p:Part)(x:vG):(gv p x).val=some (Yd p x,()):=by
 unfold gv;rw[Bc,Bf,zA]
 cases hb:((decide (x.1.length=p.2.1.length) && decide (x.2.1.length=p.2.1.length)) && decide (x.2.2.1.length<=24)) with
 |false =>
  show Option.bind (Comp.pure _).val _=_
  rw[Comp.zB,zKS,Comp.zB];rfl
 |true =>
  have hl:x.2.2.1.length<=24:=by
   rw[zKU]at hb;simpa using hb.2
  show Option.bind (yZ x.2.2.1).val _=_
  rw[XS (by omega),zKS,Comp.zB];rfl
def fit(p:Part)(x:vG):Int:=if ckP p=0 then bif Yd p x then 0 else 4 else ckP p
theorem K1{s:List Cell}(hl:s.length<=1000000)(hc:∀c∈s,c.length<=1000000):(gD s).val=some (s,()):=by
 unfold gD;have h1:=ZB s.length (fun k l=>match s[k]? with|some c=>l++[c]|none=>l) (fun k l=>l++s.drop k) (fun l k=>l.length=k)
  (body:=(fun (x:List (List (Pln))×Int)=>if ltI x.2 (zF s)=true then
       (idx s x.2).bind fun x_1=>(app [] x_1).bind fun zs=>(app x.1 [zs]).bind fun zs=>Comp.pure (Comp.Step.next (zs,zJ .i64 x.2 1))
      else Comp.pure (Comp.Step.done x.1)))
  (fun l k hk hI=>by
   obtain⟨c,hc'⟩:=zR (xs:=s) (k:=k) hk;have aP:=hc c (zKZ hc')
   refine⟨?_,by rw[hc'];simp[hI],by rw[drop_cons hc',hc'];simp⟩
   rw[hc'];simp only;rw[zKu (by rw[zH,zC];show (k:Int)<_;omega),zA,zQ hc',zKS,zA,yP (by simp;unfold LIM;omega),zKS,zA,yP (by simp only[zKX];unfold LIM;omega),zKS,Comp.zB,zL (by omega),List.nil_append])
  (fun l=>by rw[zKv (by rw[zH,zC];simp),Comp.zB]) (fun l=>by rw[List.drop_length];simp) 0 [] (Nat.zero_le _) rfl
 rw[zA];refine(zKl (fun o=>Option.bind o _) h1).trans ?_
 rw[zKS,Comp.zB];simp
def nr(s:List Cell)(c:Cell):List Cell:=s.filter fun z=>!apa z c
theorem C6{s:List Cell}(c:Cell)(hl:s.length<=1000000):(vd s c).val=some (nr s c,()):=by
 unfold vd;have h1:=ZB s.length (fun k l=>match s[k]? with|some z=>if (!apa z c)=true then l++[z] else l|none=>l) (fun k l=>l++nr (s.drop k) c) (fun l k=>l.length<=k)
  (body:=(fun (x:List (List (Pln))×Int)=>if ltI x.2 (zF s)=true then
       (idx s x.2).bind fun x_1=>(Go.F.zb x_1 c).bind fun x_2=>jn (fun (x_3:List (List (Pln)))=>Comp.pure (Comp.Step.next (x_3,zJ .i64 x.2 1)))
          fun (j :
            List (List (Pln))->Comp
              (Comp.Step (List (List (Pln))×Int) (List (List (Pln))))) =>
          if ntB x_2.1=true then
           (idx s x.2).bind fun x_3=>(app x.1 [x_3]).bind fun zs=>j zs
          else j x.1
      else Comp.pure (Comp.Step.done x.1)))
  (fun l k hk hI=>by
   obtain⟨z,hz⟩:=zR (xs:=s) (k:=k) hk;refine⟨?_,?_,?_⟩
   ·rw[hz]
    simp only;rw[zKu (by rw[zH,zC];show (k:Int)<_;omega),zA,zQ hz,zKS,zA,ZQ,zKS,vR,yQ]
    by_cases h:(!apa z c)=true
    ·rw[zKu h,zKu h,zA,zQ hz,zKS,zA,yP (by simp only[zKX];unfold LIM;omega),zKS,Comp.zB,zL (by omega)]
    ·rw[zKv h,zKv h,Comp.zB,zL (by omega)]
   ·rw[hz]
    simp only;split<;>first|omega|(simp;omega)
   ·rw[drop_cons hz,hz]
    unfold nr;by_cases h:(!apa z c)=true
    ·show _=(if (!apa z c)=true then l++[z] else l)++_
     rw[zKu h,List.filter_cons,zKu h];simp
    ·show _=(if (!apa z c)=true then l++[z] else l)++_
     rw[zKv h,List.filter_cons,zKv h])
  (fun l=>by rw[zKv (by rw[zH,zC];simp),Comp.zB]) (fun l=>by rw[List.drop_length];simp[nr]) 0 [] (Nat.zero_le _) (by simp)
 rw[zA];refine(zKl (fun o=>Option.bind o _) h1).trans ?_
 rw[zKS,Comp.zB];simp
def sur(all:List Cell)(c:Cell)(s:Bool):Bool:=bif s then true else (cov (nr all c) c).1
def tch(cuts touches:List Cell)(c:Cell)(t:Bool):Bool:=(t || !sap c cuts) || !sap c touches
def apE(all:List Cell):List Cell->List Bool->Int
 |c::C,s::S=>bif s then apE all C S else if (cov (nr all c) c).2=0 then apE all C S else (cov (nr all c) c).2
 |_,_=>0
def apS(all:List Cell)(C:List Cell)(S:List Bool):List Bool:=List.zipWith (sur all) C S
def apT(cuts touches:List Cell)(C:List Cell)(T:List Bool):List Bool:=List.zipWith (tch cuts touches) C T
def zP:vG:=([],[],[],())
def apl(p:Part)(x:vG)(cuts touches:List Cell):vG×Int :=
 if fit p x=0 then if ja (cuts++touches)=0 then if 24<x.2.2.1.length+cuts.length then (zP,2)
  else if apE (x.2.2.1++cuts) p.2.1 x.1=0 then ((apS (x.2.2.1++cuts) p.2.1 x.1,apT cuts touches p.2.1 x.2.1,x.2.2.1++cuts,()),0) else (zP,apE (x.2.2.1++cuts) p.2.1 x.1)
  else (zP,ja (cuts++touches)) else (zP,fit p x)
theorem UK{t a b:Bool}{A B:Comp (Bool×Unit)}(hA:A.val=some (a,()))(hB:B.val=some (b,()))(K:Bool->Comp β) :
  ((Comp.gd (ntB t) A (false,())).bind fun x6=>(Comp.gd (ntB (sel t true (ntB x6.1))) B (false,())).bind fun x7=>K (sel (sel t true (ntB x6.1)) true (ntB x7.1))).val=(K ((t || !a) || !b)).val:=by
 rw[zA]
 cases t with
 |true =>
  show Option.bind (Comp.pure _).val _=_
  rw[Comp.zB,zKS,zA];show Option.bind (Comp.pure _).val _=_
  rw[Comp.zB,zKS];rfl
 |false =>
  show Option.bind A.val _=_
  rw[hA,zKS,zA]
  cases a with
  |false =>
   show Option.bind (Comp.pure _).val _=_
   rw[Comp.zB,zKS];rfl
  |true =>
   show Option.bind B.val _=_
   rw[hB,zKS];rfl
theorem nA{f:α->β->γ}{l:List α}{m:List β}{k:Nat}{a:α}{b:β}(h1:l[k]?=some a)(h2:m[k]?=some b):(List.zipWith f l m)[k]?=some (f a b):=by
 rw[List.getElem?_zipWith,h1,h2]
theorem J6{p:Part}{x:vG}(hf:fit p x=0):ckP p=0/\Yd p x=true/\x.1.length=p.2.1.length/\x.2.1.length=p.2.1.length/\x.2.2.1.length<=24/\ja x.2.2.1=0/\p.2.1.length<=16/\p.2.2.1.length=p.2.1.length:=by
 have sU:ckP p=0:=by
  unfold fit at hf;split at hf
  ·assumption
  ·exact hf
 have cN:Yd p x=true:=by
  unfold fit at hf;rw[zKu sU]at hf
  cases h:Yd p x with
  |true=>rfl
  |false=>rw[h]at hf;cases hf
 have hfb':=cN;unfold Yd at cN;simp only[zKU,zKm]at cN;obtain⟨⟨f1,f2⟩,f3,f4⟩:=cN;have hck':=sU
 unfold ckP at sU;split at sU
 ·cases sU
 ·rename_i h
  split at sU
  ·cases sU
  ·rename_i h'
   exact⟨hck',hfb',f1,f2,f3,f4,by omega,by omega⟩
theorem C9{p:Part}{x:vG}{cuts touches:List Cell}(hw:p.2.2.1.length<9223372036854775807)(aP:cuts.length<=100000000)(cT:touches.length<=100000000):(jX p x cuts touches).val=some ((apl p x cuts touches).1,(apl p x cuts touches).2,()):=by
 unfold jX apl;rw[zA,Y7 hw,zKS];by_cases sU:ckP p=0
 ·rw[zKv (by rw[zj];simp[sU]),zA,rQ,zKS,yQ]
  cases cN:Yd p x with
  |false =>
   have hf:fit p x=4:=by unfold fit;rw[zKu sU,cN];rfl
   rw[zKu (by simp),zKv (by rw[hf];decide),hf,Comp.zB];rfl
  |true =>
   have hf:fit p x=0:=by unfold fit;rw[zKu sU,cN];rfl
   obtain⟨_,_,f1,f2,f3,f4,hn,hwn⟩:=J6 hf;rw[zKv (by simp),zKu hf,zA,XS (by omega),zKS,vR]
   have cO:zJ .i64 (zF x.2.2.1) (zF cuts)=((x.2.2.1.length+cuts.length:Nat):Int):=by rw[zC,zC,yh (by omega)];omega
   by_cases bE:ja cuts=0
   ·rw[zKu (by rw[yA];exact bE),zA,XS (by omega),zKS]
    have hE:ja (cuts++touches)=ja touches:=by rw[KR,zKu bE]
    rw[hE];show (if neI (ja touches) 0=true then _ else _:Comp (vG×Int×Unit)).val=_
    by_cases he:ja touches=0
    ·rw[zKv (by rw[zj];simp[he]),zKu he]
     by_cases dE:24<x.2.2.1.length+cuts.length
     ·rw[zKu (by rw[ya,cO];omega),zKu dE,Comp.zB];rfl
     ·rw[zKv (by rw[ya,cO];omega),zKv dE]
      have oV:∀c∈x.2.2.1,c.length<=1000000:=fun c hc=>by have:=(Ye (Yk.1 f4 c hc)).1;omega
      have oW:∀c∈cuts,c.length<=1000000:=fun c hc=>by have:=(Ye (Yk.1 bE c hc)).1;omega
      rw[zA,K1 (by omega) oV,zKS,zA,K1 (by omega) oW,zKS,zA,yP (by show x.2.2.1.length+cuts.length<=_;unfold LIM;omega),zKS]
      simp only;generalize fE:x.2.2.1++cuts=all;have sT:all.length<=24:=by rw[<-fE];simp;omega
      have hSl:(apS all p.2.1 x.1).length=x.1.length:=by unfold apS;rw[List.length_zipWith];omega
      have hTl:(apT cuts touches p.2.1 x.2.1).length=x.2.1.length:=by unfold apT;rw[List.length_zipWith];omega
      have key:∀(m k:Nat),k+m=p.2.1.length->(Comp.loop
                 (fun
                   (x_1 :
                    Int ×
                     (List Bool×List Bool×List (List (Pln))×Unit) ×
                      List Bool×List Bool×List (List (Pln))×Unit) =>
                  if ltI x_1.1 (zF p.2.1)=true then
                   (idx p.2.1 x_1.1).bind fun (x_2:List (Pln)) =>
                    (idx x.2.1 x_1.1).bind fun (x_3:Bool) =>
                     (Comp.gd (ntB x_3) (Go.F.yy x_2 cuts) (false,())).bind fun (x_4:Bool×Unit) =>
                      (Comp.gd (ntB (sel x_3 true (ntB x_4.1))) (Go.F.yy x_2 touches) (false,())).bind
                       fun (x_5:Bool×Unit) =>
                       (app x_1.2.2.2.1 [sel (sel x_3 true (ntB x_4.1)) true (ntB x_5.1)]).bind fun (zs:List Bool) =>
                        (idx x.1 x_1.1).bind fun (x_6:Bool) =>
                         jn
                          (fun (x_7:Bool×List Bool×List Bool×List (List (Pln))×Unit) =>
                           (app x_1.2.2.1 [x_7.1]).bind fun (zs_1:List Bool) =>
                            Comp.pure (Comp.Step.next (zJ .i64 x_1.1 1,x_7.2,zs_1,zs,x_1.2.2.2.2.1,())))
                          fun
                           (j :
                            Bool×List Bool×List Bool×List (List (Pln))×Unit ->
                             Comp
                              (Comp.Step
                               (Int ×
                                (List Bool×List Bool×List (List (Pln))×Unit) ×
                                 List Bool×List Bool×List (List (Pln))×Unit)
                               ((List Bool×List Bool×List (List (Pln))×Unit) ×
                                 List Bool×List Bool×List (List (Pln))×Unit ⊕
                                Int×List Bool×List Bool×List (List (Pln))×Unit))) =>
                          if ntB x_6=true then
                           (Go.F.vd x_1.2.2.2.2.1 x_2).bind
                            fun (y:List (List (Pln))×Unit) =>
                            (Go.F.vH y.1 x_2).bind fun (x_7:Bool×Int×Unit) =>
                             if neI x_7.2.1 0=true then Comp.pure (Comp.Step.done (Sum.inr (x_7.2.1,[],[],[],())))
                             else j (x_7.1,x_1.2.1)
                          else j (x_6,x_1.2.1)
                  else Comp.pure (Comp.Step.done (Sum.inl (x_1.2.1,x_1.2.2.1,x_1.2.2.2.1,x_1.2.2.2.2.1,()))))
              ((k:Int),zP,(apS all p.2.1 x.1).take k,(apT cuts touches p.2.1 x.2.1).take k,all,())).val =
        some (if apE all (p.2.1.drop k) (x.1.drop k)=0 then .inl (zP,apS all p.2.1 x.1,apT cuts touches p.2.1 x.2.1,all,()) else .inr (apE all (p.2.1.drop k) (x.1.drop k),zP)):=by
       intro m
       induction m with
       |zero =>
        intro k hk;rw[zO,zKv (by rw[zH,zC];show ¬((k:Int)<_);omega),Comp.zB,zKS]
        rw[List.drop_eq_nil_of_le (show p.2.1.length<=k by omega),List.drop_eq_nil_of_le (show x.1.length<=k by omega),List.take_of_length_le (by omega),List.take_of_length_le (by omega)]
        rfl
       |succ m ih =>
        intro k hk;obtain⟨c,hc⟩:=zR (xs:=p.2.1) (k:=k) (by omega)
        obtain⟨s,hs⟩:=zR (xs:=x.1) (k:=k) (by omega)
        obtain⟨t,ht⟩:=zR (xs:=x.2.1) (k:=k) (by omega)
        have gS:(apS all p.2.1 x.1)[k]?=some (sur all c s):=nA hc hs;have gT:(apT cuts touches p.2.1 x.2.1)[k]?=some (tch cuts touches c t):=nA hc ht
        have hT2:(apT cuts touches p.2.1 x.2.1).take k++[tch cuts touches c t]=(apT cuts touches p.2.1 x.2.1).take (k+1):=by rw[List.take_add_one,gT];rfl
        have hS2:∀v,sur all c s=v->(apS all p.2.1 x.1).take k++[v]=(apS all p.2.1 x.1).take (k+1):=fun v hv=>by rw[List.take_add_one,gS,hv];rfl
        have lT:((apT cuts touches p.2.1 x.2.1).take k).length<=16:=by rw[zKp];omega
        have lS:((apS all p.2.1 x.1).take k).length<=16:=by rw[zKp];omega
        rw[zO,zKu (by rw[zH,zC];show (k:Int)<_;omega),zA,zQ hc,zKS,zA,zQ ht,zKS]
        have hE:apE all (p.2.1.drop k) (x.1.drop k)=bif s then apE all (p.2.1.drop (k+1)) (x.1.drop (k+1)) else if (cov (nr all c) c).2=0 then apE all (p.2.1.drop (k+1)) (x.1.drop (k+1)) else (cov (nr all c) c).2:=by
         rw[drop_cons hc,drop_cons hs];rfl
        have hj:∀v zs,((app ((apS all p.2.1 x.1).take k) [v]).bind fun (zs_1:List Bool) =>
                            (Comp.pure (Comp.Step.next (zJ .i64 (k:Int) 1,zP,zs_1,zs,all,())):Comp (Comp.Step (Int×vG×vG) (vG×vG⊕Int×vG)))).val=some (.next (((k+1:Nat):Int),zP,(apS all p.2.1 x.1).take k++[v],zs,all,())):=fun v zs=>by
         rw[zA,yP (by simp only[zKX];unfold LIM;omega),zKS,Comp.zB,zL (by omega)]
        refine(zKl (fun o=>Option.bind o _) (UK (wO c (s:=cuts) (by omega)) (wO c (s:=touches) (by omega)) (fun tt =>
                       (app ((apT cuts touches p.2.1 x.2.1).take k) [tt]).bind fun (zs:List Bool) =>
                        (idx x.1 (k:Int)).bind fun (x_6:Bool) =>
                          if ntB x_6=true then
                           (Go.F.vd all c).bind
                            fun (y:List (List (Pln))×Unit) =>
                            (Go.F.vH y.1 c).bind fun (x_7:Bool×Int×Unit) =>
                             if neI x_7.2.1 0=true then Comp.pure (Comp.Step.done (Sum.inr (x_7.2.1,[],[],[],())))
                             else ((app ((apS all p.2.1 x.1).take k) [x_7.1]).bind fun (zs_1:List Bool) =>
                            (Comp.pure (Comp.Step.next (zJ .i64 (k:Int) 1,zP,zs_1,zs,all,())):Comp (Comp.Step (Int×vG×vG) (vG×vG⊕Int×vG))))
                          else ((app ((apS all p.2.1 x.1).take k) [x_6]).bind fun (zs_1:List Bool) =>
                            (Comp.pure (Comp.Step.next (zJ .i64 (k:Int) 1,zP,zs_1,zs,all,())):Comp (Comp.Step (Int×vG×vG) (vG×vG⊕Int×vG))))))).trans ?_
        rw[zA,yP (by simp only[zKX];unfold LIM;omega),zKS,show (apT cuts touches p.2.1 x.2.1).take k++[(t || !sap c cuts) || !sap c touches]=(apT cuts touches p.2.1 x.2.1).take (k+1) from hT2,zA,zQ hs,zKS,yQ]
        cases s with
        |true =>
         rw[zKv (by simp),hj,zKS,hS2 true rfl,hE]
         exact ih (k+1) (by omega)
        |false =>
         rw[zKu (by simp),zA,C6 c (by omega),zKS,zA,l6,zKS,hE]
         by_cases xT:(cov (nr all c) c).2=0
         ·rw[zKv (by rw[zj];simp[xT]),hj,zKS,hS2 (cov (nr all c) c).1 rfl,cond_false,zKu xT]
          exact ih (k+1) (by omega)
         ·rw[zKu (by rw[zj];exact xT),Comp.zB,zKS,cond_false,zKv xT,zKv xT]
          rfl
      have h0:=key p.2.1.length 0 (by omega)
      simp only[List.take_zero,List.drop_zero]at h0;rw[zA];refine(zKl (fun o=>Option.bind o _) h0).trans ?_
      rw[zKS];by_cases hE0:apE all p.2.1 x.1=0
      ·rw[zKu hE0,zKu hE0];exact Comp.zB _
      ·rw[zKv hE0,zKv hE0];exact Comp.zB _
    ·rw[zKu (by rw[zj];exact he),zKv he,Comp.zB];rfl
   ·have hE:ja (cuts++touches)=ja cuts:=by rw[KR,zKv bE]
    rw[zKv (by rw[yA];exact bE),hE,zKv bE]
    show (if neI (ja cuts) 0=true then _ else _:Comp (vG×Int×Unit)).val=_
    rw[zKu (by rw[zj];exact bE),Comp.zB];rfl
 ·have hf:fit p x=ckP p:=by unfold fit;rw[zKv sU]
  rw[zKu (by rw[zj];exact sU),hf,zKv sU,Comp.zB];rfl
def wt(p:Part)(k:Nat):Int:=p.2.2.1.getD k 0
def cl(p:Part)(k:Nat):Cell:=p.2.1.getD k []
theorem vY{xs:List α}{k:Nat}{z v:α}(h:xs[k]?=some v):xs.getD k z=v:=by rw[zKn,h];rfl
def Sv(a m:Nat)(g:Nat->Bool):Bool:=(List.range' a m).any g
theorem B4{body:Int->Comp (Comp.Step Int ε)}(g:Nat->Bool){c d:ε}:∀(m a:Nat),(∀(i:Nat),a<=i->i<a+m->(body (i:Int)).val=some (if g i=true then .done c else .next ((i+1:Nat):Int)))->(body ((a+m:Nat):Int)).val=some (.done d)->(Comp.loop body (a:Int)).val=some (bif Sv a m g then c else d)
 |0,a,hb,he=>by rw[zO];rw[Nat.add_zero]at he;rw[he];rfl
 |m+1,a,hb,he=>by
  have ih:=B4 g m (a+1) (fun i h1 h2=>hb i (by omega) (by omega)) (by rw[show a+1+m=a+(m+1) by omega];exact he)
  rw[zO,hb a (zKW _) (by omega)]
  unfold Sv;rw[List.range'_succ,List.any_cons]
  cases hg:g a with
  |true=>rfl
  |false=>exact ih
def rH(l:List Int):Bool:=!Sv 1 (l.length-1) fun k=>decide (l.getD k 0<=l.getD (k-1) 0)
theorem kx{l:List Int}(hl:l.length<=1000000):(jm l).val=some (rH l,()):=by
 unfold jm rH;have h1:=B4 (fun k=>decide (l.getD k 0<=l.getD (k-1) 0)) (c:=(Sum.inr false:Unit⊕Bool)) (d:=Sum.inl ()) (body:=(fun (x:Int)=>if ltI x (zF l)=true then
       (idx l x).bind fun x_1=>(idx l (gj .i64 x 1)).bind fun x_2=>if leI x_1 x_2=true then Comp.pure (Comp.Step.done (Sum.inr false)) else Comp.pure (Comp.Step.next (zJ .i64 x 1))
      else Comp.pure (Comp.Step.done (Sum.inl ())))) (l.length-1) 1
  (fun k h1 h2=>by
   obtain⟨a,ha⟩:=zR (xs:=l) (k:=k) (by omega)
   obtain⟨b,hb⟩:=zR (xs:=l) (k:=k-1) (by omega)
   have hi:(idx l (gj .i64 (k:Int) 1)).val=some b:=by
    rw[YE (by omega),show (k:Int)-1=((k-1:Nat):Int) by omega];exact zQ hb
   rw[zKu (by rw[zH,zC];omega),zA,zQ ha,zKS,zA,hi,zKS,vY ha,vY hb,zL (by omega)]
   by_cases h:a<=b
   ·rw[zKu (by rw[SD];exact h),zKu (by simpa using h),Comp.zB]
   ·rw[zKv (by rw[SD];exact h),zKv (by simpa using h),Comp.zB])
  (by rw[zKv (by rw[zH,zC];omega),Comp.zB])
 rw[zA];refine(zKl (fun o=>Option.bind o _) h1).trans ?_
 rw[zKS];cases Sv 1 (l.length-1) fun k=>decide (l.getD k 0<=l.getD (k-1) 0)<;>exact Comp.zB _
theorem uw{l:List Int}(hl:l.length<=1000000):(jT l).val=some (rH l,()):=kx hl
def wz(n k:Nat)(x:Int):Bool:=(decide (x<0) || decide ((n:Int)<=x)) || decide (x=(k:Int))
def eE(n k:Nat)(x:Eff):Int:=if ja (x.1++x.2.1)=0 then if x.2.2.1<1\/1048576<x.2.2.1 then 3 else bif x.2.2.2.1.any (wz n k) then 3 else bif rH x.2.2.2.1 then 0 else 7 else ja (x.1++x.2.1)
def SmE(x:Eff):Prop:=x.1.length<=100000/\x.2.1.length<=100000/\x.2.2.2.1.length<=100000
theorem BW{s:List Cell}{body:Int->Comp (Comp.Step Int (Unit⊕Int))}(hb:∀(i:Nat) c,s[i]?=some c->(body (i:Int)).val=some (if chk c=0 then .next ((i+1:Nat):Int) else .done (.inr (chk c))))(he:(body (s.length:Int)).val=some (.done (.inl ()))) :
  (Comp.loop body 0).val=some (if ja s=0 then .inl () else .inr (ja s)):=by
 have key:∀(ys zs:List Cell),s=zs++ys->(Comp.loop body (zs.length:Int)).val=some (if ja ys=0 then .inl () else .inr (ja ys)):=by
  intro ys
  induction ys with
  |nil =>
   intro zs hx;rw[zO,show zs.length=s.length by rw[hx];simp,he];rfl
  |cons y ys ih =>
   intro zs hx;have hy:s[zs.length]?=some y:=by rw[hx];simp
   rw[JO];by_cases h:chk y=0
   ·rw[zKu h,zO,hb _ _ hy,zKu h,zKS]
    simpa using ih (zs++[y]) (by rw[hx];simp)
   ·rw[zKv h,zKv h,zO,hb _ _ hy,zKv h,zKS]
 exact key s [] rfl
theorem wX{n k:Nat}{x:Eff}(hs:SmE x)(hn:n<=100000){ln0:Int}(hl:ln0=(n:Int)){inc:List Int->Comp (Bool×Unit)}(hinc:∀l,l.length<=1000000->(inc l).val=some (rH l,())){body:Int->Comp (Comp.Step Int (Unit⊕Int))}
  (hb:∀(i:Nat) w,x.2.2.2.1[i]?=some w->(body (i:Int)).val=some (if wz n k w=true then .done (.inr 3) else .next ((i+1:Nat):Int))) (he:(body (x.2.2.2.1.length:Int)).val=some (.done (.inl ()))) :
  (if sel (ltI x.2.2.1 1) true (gtI x.2.2.1 1048576)=true then Comp.pure (3,())
      else
       (Comp.loop body 0).bind fun (x_3:Unit⊕Int)=>match x_3 with
        |Sum.inl x_4 =>
         (inc x.2.2.2.1).bind fun x=>if ntB x.1=true then Comp.pure (7,()) else (Comp.pure (0,()):Comp (Int×Unit))
        |Sum.inr x=>Comp.pure (x,())).val=some (if x.2.2.1<1\/1048576<x.2.2.1 then 3 else bif x.2.2.2.1.any (wz n k) then 3 else bif rH x.2.2.2.1 then 0 else 7,()):=by
 obtain⟨s1,s2,s3⟩:=hs;by_cases hc:x.2.2.1<1\/1048576<x.2.2.1
 ·rw[zKu (by rw[jD,zKs,zH,ya];exact hc),zKu hc,Comp.zB]
 ·rw[zKv (by rw[jD,zKs,zH,ya];exact hc),zKv hc,zA]
  have h1:=Zq x.2.2.2.1 (fun w=>!wz n k w) (c:=(Sum.inr 3:Unit⊕Int)) (d:=Sum.inl ()) (body:=body)
   (fun i w hw=>by rw[hb i w hw];cases wz n k w<;>rfl) he
  have fE:(x.2.2.2.1.all fun w=>!wz n k w) = !x.2.2.2.1.any (wz n k):=by rw[List.all_eq_not_any_not];simp
  rw[fE]at h1;refine(zKl (fun o=>Option.bind o _) h1).trans ?_
  rw[zKS]
  cases x.2.2.2.1.any (wz n k) with
  |true=>exact Comp.zB _
  |false =>
   show ((inc x.2.2.2.1).bind fun x=>if ntB x.1=true then Comp.pure (7,()) else (Comp.pure (0,()):Comp (Int×Unit))).val=_
   rw[zA,hinc _ (by omega),zKS]
   cases rH x.2.2.2.1<;>exact Comp.zB _
theorem DV{L:List Eff}{k:Nat}{x:Eff}(hx:L[k]?=some x)(hs:SmE x)(hL:L.length<=100000):(Zf L (k:Int)).val=some (eE L.length k x,()):=by
 have hs':=hs;obtain⟨s1,s2,s3⟩:=hs;unfold Zf eE;have oT:(yS [x.1,x.2.1]).val=some (x.1++x.2.1,()):=by
  have:=mV (z:=([]:Cell)) (xs:=[x.1,x.2.1]) (by simp;unfold LIM;omega) (by simp)
  simp only[List.flatten_cons,List.flatten_nil,List.append_nil]at this;exact this
 rw[zA,zQ hx,zKS,zA,oT,zKS];simp only;generalize fE:x.1++x.2.1=all;have sT:all.length<=200000:=by rw[<-fE];simp;omega
 have h2:=BW (s:=all)
  (body:=(fun (x_1:Int)=>if ltI x_1 (zF all)=true then
         (idx all x_1).bind fun x=>(Go.F.gm x).bind fun x=>if neI x.1 0=true then Comp.pure (Comp.Step.done (Sum.inr x.1)) else Comp.pure (Comp.Step.next (zJ .i64 x_1 1))
        else Comp.pure (Comp.Step.done (Sum.inl ()))))
  (fun i c hc=>by
   have gF:=zM hc;rw[zKu (by rw[zH,zC];omega),zA,zQ hc,zKS,zA,jo,zKS,zL (by omega)]
   by_cases h:chk c=0
   ·rw[zKv (by rw[zj];simp[h]),zKu h,Comp.zB]
   ·rw[zKu (by rw[zj];exact h),zKv h,Comp.zB])
  (by rw[zKv (by rw[zH,zC];omega),Comp.zB])
 rw[zA];refine(zKl (fun o=>Option.bind o _) h2).trans ?_
 rw[zKS];by_cases h0:ja all=0
 ·rw[zKu h0,zKu h0]
  refine wX (n:=L.length) (k:=k) hs' hL (ln0:=zF L) rfl (fun l hl=>kx hl) (fun i w hw=>?_) ?_
  ·have gF:=zM hw
   rw[zKu (by rw[zH,zC];omega),zA,zQ hw,zKS,zL (by omega)]
   have e:sel (sel (ltI w 0) true (geI w (zF L))) true (eqI w (k:Int))=wz L.length k w:=by rw[jD,jD];rfl
   rw[e];cases wz L.length k w<;>exact Comp.zB _
  ·rw[zKv (by rw[zH,zC];omega),Comp.zB]
 ·rw[zKv h0,zKv h0];exact Comp.zB _
theorem lz{L:List Eff}{k:Nat}{x:Eff}(hx:L[k]?=some x)(hs:SmE x)(hL:L.length<=100000):(gE L (k:Int)).val=some (eE L.length k x,()):=by
 have hs':=hs;obtain⟨s1,s2,s3⟩:=hs;unfold gE eE;rw[zA,zQ hx,zKS,zA,yP (by simp;unfold LIM;omega),zKS,zA,yP (by simp;unfold LIM;omega),zKS]
 simp only[List.nil_append];generalize fE:x.1++x.2.1=all;have sT:all.length<=200000:=by rw[<-fE];simp;omega
 have h2:=BW (s:=all)
  (body:=(fun (x_1:Int)=>if ltI x_1 (zF all)=true then
         (idx all x_1).bind fun x=>(Go.F.zZ x).bind fun x=>if neI x.1 0=true then Comp.pure (Comp.Step.done (Sum.inr x.1)) else Comp.pure (Comp.Step.next (zJ .i64 x_1 1))
        else Comp.pure (Comp.Step.done (Sum.inl ()))))
  (fun i c hc=>by
   have gF:=zM hc;rw[zKu (by rw[zH,zC];omega),zA,zQ hc,zKS,zA,ju,zKS,zL (by omega)]
   by_cases h:chk c=0
   ·rw[zKv (by rw[zj];simp[h]),zKu h,Comp.zB]
   ·rw[zKu (by rw[zj];exact h),zKv h,Comp.zB])
  (by rw[zKv (by rw[zH,zC];omega),Comp.zB])
 rw[zA];refine(zKl (fun o=>Option.bind o _) h2).trans ?_
 rw[zKS];by_cases h0:ja all=0
 ·rw[zKu h0,zKu h0]
  refine wX (n:=L.length) (k:=k) hs' hL (ln0:=zF L) rfl (fun l hl=>uw hl) (fun i w hw=>?_) ?_
  ·have gF:=zM hw
   rw[zKu (by rw[zH,zC];omega),zA,zQ hw,zKS,zL (by omega)]
   have e:wz L.length k w=((ltI w 0 || geI w (zF L)) || eqI w (k:Int)):=rfl
   rw[e]
   cases h1:ltI w 0 with
   |true =>
    rw[zA];show Option.bind (Comp.pure _).val _=_
    rw[Comp.zB,zKS,zA];show Option.bind (Comp.pure _).val _=_
    rw[Comp.zB,zKS];exact Comp.zB _
   |false =>
    rw[zA];show Option.bind (idx x.2.2.2.1 (i:Int)).val _=_
    rw[zQ hw,zKS,zA]
    cases h2:geI w (zF L) with
    |true =>
     show Option.bind (Comp.pure _).val _=_
     rw[Comp.zB,zKS];exact Comp.zB _
    |false =>
     show Option.bind (idx x.2.2.2.1 (i:Int)).val _=_
     rw[zQ hw,zKS];cases eqI w (k:Int)<;>exact Comp.zB _
  ·rw[zKv (by rw[zH,zC];omega),Comp.zB]
 ·rw[zKv h0,zKv h0];exact Comp.zB _
def efs(n:Nat):List Eff->Nat->Int
 | [],_=>0
 |x::l,k=>if eE n k x=0 then efs n l (k+1) else eE n k x
def Xd(L:List Eff):Nat:=(L.map fun x=>x.1.length).sum
def ckJ(j:Job):Int:=if fit j.1 j.2.1=0 then if 8<j.2.2.1.length then 2 else if efs j.2.2.1.length j.2.2.1 0=0 then if 24<j.2.1.2.2.1.length+Xd j.2.2.1 then 2 else 0 else efs j.2.2.1.length j.2.2.1 0 else fit j.1 j.2.1
theorem gK{j:Job}(hw:j.1.2.2.1.length<9223372036854775807)(hs:∀x∈j.2.2.1,SmE x):(kS j).val=some (ckJ j,()):=by
 unfold kS ckJ;rw[zA,w6 hw,zKS];by_cases sU:ckP j.1=0
 ·rw[zKv (by rw[zj];simp[sU]),zA,q8,zKS,yQ]
  cases cN:Yd j.1 j.2.1 with
  |false =>
   have hf:fit j.1 j.2.1=4:=by unfold fit;rw[zKu sU,cN];rfl
   rw[zKu (by simp),zKv (by rw[hf];decide),hf,Comp.zB]
  |true =>
   have hf:fit j.1 j.2.1=0:=by unfold fit;rw[zKu sU,cN];rfl
   obtain⟨_,_,f1,f2,f3,f4,hn,hwn⟩:=J6 hf;rw[zKv (by simp),zKu hf]
   by_cases h8:8<j.2.2.1.length
   ·rw[zKu (by rw[ya,zC];omega),zKu h8,Comp.zB]
   ·rw[zKv (by rw[ya,zC];omega),zKv h8]
    generalize hL:j.2.2.1=L at h8 hs;have key:∀(ys zs:List Eff) (c:Nat),L=zs++ys->c+ys.length * 100000<=10000000->(Comp.loop
          (fun (x:Int×Int)=>if ltI x.2 (zF L)=true then
            (idx L x.2).bind fun (x_1 :
               List (List (Pln))×List (List (Pln))×Int×List Int×Unit) =>
             (Go.F.Zf L x.2).bind fun x_2=>if neI x_2.1 0=true then Comp.pure (Comp.Step.done (Sum.inr x_2.1))
              else Comp.pure (Comp.Step.next (zJ .i64 x.1 (zF x_1.1),zJ .i64 x.2 1))
           else Comp.pure (Comp.Step.done (Sum.inl x.1:Int⊕Int))) ((c:Int),(zs.length:Int))).val=some (if efs L.length ys zs.length=0 then .inl ((c+Xd ys:Nat):Int) else .inr (efs L.length ys zs.length)):=by
     intro ys
     induction ys with
     |nil =>
      intro zs c hx _;rw[zO,zKv (by rw[zH,zC,hx];simp),Comp.zB];rfl
     |cons y ys ih =>
      intro zs c hx hc;have hy:L[zs.length]?=some y:=by rw[hx];simp
      have gF:=zM hy;have hsy:=hs y (zKZ hy)
      have hcy:=hsy.1;simp only[zKc]at hc;rw[zO,zKu (by rw[zH,zC];show (zs.length:Int)<_;omega),zA,zQ hy,zKS,zA,DV hy hsy (by omega),zKS]
      show _=some (if (if eE L.length zs.length y=0 then efs L.length ys (zs.length+1) else eE L.length zs.length y)=0 then _ else Sum.inr (if eE L.length zs.length y=0 then efs L.length ys (zs.length+1) else eE L.length zs.length y))
      by_cases he:eE L.length zs.length y=0
      ·rw[zKv (by rw[zj];simp[he]),zKu he,Comp.zB,zKS,zL (by omega)]
       have cO:zJ .i64 (c:Int) (zF y.1)=((c+y.1.length:Nat):Int):=by rw[zC,yh (by omega)];omega
       rw[cO];have:=ih (zs++[y]) (c+y.1.length) (by rw[hx];simp) (by omega)
       rw[show (zs++[y]).length=zs.length+1 by simp]at this
       rw[show c+Xd (y::ys)=c+y.1.length+Xd ys by unfold Xd;rw[List.map_cons,List.sum_cons];omega]
       exact this
      ·rw[zKu (by rw[zj];exact he),zKv he,zKv he,Comp.zB,zKS]
    have h0:=key L [] j.2.1.2.2.1.length rfl (by omega)
    rw[zA];refine(zKl (fun o=>Option.bind o _) h0).trans ?_
    rw[zKS];simp only[List.length_nil];by_cases he:efs L.length L 0=0
    ·rw[zKu he,zKu he]
     show (if gtI ((j.2.1.2.2.1.length+Xd L:Nat):Int) 24=true then _ else _:Comp (Int×Unit)).val=_
     by_cases dE:24<j.2.1.2.2.1.length+Xd L
     ·rw[zKu (by rw[ya];omega),zKu dE,Comp.zB]
     ·rw[zKv (by rw[ya];omega),zKv dE,Comp.zB]
    ·rw[zKv he,zKv he];exact Comp.zB _
 ·have hf:fit j.1 j.2.1=ckP j.1:=by unfold fit;rw[zKv sU]
  rw[zKu (by rw[zj];exact sU),hf,zKv sU,Comp.zB]
theorem w8{j:Job}(hw:j.1.2.2.1.length<9223372036854775807)(hs:∀x∈j.2.2.1,SmE x):(gU j).val=some (ckJ j,()):=by
 unfold gU ckJ;rw[zA,Y7 hw,zKS];by_cases sU:ckP j.1=0
 ·rw[zKv (by rw[zj];simp[sU]),zA,rQ,zKS,yQ]
  cases cN:Yd j.1 j.2.1 with
  |false =>
   have hf:fit j.1 j.2.1=4:=by unfold fit;rw[zKu sU,cN];rfl
   rw[zKu (by simp),zKv (by rw[hf];decide),hf,Comp.zB]
  |true =>
   have hf:fit j.1 j.2.1=0:=by unfold fit;rw[zKu sU,cN];rfl
   obtain⟨_,_,f1,f2,f3,f4,hn,hwn⟩:=J6 hf;rw[zKv (by simp),zKu hf]
   by_cases h8:8<j.2.2.1.length
   ·rw[zKu (by rw[ya,zC];omega),zKu h8,Comp.zB]
   ·rw[zKv (by rw[ya,zC];omega),zKv h8]
    generalize hL:j.2.2.1=L at h8 hs;have key:∀(ys zs:List Eff) (c:Nat),L=zs++ys->c+ys.length * 100000<=10000000->(Comp.loop
          (fun (x:Int×Int)=>if ltI x.2 (zF L)=true then
            (Go.F.gE L x.2).bind fun x_1=>if neI x_1.1 0=true then Comp.pure (Comp.Step.done (Sum.inr x_1.1))
             else
              (idx L x.2).bind fun (x_2 :
                 List (List (Pln))×List (List (Pln))×Int×List Int×Unit) =>
               Comp.pure (Comp.Step.next (zJ .i64 x.1 (zF x_2.1),zJ .i64 x.2 1))
           else Comp.pure (Comp.Step.done (Sum.inl x.1:Int⊕Int))) ((c:Int),(zs.length:Int))).val=some (if efs L.length ys zs.length=0 then .inl ((c+Xd ys:Nat):Int) else .inr (efs L.length ys zs.length)):=by
     intro ys
     induction ys with
     |nil =>
      intro zs c hx _;rw[zO,zKv (by rw[zH,zC,hx];simp),Comp.zB];rfl
     |cons y ys ih =>
      intro zs c hx hc;have hy:L[zs.length]?=some y:=by rw[hx];simp
      have gF:=zM hy;have hsy:=hs y (zKZ hy)
      have hcy:=hsy.1;simp only[zKc]at hc;rw[zO,zKu (by rw[zH,zC];show (zs.length:Int)<_;omega),zA,lz hy hsy (by omega),zKS]
      show _=some (if (if eE L.length zs.length y=0 then efs L.length ys (zs.length+1) else eE L.length zs.length y)=0 then _ else Sum.inr (if eE L.length zs.length y=0 then efs L.length ys (zs.length+1) else eE L.length zs.length y))
      by_cases he:eE L.length zs.length y=0
      ·rw[zKv (by rw[zj];simp[he]),zKu he,zA,zQ hy,zKS,Comp.zB,zKS,zL (by omega)]
       have cO:zJ .i64 (c:Int) (zF y.1)=((c+y.1.length:Nat):Int):=by rw[zC,yh (by omega)];omega
       rw[cO];have:=ih (zs++[y]) (c+y.1.length) (by rw[hx];simp) (by omega)
       rw[show (zs++[y]).length=zs.length+1 by simp]at this
       rw[show c+Xd (y::ys)=c+y.1.length+Xd ys by unfold Xd;rw[List.map_cons,List.sum_cons];omega]
       exact this
      ·rw[zKu (by rw[zj];exact he),zKv he,zKv he,Comp.zB,zKS]
    have h0:=key L [] j.2.1.2.2.1.length rfl (by omega)
    rw[zA];refine(zKl (fun o=>Option.bind o _) h0).trans ?_
    rw[zKS];simp only[List.length_nil];by_cases he:efs L.length L 0=0
    ·rw[zKu he,zKu he]
     show (if gtI ((j.2.1.2.2.1.length+Xd L:Nat):Int) 24=true then _ else _:Comp (Int×Unit)).val=_
     by_cases dE:24<j.2.1.2.2.1.length+Xd L
     ·rw[zKu (by rw[ya];omega),zKu dE,Comp.zB]
     ·rw[zKv (by rw[ya];omega),zKv dE,Comp.zB]
    ·rw[zKv he,zKv he];exact Comp.zB _
 ·have hf:fit j.1 j.2.1=ckP j.1:=by unfold fit;rw[zKv sU]
  rw[zKu (by rw[zj];exact sU),hf,zKv sU,Comp.zB]
def opn(L:List Eff)(k:Int):Eff:=L.getD k.toNat ([],[],0,[],())
theorem n5{L:List Eff}{k:Int}(h:0<=k/\k<L.length):(idx L k).val=some (opn L k):=by
 obtain⟨x,hx⟩:=zR (xs:=L) (k:=k.toNat) (by omega)
 rw[KQ h.1 hx];unfold opn;rw[vY hx]
structure SmJ(j:Job):Prop where
 w:j.1.2.2.1.length<9223372036854775807
 e:∀x∈j.2.2.1,SmE x
 n:j.2.2.1.length<=1000000
abbrev Drw:=List Int×Int×Unit
def DOk(n:Int)(d:Drw):Prop:=0<=d.2.1/\d.2.1<=n
theorem zCs{n m:Int}(hm:1<=m/\m<=1000000):Ok (zz n m) fun r=>0<=r.1/\r.1<m:=by
 unfold zz;rw[zKv (by rw[zH];omega),Ok.bind,Ok.rem (by omega),Ok.bind]
 have h1 : -m<n.tmod m/\n.tmod m<m:=by
  have:=Int.tmod_lt_of_pos n (show 0<m by omega)
  have h2 : -m<n.tmod m:=by
   rcases Int.le_total 0 n with hn|hn
   ·have:=Int.tmod_nonneg m hn;omega
   ·have h3:=Int.tmod_lt_of_pos (-n) (show 0<m by omega)
    rw[Int.neg_tmod]at h3;omega
  exact⟨h2,this⟩
 rw[yh (by omega),Ok.rem (by omega),Ok.pure]
 have h3:0<=n.tmod m+m:=by omega
 refine⟨?_,?_⟩
 ·show 0<=(n.tmod m+m).tmod m
  exact Int.tmod_nonneg m h3
 ·show (n.tmod m+m).tmod m<m
  exact Int.tmod_lt_of_pos _ (by omega)
theorem VB{d:Drw}{m k:Int}(hm:1<=m/\m<=1000000)(hk:0<=k/\k<=1000000000)(hd:DOk k d):Ok (zG d m) fun r=>DOk (k+1) r.1.1/\(0<=r.2.1/\r.2.1<m):=by
 obtain⟨h1,h2⟩:=hd;unfold zG;by_cases h:(zF d.1)<=d.2.1
 ·rw[zKu (by rw[YA];exact h),Ok.pure]
  refine⟨⟨h1,?_⟩,?_⟩
  ·show d.2.1<=k+1;omega
  ·show 0<=(0:Int)/\(0:Int)<m;omega
 ·rw[zC]at h
  rw[zKv (by rw[YA,zC];exact h),yh (by omega),YE (by omega),show d.2.1+1-1=d.2.1 by omega,Ok.bind]
  obtain⟨x,hx⟩:=zR (xs:=d.1) (k:=d.2.1.toNat) (by omega)
  rw[Ok.idx h1 hx,Ok.bind];refine(zCs hm).mono fun r hr=>?_
  rw[Ok.pure];refine⟨⟨?_,?_⟩,hr⟩
  ·show 0<=d.2.1+1;omega
  ·show d.2.1+1<=k+1;omega
theorem zDY(a b:V3):Ok (zq a b) fun r=>r.1.length=6:=by
 unfold zq;rw[Ok.pure];rfl
def j7(b n:Nat)(C:List Cell):Prop:=C.length<=n/\∀c∈C,c≠[]/\c.length<=b
abbrev uv:=j7 10
theorem j7.snoc{b n:Nat}{C:List Cell}{c:Cell}(h:j7 b n C)(hc:c≠[]/\c.length<=b):j7 b (n+1) (C++[c]) :=
by
  refine⟨?_,fun d hd=>?_⟩
  · rw[zKV,zKX];have:=h.1;omega
  · rcases zKd.1 hd with hd|hd
    · exact h.2 d hd
    · rw[List.mem_singleton.1 hd];exact hc
theorem j7.mono{b n m:Nat}{C:List Cell}(h:j7 b n C)(xQ:n<=m):j7 b m C:=⟨zKb h.1 xQ,h.2⟩
theorem j7.wide{b d n:Nat}{C:List Cell}(h:j7 b n C)(dA:b<=d):j7 d n C:=⟨h.1,fun c hc=>⟨(h.2 c hc).1,zKb (h.2 c hc).2 dA⟩⟩
theorem QV{c:Cell}(h:c.length=6):c≠[]/\c.length<=6:=by
 refine⟨fun e=>?_,?_⟩
 ·rw[e]at h;cases h
 ·omega
theorem yv{d:Drw}{m k:Int}{f:((Drw×Unit)×Int×Unit)->Comp α}{P:α->Prop}(hd:DOk k d)(hm:1<=m/\m<=1000000)(hk:0<=k/\k<=1000000000)
  (h:∀d' v,DOk (k+1) d'->0<=v->v<m->Ok (f ((d',()),v,())) P):Ok ((zG d m).bind f) P:=by
 rw[Ok.bind];exact(VB hm hk hd).mono fun r hr=>h r.1.1 r.2.1 hr.1 hr.2.1 hr.2.2
theorem gN{k:α->Comp β}{b:(α->Comp β)->Comp β}{P:β->Prop}(I:α->Prop)(hb:∀j,(∀x,I x->Ok (j x) P)->Ok (b j) P)(hk:∀x,I x->Ok (k x) P):Ok (jn k b) P:=hb k hk
theorem d0(x:List Int):DOk 0 (x,0,()):=by unfold DOk;show (0:Int)<=0/\(0:Int)<=0;omega
theorem Y9{xs:List β}{i:Int}{f:β->Comp α}{P:α->Prop}(h0:0<=i)(h1:i<xs.length)(h:∀x,x∈xs->Ok (f x) P):Ok ((idx xs i).bind f) P:=by
 obtain⟨x,hx⟩:=zR (xs:=xs) (k:=i.toNat) (by omega)
 rw[Ok.bind,Ok.idx h0 hx];exact h x (zKZ hx)
theorem qh:1000000<=LIM:=by decide
theorem yi{xs ys:List β}{f:List β->Comp α}{P:α->Prop}(hl:xs.length+ys.length<=1000000)(h:Ok (f (xs++ys)) P):Ok ((app xs ys).bind f) P:=by
 rw[Ok.bind,Ok.app (by have:=qh;omega)];exact h
theorem zDf{a b:V3}{f:Cell×Unit->Comp α}{P:α->Prop}(h:∀c:Cell,c.length=6->Ok (f (c,())) P):Ok ((zq a b).bind f) P:=by
 rw[Ok.bind];exact(zDY a b).mono fun r hr=>h r.1 hr
theorem V4{ys:Cell}{f:Cell->Comp α}{P:α->Prop}(hn:ys≠[])(hl:ys.length<=1000000)(h:Ok (f ys) P):Ok ((Wh ys).bind f) P:=by
 cases ys with
 |nil=>exact(hn rfl).elim
 |cons y ys =>
  show Ok ((app [] (y::ys)).bind f) P
  exact yi (by simpa using hl) h
theorem CK{a b:Bool}(h:sel a b false=true):a=true/\b=true:=by cases a<;>cases b<;>simp_all [sel]
def ZJ(p:Part):Prop:=uv 12 p.2.1/\p.2.1≠[]/\p.2.2.1.length=p.2.1.length
theorem Vc{x0:List (List Int)}{p:Part}(hp:ZJ p):Ok (vK x0 p) fun r=>r.1.length<=4:=by
 unfold vK;rw[Ok.bind];have hq:∀n:Nat,n<9223372036854775807->True:=fun _ _=>trivial
 refine(Ok.loop (fun s:List Cell×Int=>0<=s.2/\s.2<=4/\(s.1.length:Int)=s.2) (fun s=>(4-s.2).toNat) (P:=fun r=>r.length<=4) ?_ ?_).mono fun r hr=>?_
 ·exact⟨by show (0:Int)<=0;omega,by show (0:Int)<=4;omega,rfl⟩
 ·rintro⟨C,i⟩ ⟨h1,h2,h3⟩
  dsimp only at h1 h2 h3 |-
  have hl:0<p.2.1.length:=by cases hc:p.2.1 with
   |nil=>exact(hp.2.1 hc).elim
   |cons _ _=>simp
  have cU:=hp.1.1;split
  ·rename_i hc
   obtain⟨c1,c2⟩:=CK hc;rw[zH]at c1 c2;rw[zC]at c1;refine Y9 h1 c1 fun d hd=>?_
   refine yv (d0 d) (by decide) (by decide) fun d1 v1 e1 g1 g1'=>?_
   refine yv e1 (by rw[zC];omega) (by decide) fun d2 v2 e2 g2 g2'=>?_
   rw[zC]at g2';refine Y9 g2 g2' fun c hc=>?_
   obtain⟨k1,k2⟩:=hp.1.2 c hc;refine V4 k1 (by omega) ?_
   refine gN (fun x=>DOk 4 x.2) (fun j hj=>?_) fun x hx=>?_
   ·dsimp only
    split
    ·refine yv e2 (by decide) (by decide) fun d3 v3 e3 g3 g3'=>?_
     refine yv e3 (by decide) (by decide) fun d4 v4 e4 g4 g4'=>?_
     refine yi (by simp;omega) ?_
     exact hj _ e4
    ·exact hj _ ⟨e2.1,by have:=e2.2;show d2.2.1<=4;omega⟩
   ·refine gN (fun _=>True) (fun j hj=>?_) fun y _=>?_
    ·dsimp only
     split
     ·refine yv hx (by decide) (by decide) fun d3 v3 e3 g3 g3'=>?_
      refine yv e3 (by decide) (by decide) fun d4 v4 e4 g4 g4'=>?_
      refine yv e4 (by decide) (by decide) fun d5 v5 e5 g5 g5'=>?_
      refine yv e5 (by decide) (by decide) fun d6 v6 e6 g6 g6'=>?_
      refine yv e6 (by decide) (by decide) fun d7 v7 e7 g7 g7'=>?_
      refine yv e7 (by decide) (by decide) fun d8 v8 e8 g8 g8'=>?_
      exact zDf fun c _=>hj _ trivial
     ·exact hj _ trivial
    ·refine yi (by simp;omega) ?_
     rw[Ok.pure];dsimp only;rw[yh (by omega)]
     refine⟨⟨by omega,by omega,by rw[zKV,zKX];omega⟩,by omega⟩
  ·rw[Ok.pure];dsimp only;omega
 ·rw[Ok.pure];exact hr
def box(a b c d e f:Int):Cell:=[((1,0,0,()),d,()),((-1,0,0,()),-a,()),((0,1,0,()),e,()),((0,-1,0,()),-b,()),((0,0,1,()),f,()),((0,0,-1,()),-c,())]
theorem Gy{a b c d e f:Int}(h:((-1000<=a/\a<=1000) /\ -1000<=b/\b<=1000) /\ -1000<=c/\c<=1000):(zq (a,b,c,()) (d,e,f,())).val=some (box a b c d e f,()):=by
 unfold zq;rw[Comp.zB];have hn:∀x:Int, -1000<=x/\x<=1000->Yb .i64 x = -x:=fun x hx=>JV (by omega)
 simp only[hn a h.1.1,hn b h.1.2,hn c h.2];rfl
theorem zFk{p q r:Pln}(hp:okB p)(hq:okB q)(hr:okB r){x:Pnt}(h:mt p q r=some x):Bd 300000000000000 (x.1,x.2.1,x.2.2.1,())/\0<=x.2.2.2.1/\x.2.2.2.1<=600000000000:=by
 have hd:=Ea hp hq hr;obtain⟨n1,n2,n3⟩:=EP hp hq hr;unfold mt at h;split at h
 ·cases h
 ·rename_i fB
  cases h
  generalize det p q r=w at hd fB;generalize num p q r=v at n1 n2 n3;have hg:(0:Int)<=((Z1 v w:Nat):Int):=Int.natCast_nonneg _
  have t:∀ {a k:Int}, -k<=a/\a<=k -> -k<=a.tdiv ((Z1 v w:Nat):Int)/\a.tdiv ((Z1 v w:Nat):Int)<=k:=fun {a k} ha=>by
   have:=Eu (a:=a) (b:=((Z1 v w:Nat):Int));omega
  unfold mkP Bd;dsimp only;by_cases hw:w<0
  ·rw[zKu hw]
   refine⟨⟨t (by omega),t (by omega),t (by omega)⟩,Int.tdiv_nonneg (by omega) hg,(t (a := -w) (k:=600000000000) (by omega)).2⟩
  ·rw[zKv hw]
   exact⟨⟨t n1,t n2,t n3⟩,Int.tdiv_nonneg (by omega) hg,(t (a:=w) hd).2⟩
def Sep(a b:Cell):Prop:=∃p∈a,∃q∈b,(p.1.1+q.1.1=0/\p.1.2.1+q.1.2.1=0/\p.1.2.2.1+q.1.2.2.1=0)/\p.2.1+q.2.1<=0
theorem Sep.symm{a b:Cell}(h:Sep a b):Sep b a:=by
 obtain⟨p,hp,q,hq,h1,h2⟩:=h;exact⟨q,hq,p,hp,by omega,by omega⟩
theorem Sep.more{a b a' b':Cell}(h:Sep a b)(ha:∀p∈a,p∈a')(hb:∀p∈b,p∈b'):Sep a' b':=by
 obtain⟨p,hp,q,hq,h1⟩:=h;exact⟨p,ha p hp,q,hb q hq,h1⟩
theorem zAf{r:List Pln}(hr:∀p∈r,okB p){p q:Pln}(hp:p∈r)(hq:q∈r)(h:(p.1.1+q.1.1=0/\p.1.2.1+q.1.2.1=0/\p.1.2.2.1+q.1.2.2.1=0)/\p.2.1+q.2.1<=0):full r=false:=by
 unfold full;rw[List.all_eq_false];refine⟨p,hp,?_⟩;rw[Bool.not_eq_true,List.any_eq_false];intro x hx sS;rw[uk]at hx;obtain⟨hi,t,ht,hm⟩:=hx;obtain⟨t1,t2,t3⟩:=nI ht;obtain⟨⟨b1,b2,b3⟩,d1,d2⟩:=zFk (hr _ t1) (hr _ t2) (hr _ t3) hm;unfold ins at hi;rw[List.all_eq_true]at hi;have hq0:=hi q hq
 simp only[zKm]at hq0 sS;obtain⟨⟨p1,p2,p3⟩,pB⟩:=hr p hp;obtain⟨⟨q1,q2,q3⟩,qB⟩:=hr q hq;have m1:=vr p1 b1;have m2:=vr p2 b2;have m3:=vr p3 b3
 have m4:=vr (A:=2097152) (B:=600000000000) pB (b:=x.2.2.2.1) (by omega)
 have m5:=vr (A:=2097152) (B:=600000000000) qB (b:=x.2.2.2.1) (by omega)
 dsimp only at m1 m2 m3;have e1:q.1.1 * x.1 = -(p.1.1 * x.1):=by rw[show q.1.1 = -p.1.1 by omega,Int.neg_mul]
 have e2:q.1.2.1 * x.2.1 = -(p.1.2.1 * x.2.1):=by rw[show q.1.2.1 = -p.1.2.1 by omega,Int.neg_mul]
 have e3:q.1.2.2.1 * x.2.2.1 = -(p.1.2.2.1 * x.2.2.1):=by rw[show q.1.2.2.1 = -p.1.2.2.1 by omega,Int.neg_mul]
 have e4:(p.2.1+q.2.1) * x.2.2.2.1<=0:=Int.mul_nonpos_of_nonpos_of_nonneg (by omega) d1
 rw[Int.add_mul]at e4;unfold rm dt at hq0 sS;dsimp only at hq0 sS;rw[ml (by omega)]at sS
 rw[e1,e2,e3,ml (by omega)]at hq0
 omega
theorem Vv{a b:Cell}(h:Sep a b):apa a b=true:=by
 unfold apa;by_cases ha:chk a=0
 ·by_cases hb:chk b=0
  ·obtain⟨p,hp,q,hq,h1⟩:=h
   rw[zAf (r:=a++b++bx0) (fun z hz=>?_) (by simp[hp]) (by simp[hq]) h1]
   ·simp
   ·rcases zKd.1 hz with hz|hz
    ·rcases zKd.1 hz with hz|hz
     ·exact(Ye ha).2 z hz
     ·exact(Ye hb).2 z hz
    ·exact qx z hz
  ·simp[hb]
 ·simp[ha]
theorem Vq{a b c d e f:Int}(h1:(-100<=a/\a<=100) /\ -100<=b/\b<=100)(h2:(-100<=c/\c<=100) /\ -100<=d/\d<=100)(h3:(-100<=e/\e<=100) /\ -100<=f/\f<=100):chk (box a b c d e f)=0:=by
 rw[Ec];refine⟨by unfold box;simp,?_⟩
 have hv:∀x:Int, -100<=x/\x<=100->okv 2097152 x=true:=fun x hx=>by unfold okv;simp;omega
 have ax:∀v∈([(1,0,0,()),(-1,0,0,()),(0,1,0,()),(0, -1,0,()),(0,0,1,()),(0,0, -1,())]:List V3),okN v=true/\Jt v=1:=by decide +kernel
 rw[List.all_eq_true];intro p hp;have hp1:p.1∈([(1,0,0,()),(-1,0,0,()),(0,1,0,()),(0, -1,0,()),(0,0,1,()),(0,0, -1,())]:List V3)/\okv 2097152 p.2.1=true:=by
  unfold box at hp;simp only[zKY,List.not_mem_nil,or_false]at hp;rcases hp with rfl|rfl|rfl|rfl|rfl|rfl<;>exact⟨by simp,hv _ (by simp only;omega)⟩
 obtain⟨g1,g2⟩:=ax _ hp1.1;unfold okP;rw[g1,g2,hp1.2];rfl
theorem Vp{a b c d e f:Int}(h1:(-20<=a/\a<d)/\d<=20)(h2:(-20<=b/\b<e)/\e<=20)(h3:(-20<=c/\c<f)/\f<=20):ful (box a b c d e f)=true:=by
 unfold ful;rw[Vq (by omega) (by omega) (by omega),zKx rfl,Bool.true_and]
 have hw:∀n:Int, -1000<=n/\n<=1000->W n=n:=fun n hn=>ml (by omega)
 have k0:(a,b,c,1,())∈crn (box a b c d e f++bx0):=by
  rw[uk];refine⟨?_,(((-1,0,0,()),-a,()),((0,-1,0,()),-b,()),((0,0,-1,()),-c,())),by simp[box,tri,prs],?_⟩
  ·simp only[ins,box,bx0,List.cons_append,List.nil_append,List.all_cons,List.all_nil,Bool.and_true,zKU,zKm]
   simp only[rm,dt];refine⟨?_,?_,?_,?_,?_,?_,?_,?_,?_,?_,?_,?_⟩<;>(rw[hw _ (by omega)];omega)
  ·have e1:det ((-1,0,0,()),-a,()) ((0,-1,0,()),-b,()) ((0,0,-1,()),-c,()) = -1:=by simp[det,cr,dt]
   have e2:num ((-1,0,0,()),-a,()) ((0,-1,0,()),-b,()) ((0,0,-1,()),-c,())=(-a, -b, -c,()):=by simp[num,cr,sc,ad]
   unfold mt;rw[e1,e2,zKv (by decide)]
   simp[mkP,Z1]
 have k1:(d,e,f,1,())∈crn (box a b c d e f++bx0):=by
  rw[uk];refine⟨?_,(((1,0,0,()),d,()),((0,1,0,()),e,()),((0,0,1,()),f,())),by simp[box,tri,prs],?_⟩
  ·simp only[ins,box,bx0,List.cons_append,List.nil_append,List.all_cons,List.all_nil,Bool.and_true,zKU,zKm]
   simp only[rm,dt];refine⟨?_,?_,?_,?_,?_,?_,?_,?_,?_,?_,?_,?_⟩<;>(rw[hw _ (by omega)];omega)
  ·have e1:det ((1,0,0,()),d,()) ((0,1,0,()),e,()) ((0,0,1,()),f,())=1:=by simp[det,cr,dt]
   have e2:num ((1,0,0,()),d,()) ((0,1,0,()),e,()) ((0,0,1,()),f,())=(d,e,f,()):=by simp[num,cr,sc,ad]
   unfold mt;rw[e1,e2,zKv (by decide)]
   simp[mkP,Z1]
 unfold full;rw[List.all_eq_true];intro p hp;rw[List.any_eq_true];unfold box bx0 at hp;simp only[List.cons_append,List.nil_append,zKY,List.not_mem_nil,or_false]at hp;rcases hp with rfl|rfl|rfl|rfl|rfl|rfl|rfl|rfl|rfl|rfl|rfl|rfl
 case inl|inr.inr.inl|inr.inr.inr.inr.inl=>exact⟨_,k0,by rw[zKm];simp only[rm,dt];rw[hw _ (by omega)];omega⟩
 case inr.inl|inr.inr.inr.inl|inr.inr.inr.inr.inr.inl=>exact⟨_,k1,by rw[zKm];simp only[rm,dt];rw[hw _ (by omega)];omega⟩
 all_goals exact⟨_,k0,by rw[zKm];simp only[rm,dt];rw[hw _ (by omega)];omega⟩
structure Pws(C:List Cell):Prop where
 f:∀c∈C,ful c=true
 s:∀(i k:Nat) (c d:Cell),i≠k->C[i]?=some c->C[k]?=some d->Sep c d
theorem Pws.nil:Pws []:=⟨fun _ h=>(nomatch h),fun i k c d _ h=>by simp at h⟩
theorem Pws.snoc{C:List Cell}{c:Cell}(h:Pws C)(hc:ful c=true)(hs:∀d∈C,Sep d c):Pws (C++[c]):=by
 refine⟨fun d hd=>?_,fun i k x y eV hx hy=>?_⟩
 ·rcases zKd.1 hd with hd|hd
  ·exact h.f d hd
  ·rw[List.mem_singleton.1 hd];exact hc
 ·rw[List.getElem?_append]at hx hy
  split at hx
  ·split at hy
   ·exact h.s i k x y eV hx hy
   ·have hk:y=c:=by
     cases he:k-C.length with
     |zero=>rw[he]at hy;simpa using hy.symm
     |succ m=>rw[he]at hy;simp at hy
    subst hk;exact hs x (zKZ hx)
  ·have hk:i=C.length/\x=c:=by
    cases he:i-C.length with
    |zero=>rw[he]at hx;exact⟨by omega,by simpa using hx.symm⟩
    |succ m=>rw[he]at hx;simp at hx
   obtain⟨hi,rfl⟩:=hk;split at hy
   ·exact(hs y (zKZ hy)).symm
   ·cases he:k-C.length with
    |zero=>omega
    |succ m=>rw[he]at hy;simp at hy
theorem Pws.part{C:List Cell}{k:Nat}{c a b:Cell}(h:Pws C)(hk:C[k]?=some c)(ha:∀p∈c,p∈a)(hb:∀p∈c,p∈b)(fa:ful a=true)(fb:ful b=true)(hs:Sep a b):Pws (C.set k a++[b]):=by
 have bF:Pws (C.set k a):=by
  refine⟨fun d hd=>?_,fun i m x y mM hx hy=>?_⟩
  ·obtain⟨i,hi⟩:=List.mem_iff_getElem?.1 hd
   rw[List.getElem?_set]at hi;split at hi
   ·split at hi
    ·cases hi;exact fa
    ·cases hi
   ·exact h.f d (zKZ hi)
  ·rw[List.getElem?_set]at hx hy
   by_cases h1:k=i
   ·subst h1
    rw[zKu rfl]at hx;rw[zKv mM]at hy;split at hx
    ·cases hx;exact(h.s k m c y mM hk hy).more ha fun _ hp=>hp
    ·cases hx
   ·rw[zKv h1]at hx
    by_cases h2:k=m
    ·subst h2
     rw[zKu rfl]at hy;split at hy
     ·cases hy;exact(h.s i k x c mM hx hk).more (fun _ hp=>hp) ha
     ·cases hy
    ·rw[zKv h2]at hy;exact h.s i m x y mM hx hy
 refine bF.snoc fb fun d hd=>?_
 obtain⟨i,hi⟩:=List.mem_iff_getElem?.1 hd;rw[List.getElem?_set]at hi;split at hi
 ·split at hi
  ·cases hi;exact hs
  ·cases hi
 ·rename_i fB
  exact(h.s i k d c (fun e=>fB e.symm) hi hk).more (fun _ hp=>hp) hb
theorem Pws.all{C:List Cell}(h:Pws C):Xu [] C=true:=by
 have key:∀(l seen:List Cell),seen++l=C->Xu seen l=true:=by
  intro l
  induction l with
  |nil=>intro seen _;rfl
  |cons c l ih =>
   intro seen hC;have hc:C[seen.length]?=some c:=by rw[<-hC];simp
   unfold Xu;rw[h.f c (zKZ hc),ih (seen++[c]) (by rw[<-hC];simp)]
   have:sap c seen=true:=by
    unfold sap;rw[List.all_eq_true];intro d hd;obtain⟨i,hi⟩:=List.mem_iff_getElem?.1 hd;have gF:=zM hi
    exact Vv (h.s seen.length i c d (by omega) hc (by rw[<-hC,zKi gF];exact hi))
   rw[this];rfl
 exact key C [] rfl
theorem DOk.up{k n:Int}{d:Drw}(h:DOk k d)(hk:k<=n):DOk n d:=⟨h.1,by have:=h.2;omega⟩
theorem j7.set{b n:Nat}{C:List Cell}{c:Cell}(h:j7 b n C)(hc:c≠[]/\c.length<=b)(i:Int):j7 b n (vt C i c):=by
 unfold vt;refine⟨by rw[List.length_set];exact h.1,fun d hd=>?_⟩
 rcases List.mem_or_eq_of_mem_set hd with hd|hd
 ·exact h.2 d hd
 ·rw[hd];exact hc
theorem Nn{b:Int}(h : -1000<=b/\b<=1000):(vM ((0,1,1,()),b,())).val=some (((0, -1, -1,()), -b,()),()):=by
 unfold vM;have hs:(Z5 (0,0,0,()) (0,1,1,())).val=some ((0, -1, -1,()),()):=YJ (n:=5) (by kernel_rfl)
 rw[zA,hs,zKS,Comp.zB];have e:Yb .i64 b = -b:=JV (by omega)
 rw[e]
def Lft(X:Int)(C:List Cell):Prop:=∀c∈C,∃B,((1,0,0,()),B,())∈c/\B<=X
theorem NF(x0:List (List Int)):Ok (jx x0) fun r=>ZJ r.1/\ckP r.1=0:=by
 unfold jx;rw[Ok.bind];refine(Ok.loop (fun s:Int×List (List Int)=>0<=s.1/\s.1<=2/\s.2.length=2) (fun s=>(2-s.1).toNat) (P:=fun r=>r.length=2) ?_ ?_).mono fun L hL=>?_
 ·exact⟨by show (0:Int)<=0;omega,by show (0:Int)<=2;omega,rfl⟩
 ·rintro⟨i,L⟩ ⟨h1,h2,h3⟩
  dsimp only at h1 h2 h3 |-;split
  ·rename_i hc
   obtain⟨c1,c2⟩:=CK hc;rw[zH]at c1 c2;rw[zC]at c1;refine Y9 h1 c1 fun d hd=>?_
   rw[Ok.zK (vQ ⟨h1,by omega⟩),Ok.pure]
   dsimp only;rw[yh (by omega)]
   refine⟨⟨by omega,by omega,by unfold vt;rw[List.length_set];exact h3⟩,by omega⟩
  ·rw[Ok.pure];exact h3
 refine Y9 (by decide) (by rw[hL];decide) fun l0 _=>?_
 refine yv (d0 l0) (by decide) (by decide) fun d1 v1 e1 g1 g1'=>?_
 refine gN (fun x=>DOk 2 x.2) (fun j hj=>?_) fun x hx=>?_
 ·dsimp only
  refine yv e1 (by decide) (by decide) fun d2 v2 e2 g2 g2'=>?_
  dsimp only;split
  ·exact hj _ e2
  ·exact hj _ e2
 dsimp only;refine yv hx (by decide) (by decide) fun d2 v2 e2 g2 g2'=>?_
 refine yv e2 (by decide) (by decide) fun d3 v3 e3 g3 g3'=>?_
 dsimp only at e3 |-;have hg1:v1<3:=g1'
 have hg2:v2<3:=g2';have hg3:v3<3:=g3'
 rw[Ok.bind];refine(Ok.loop (fun s:Int×Int×Part×Drw=>(Pws s.2.2.1.2.1/\Lft s.1 s.2.2.1.2.1 /\ -6<=s.1/\s.1 <= -4+4 * s.2.1)/\0<=s.2.1/\s.2.1<=2+v1/\j7 6 (2 * s.2.1).toNat s.2.2.1.2.1/\s.2.1<=s.2.2.1.2.1.length/\s.2.2.1.2.2.1=[]/\DOk (4+s.2.1) s.2.2.2) (fun s=>(2+v1-s.2.1).toNat)
  (P:=fun r=>Pws r.1.2.1/\j7 6 8 r.1.2.1/\2<=r.1.2.1.length/\r.1.2.2.1=[]/\DOk 8 r.2) ?_ ?_).mono fun R hR=>?_
 ·refine⟨⟨Pws.nil,fun _ h=>(nomatch h),by dsimp only;rw[yh (by omega)];omega,by dsimp only;rw[yh (by omega)];omega⟩,by show (0:Int)<=0;omega,by show (0:Int)<=2+v1;omega,⟨Nat.zero_le _,fun _ h=>by cases h⟩,by show (0:Int)<=(0:Nat);omega,rfl,e3.up (by show (2:Int)+1+1<=4+0;omega)⟩
 ·rintro⟨X,i,⟨nm,C,w,u⟩,d⟩ ⟨⟨w1,w2,w3,w4⟩,h1,h2,h3,h4,h5,h6⟩
  dsimp only at w1 w2 w3 w4 h1 h2 h3 h4 h5 h6 |-;rw[yh (m:=2) (n:=v1) (by omega)]
  split
  ·rename_i hc
   rw[zH]at hc;refine yv h6 (by decide) (by omega) fun d4 v4 e4 g4 g4'=>?_
   dsimp only;have hg4:v4<4:=g4'
   rw[yh (m:=1) (n:=v4) (by omega),yh (m:=X) (by omega),yh (m:=2) (n:=v3) (by omega),Ok.zK (Gy (by omega))]
   have hl:=h3.1;have fb:∀y y',(-20<=y/\y<y')/\y'<=20->ful (box X y 0 (X+(1+v4)) y' (2+v3))=true:=fun y y' h=>Vp (by omega) h (by omega)
   have sb:∀y y',∀d∈C,Sep d (box X y 0 (X+(1+v4)) y' (2+v3)):=fun y y' d hd=>by
    obtain⟨B,b1,b2⟩:=w2 d hd;exact⟨_,b1,((-1,0,0,()), -X,()),by simp[box],by simp,by show B + -X<=0;omega⟩
   have lb:∀ {D:List Cell} y y',Lft (X+(1+v4)) D->Lft (X+(1+v4)) (D++[box X y 0 (X+(1+v4)) y' (2+v3)]):=fun y y' hD d hd=>by
    rcases zKd.1 hd with hd|hd
    ·exact hD d hd
    ·rw[List.mem_singleton.1 hd];exact⟨X+(1+v4),by simp[box],Int.le_refl _⟩
   have l0:Lft (X+(1+v4)) C:=fun d hd=>by
    obtain⟨B,b1,b2⟩:=w2 d hd;exact⟨B,b1,by omega⟩
   have w5:=w1.snoc (fb 0 3 (by omega)) (sb 0 3)
   refine yi (by simp;omega) ?_
   refine gN (fun y=>(Pws y.2.1/\Lft (X+(1+v4)) y.2.1)/\j7 6 (2 * (i+1)).toNat y.2.1/\i+1<=y.2.1.length/\y.2.2.1=[]) (fun j hj=>?_) fun y hy=>?_
   ·dsimp only
    have s1:j7 6 ((2 * i).toNat+1) (C++[box X 0 0 (X+(1+v4)) 3 (2+v3)]):=h3.snoc (QV rfl);split
    ·rw[Ok.zK (Gy (by omega))]
     refine yi (by simp;omega) ?_
     refine hj _ ⟨⟨w5.snoc (fb 3 6 (by omega)) fun d hd=>?_,lb 3 6 (lb 0 3 l0)⟩,(s1.snoc (QV rfl)).mono (by omega),?_,h5⟩
     ·rcases zKd.1 hd with hd|hd
      ·exact sb 3 6 d hd
      ·rw[List.mem_singleton.1 hd]
       exact⟨((0,1,0,()),3,()),by simp[box],((0, -1,0,()), -3,()),by simp[box],by simp,by decide⟩
     dsimp only;rw[zKV,zKV,zKX];omega
    ·refine hj _ ⟨⟨w5,lb 0 3 l0⟩,s1.mono (by omega),?_,h5⟩
     dsimp only;rw[zKV,zKX];omega
   ·rw[Ok.pure]
    dsimp only;rw[yh (m:=i) (n:=1) (by omega)]
    obtain⟨⟨y1,y2⟩,y3⟩:=hy;exact⟨⟨⟨y1,y2,by omega,by omega⟩,by omega,by omega,y3.1,y3.2.1,y3.2.2,e4.up (by omega)⟩,by omega⟩
  ·rename_i hc
   rw[zH]at hc;rw[Ok.pure];exact⟨w1,h3.mono (by omega),by dsimp only;omega,h5,h6.up (by omega)⟩
 obtain⟨q0,q1,q2,q3,q4⟩:=hR;obtain⟨⟨nm,C,w,u⟩,d⟩:=R;dsimp only at q0 q1 q2 q3 q4 |-;refine gN (fun x=>DOk 9 x.2) (fun j hj=>?_) fun x hx=>?_
 ·skip
  refine yv q4 (by decide) (by decide) fun d4 v4 e4 g4 g4'=>?_
  dsimp only;split
  ·exact hj _ e4
  ·exact hj _ e4
 skip
 refine gN (fun y=>Pws y.2.1/\uv 9 y.2.1/\2<=y.2.1.length/\y.2.2.1=[]) (fun j hj=>?_) fun y hy=>?_
 ·skip
  have k0:∀nm u,(fun y:Part=>Pws y.2.1/\uv 9 y.2.1/\2<=y.2.1.length/\y.2.2.1=[]) (nm,C,w,u):=fun _ _=>⟨q0,(q1.wide (by decide)).mono (by omega),q2,q3⟩
  split
  ·have hl:=q1.1
   refine yv hx (by rw[zC];omega) (by decide) fun d4 v4 e4 g4 g4'=>?_
   refine yv e4 (by decide) (by decide) fun d5 v5 e5 g5 g5'=>?_
   rw[zC]at g4';dsimp only;obtain⟨c,hcg⟩:=zR (xs:=C) (k:=v4.toNat) (by omega)
   obtain⟨m1,m2⟩:=q1.2 c (zKZ hcg);rw[Ok.bind,Ok.idx g4 hcg];refine yi (by simp;omega) ?_
   refine yi (by simp;omega) ?_
   rw[Ok.bind,Ok.idx g4 hcg];refine yi (by simp;omega) ?_
   have hg5:v5<4:=g5';rw[yh (by omega),Ok.zK (Nn (by omega))]
   refine yi (by simp;omega) ?_
   rw[Ok.zK (YQ _),Ok.bind];dsimp only;have hg:Ok (Comp.gd (ful (([]++c)++[((0,1,1,()),2+v5,())])) (z6 (([]++c)++[((0, -1, -1,()), -(2+v5),())])) (false,())) fun b=>sel (ful (([]++c)++[((0,1,1,()),2+v5,())])) b.1 false=true->ful (c++[((0,1,1,()),2+v5,())])=true/\ful (c++[((0, -1, -1,()), -(2+v5),())])=true:=by
    rw[List.nil_append];refine Ok.YI (fun h1=>(Ok.yc (YQ _)).2 fun h2=>⟨h1,?_⟩) (fun h1 h2=>?_)
    ·rw[h1]at h2;exact h2
    ·rw[h1]at h2;cases h2
   refine hg.mono fun b hb=>?_
   refine gN (fun y=>Pws y.2.1/\uv 9 y.2.1/\2<=y.2.1.length/\y.2.2.1=[]) (fun j' hj'=>?_) fun y hy=>hj _ hy
   split
   ·rename_i hs
    obtain⟨f1,f2⟩:=hb hs;rw[Ok.zK (vQ ⟨g4,g4'⟩)];have t3:∀z:Cell,(vt C v4 z).length=C.length:=fun z=>by unfold vt;rw[List.length_set]
    refine yi (by rw[zKX,t3];omega) ?_
    refine hj' _ ⟨?_,((q1.wide (by decide)).set (by simp;omega) v4).snoc (by simp;omega),?_,q3⟩
    ·dsimp only
     rw[List.nil_append];exact q0.part hcg (fun p hp=>by simp[hp]) (fun p hp=>by simp[hp]) f1 f2 ⟨((0,1,1,()),2+v5,()),by simp,((0, -1, -1,()), -(2+v5),()),by simp,by simp,by show 2+v5 + -(2+v5)<=0;omega⟩
    ·dsimp only
     rw[zKV,zKX,t3];omega
   ·exact hj' _ ⟨q0,(q1.wide (by decide)).mono (by omega),q2,q3⟩
  ·exact hj _ (k0 _ _)
 skip
 refine Y9 (by decide) (by rw[hL];decide) fun l1 _=>?_
 obtain⟨nm2,C2,w2,u2⟩:=y;obtain⟨y0,y1,y2,y3⟩:=hy;dsimp only at y0 y1 y2 y3 |-;subst y3;rw[Ok.bind];refine(Ok.loop (fun s:Int×Part×Drw=>0<=s.1/\s.1<=C2.length/\s.2.1.2.1=C2/\(s.2.1.2.2.1.length:Int)=s.1/\s.2.1.2.2.1.any j8=false/\DOk s.1 s.2.2) (fun s=>(C2.length-s.1).toNat)
  (P:=fun r=>ZJ r/\ckP r=0) ?_ ?_).mono fun R hR=>?_
 ·exact⟨by show (0:Int)<=0;omega,by show (0:Int)<=C2.length;omega,rfl,rfl,rfl,d0 l1⟩
 ·rintro⟨i,⟨nm3,C3,w3,u3⟩,d⟩ ⟨h1,h2,h3,h4,h0,h5⟩
  dsimp only at h1 h2 h3 h4 h0 h5 |-;subst h3;have hl:=y1.1
  split
  ·rename_i hc
   rw[zH,zC]at hc;refine yv h5 (by decide) (by omega) fun d4 v4 e4 g4 g4'=>?_
   dsimp only;refine Y9 g4 g4' fun z hz=>?_
   refine yi (by simp;omega) ?_
   rw[Ok.pure];dsimp only;rw[yh (m:=i) (n:=1) (by omega)]
   refine⟨⟨by omega,by omega,rfl,by rw[zKV,zKX];omega,?_,e4⟩,by omega⟩
   rw[List.any_append,h0];simp only[zKY,List.not_mem_nil,or_false]at hz;rcases hz with rfl|rfl|rfl|rfl<;>decide
  ·rename_i hc
   rw[zH,zC]at hc;rw[Ok.pure];refine⟨⟨y1.mono (by omega),fun e=>?_,by dsimp only;omega⟩,?_⟩
   ·dsimp only at e
    rw[e]at y2;simp at y2
   ·unfold ckP
    dsimp only;rw[zKv (by omega),zKv (by rw[h0];simp;omega),y0.all];rfl
 ·rw[Ok.pure];exact hR
theorem VC{p:Part}(hp:ZJ p):Ok (jN p) fun r=>r.1=(List.replicate p.2.1.length false,List.replicate p.2.1.length false,[],()):=by
 unfold jN;have h1:=hp.1.1
 have:=qh;rw[Ok.bind,Ok.mk (by rw[zC];omega),Ok.bind,Ok.mk (by rw[zC];omega),Ok.pure,zC];rfl
theorem B9:∀ {l seen:List Cell},Xu seen l=true->∀c∈l,ful c=true
 | [],_,_,c,hc=>by cases hc
 |d::l,seen,h,c,hc=>by
  unfold Xu at h;simp only[zKU]at h;rcases zKY.1 hc with e|e
  ·subst e;exact h.1
  ·exact B9 h.2.2 c e
theorem Vm{p:Part}(h:ckP p=0):(1<=p.2.1.length/\p.2.1.length<=16)/\(p.2.2.1.length=p.2.1.length/\p.2.2.1.any j8=false)/\Xu [] p.2.1=true:=by
 unfold ckP at h;split at h
 ·cases h
 ·split at h
  ·cases h
  ·rename_i h1 h2
   cases hb:Xu [] p.2.1 with
   |true =>
    refine⟨by omega,⟨by omega,?_⟩,rfl⟩
    cases hs:p.2.2.1.any j8 with
    |false=>rfl
    |true=>exact zKk (.inr hs) h2
   |false=>rw[hb]at h;cases h
structure PcV(p:Part)(x:vG):Prop where
 c:ckP p=0
 f:Yd p x=true
 s:∀i,i<p.2.1.length->x.1.getD i false=false->(cov (nr x.2.2.1 (cl p i)) (cl p i)).1=false
theorem RT{p:Part}{i:Nat}(h:i<p.2.1.length):cl p i∈p.2.1:=by
 obtain⟨c,hc⟩:=zR h;unfold cl;rw[vY hc];exact zKZ hc
theorem PcV.new{p:Part}(h:ckP p=0):PcV p (List.replicate p.2.1.length false,List.replicate p.2.1.length false,[],()):=by
 refine⟨h,by simp[Yd,ja],fun i hi _=>?_⟩
 have hf:=B9 (Vm h).2.2 _ (RT hi);have hf2:=hf
 unfold ful at hf2;simp only[zKU,zKm]at hf2;show (cov [] (cl p i)).1=false
 unfold cov mns;rw[zKu hf2.1,zKu (by decide),zKu hf];rfl
theorem zDd{p:Part}{x:vG}{C T:List Cell}(h:(apl p x C T).2=0):PcV p (apl p x C T).1/\(fit p x=0/\ja (C++T)=0)/\(apl p x C T).1=(apS (x.2.2.1++C) p.2.1 x.1,apT C T p.2.1 x.2.1,x.2.2.1++C,()):=by
 unfold apl at h |-;split at h
 ·rename_i hf
  obtain⟨k1,k2,f1,f2,f3,f4,f5,f6⟩:=J6 hf;split at h
  ·rename_i eN
   split at h
   ·cases h
   ·rename_i hm
    split at h
    ·rename_i he
     rw[zKu hf,zKu eN,zKv hm,zKu he];refine⟨⟨k1,?_,fun i hi hs=>?_⟩,⟨hf,eN⟩,rfl⟩
     ·have e1:(apS (x.2.2.1++C) p.2.1 x.1).length=p.2.1.length:=by unfold apS;rw[List.length_zipWith,f1,Nat.min_self]
      have e2:(apT C T p.2.1 x.2.1).length=p.2.1.length:=by unfold apT;rw[List.length_zipWith,f2,Nat.min_self]
      have e3:ja (x.2.2.1++C)=0:=by
       rw[KR,zKu f4];rw[KR]at eN;split at eN
       ·rename_i h0;exact h0
       ·exact eN
      unfold Yd;simp only[zKU,zKm,zKV];exact⟨⟨e1,e2⟩,by omega,e3⟩
     ·obtain⟨c,hc⟩:=zR hi
      obtain⟨v,hv⟩:=zR (xs:=x.1) (k:=i) (by omega)
      have hz:(apS (x.2.2.1++C) p.2.1 x.1)[i]?=some (sur (x.2.2.1++C) c v):=nA hc hv;dsimp only at hs;rw[vY hz]at hs;have ec:cl p i=c:=vY hc
      rw[ec];unfold sur at hs
      cases v with
      |true=>cases hs
      |false=>exact hs
    ·rename_i he;exact zKk h he
  ·rename_i eN;exact zKk h eN
 ·rename_i hf;exact zKk h hf
def p9(x:Eff):Prop:=x.1.length<=50/\x.2.1.length<=50/\x.2.2.2.1.length<=50
theorem wu{xs:List β}{l h:Int}{f:List β->Comp α}{P:α->Prop}(hr:0<=l/\l<=h/\h<=xs.length)(k:∀ys,ys.length=(h-l).toNat->Ok (f ys) P):Ok ((sub xs l h).bind f) P:=by
 rw[Ok.bind,Ok.sub hr];exact k _ (by rw[List.length_drop,zKp];omega)
theorem mb{x0:List (List Int)}{p:Part}{f:List Cell×Unit->Comp α}{P:α->Prop}(hp:ZJ p)(k:∀C:List Cell,C.length<=4->Ok (f (C,())) P):Ok ((vK x0 p).bind f) P:=by
 rw[Ok.bind];exact(Vc hp).mono fun r hr=>k r.1 hr
theorem kZ(m n:Int):Dd m n=min m n:=rfl
theorem Is{p:Part}{x1:List Int}{x2:Int}(hp:ZJ p):Ok (yj p x1 x2) fun r=>p9 r.1:=by
 unfold yj;have hl:=hp.1.1
 refine yv (d0 x1) (by decide) (by decide) fun d1 v1 e1 g1 g1'=>?_
 refine gN (fun x=>DOk 2 x.2) (fun j hj=>?_) fun x hx=>?_
 ·dsimp only
  split
  ·refine yv e1 (by decide) (by decide) fun d2 v2 e2 g2 g2'=>?_
   exact hj _ e2
  ·exact hj _ (e1.up (by decide))
 refine gN (fun x:Eff=>x.1=[]/\x.2.1=[]/\x.2.2.2.1.length<=50) (fun j hj=>?_) fun y hy=>?_
 ·dsimp only
  split
  ·exact hj _ ⟨rfl,rfl,by show 1<=50;omega⟩
  ·exact hj _ ⟨rfl,rfl,by show 0<=50;omega⟩
 refine yv hx (by decide) (by decide) fun d2 v2 e2 g2 g2'=>?_
 rw[Ok.bind];refine(Ok.loop (fun s:Int×Eff×Drw=>0<=s.1/\s.1<=p.2.1.length/\(s.2.1.1.length<=s.1/\s.2.1.2.1=[]/\s.2.1.2.2.2.1.length<=50)/\DOk (4+2 * s.1) s.2.2) (fun s=>(p.2.1.length-s.1).toNat)
  (P:=fun r:Eff=>r.1.length<=12/\r.2.1=[]/\r.2.2.2.1.length<=50) ?_ ?_).mono fun R hR=>?_
 ·exact⟨by show (0:Int)<=0;omega,by show (0:Int)<=p.2.1.length;omega,⟨by show ((y.1.length:Nat):Int)<=0;rw[hy.1];decide,hy.2.1,hy.2.2⟩,e2.up (by show (2:Int)+1<=4+2 * 0;omega)⟩
 ·rintro⟨i,⟨cu,to,co,ne,u⟩,d⟩ ⟨h1,h2,⟨h3,h4,h5⟩,h6⟩
  dsimp only at h1 h2 h3 h4 h5 h6 |-;split
  ·rename_i hc
   rw[zH,zC]at hc;refine yv h6 (by decide) (by omega) fun d4 v4 e4 g4 g4'=>?_
   dsimp only;refine Y9 h1 (by rw[hp.2.2];exact hc) fun z _=>?_
   refine gN (fun x=>DOk (4+2 * (i+1)) x.2) (fun j hj=>?_) fun x hx=>?_
   ·skip
    split
    ·refine gN (fun x=>DOk (4+2 * (i+1)) x.2) (fun j' hj'=>?_) fun x hx=>hj _ hx
     skip
     split
     ·refine yv e4 (by decide) (by omega) fun d5 v5 e5 g5 g5'=>?_
      exact hj' _ (e5.up (by omega))
     ·exact hj' _ (e4.up (by omega))
    ·exact hj _ (e4.up (by omega))
   ·refine gN (fun x:Eff=>x.1.length<=i+1/\x.2.1=[]/\x.2.2.2.1.length<=50) (fun j hj=>?_) fun y hy=>?_
    ·skip
     split
     ·refine Y9 h1 hc fun c hcc=>?_
      obtain⟨m1,m2⟩:=hp.1.2 c hcc;refine yi (by simp;omega) ?_
      refine yi (by simp;omega) ?_
      refine hj _ ⟨?_,h4,h5⟩;dsimp only;rw[zKV,zKX];omega
     ·exact hj _ ⟨by dsimp only;omega,h4,h5⟩
    ·rw[Ok.pure]
     dsimp only;rw[yh (m:=i) (n:=1) (by omega)]
     exact⟨⟨by omega,by omega,hy,hx⟩,by omega⟩
  ·rename_i hc
   rw[zH,zC]at hc;rw[Ok.pure];exact⟨by dsimp only;omega,h4,h5⟩
 refine gN (fun x:Eff=>x.1.length<=50/\x.2.1.length<=50/\x.2.2.2.1.length<=50) (fun j hj=>?_) fun y hy=>?_
 ·dsimp only
  split
  ·refine wu ⟨by rw[kZ,zC];omega,by rw[kZ];omega,by rw[zC];omega⟩ fun ys sR=>?_
   refine mb hp fun C hC=>?_
   have hr1:=hR.1;refine yi (by dsimp only;omega) ?_
   refine hj _ ⟨?_,?_,hR.2.2⟩
   ·dsimp only;rw[zKV];omega
   ·dsimp only;rw[hR.2.1];exact Nat.zero_le _
  ·refine hj _ ⟨by have:=hR.1;dsimp only;omega,?_,hR.2.2⟩
   dsimp only;rw[hR.2.1];exact Nat.zero_le _
 refine gN (fun x:Eff=>x.1.length<=50/\x.2.1.length<=50/\x.2.2.2.1.length<=50) (fun j hj=>?_) fun y hy=>?_
 ·dsimp only
  split
  ·refine wu ⟨by rw[kZ,zC];omega,by rw[kZ];omega,by rw[zC];omega⟩ fun ys sR=>?_
   refine mb hp fun C hC=>?_
   exact hj _ ⟨hy.1,by dsimp only;omega,hy.2.2⟩
  ·exact hj _ hy
 rw[Ok.pure];exact hy
theorem wJ{p:Part}{x1:List Int}{x2:Int}{f:Eff×Unit->Comp α}{P:α->Prop}(hp:ZJ p)(k:∀e:Eff,p9 e->Ok (f (e,())) P):Ok ((yj p x1 x2).bind f) P:=by
 rw[Ok.bind];exact(Is hp).mono fun r hr=>k r.1 hr
structure JobOk(j:Job):Prop where
 p:ZJ j.1
 e:∀x∈j.2.2.1,p9 x
 n:j.2.2.1.length<=8
 v:PcV j.1 j.2.1
theorem p9.sm{x:Eff}(h:p9 x):SmE x:=⟨zKb h.1 (by decide),zKb h.2.1 (by decide),zKb h.2.2 (by decide)⟩
theorem ZJ.w{p:Part}(h:ZJ p):p.2.2.1.length<9223372036854775807:=by rw[h.2.2];have:=h.1.1;omega
theorem I4{j:Job}{P:Int×Unit->Prop}(hj:JobOk j)(k:P (ckJ j,())):Ok (gU j) P:=(Ok.yc (w8 hj.p.w fun x hx=>(hj.e x hx).sm)).2 k
theorem VM(x0:List (List Int)):Ok (jw x0) fun r=>JobOk r.1/\1<=r.1.2.2.1.length:=by
 unfold jw;refine wu ⟨by decide,by rw[kZ,zC];omega,by rw[kZ,zC];omega⟩ fun x hx=>?_
 rw[Ok.bind];refine(NF x).mono ?_;rintro⟨p,u⟩ ⟨hp,oU⟩;rw[Ok.bind];refine(VC hp).mono ?_;rintro⟨pc,u'⟩ hpc;dsimp only at hp oU hpc |-;subst hpc;have hp0:=And.intro hp (PcV.new oU)
 refine gN (fun y:Job=>(ZJ y.1/\PcV y.1 y.2.1)/\y.2.2.1=[]) (fun j hj=>?_) fun y hy=>?_
 ·skip
  split
  ·rename_i hc
   rw[ya,zC]at hc;refine Y9 (by decide) (by omega) fun d hd=>?_
   refine yv (d0 d) (by decide) (by decide) fun d1 v1 e1 g1 g1'=>?_
   refine gN (fun y:Job=>(ZJ y.1/\PcV y.1 y.2.1)/\y.2.2.1=[]) (fun j' hj'=>?_) fun y hy=>hj _ hy
   dsimp only;split
   ·obtain⟨d2,hd2⟩:=zR (xs:=x0) (k:=2) (by omega)
    rw[Ok.bind,Ok.idx (by decide) hd2,Ok.bind,Ok.idx (by decide) hd2]
    refine wu ⟨by rw[kZ,zC];omega,by rw[kZ];omega,by rw[zC];omega⟩ fun ys sR=>?_
    refine mb hp fun C hC=>?_
    rw[Ok.zK (C9 hp.w (by dsimp only;omega) (by decide))]
    refine gN (fun y:Job=>(ZJ y.1/\PcV y.1 y.2.1)/\y.2.2.1=[]) (fun j'' hj''=>?_) fun y hy=>hj' _ hy
    split
    ·rename_i he
     exact hj'' _ ⟨⟨hp,(zDd (by rw[yA]at he;exact he)).1⟩,rfl⟩
    ·exact hj'' _ ⟨hp0,rfl⟩
   ·exact hj' _ ⟨hp0,rfl⟩
  ·exact hj _ ⟨hp0,rfl⟩
 rw[Ok.bind];refine(Ok.loop (fun s:Int×Job=>3<=s.1/\s.1<=7/\(ZJ s.2.1/\PcV s.2.1 s.2.2.1)/\(∀x∈s.2.2.2.1,p9 x)/\(s.2.2.2.1.length:Int)=s.1-3) (fun s=>(7-s.1).toNat)
  (P:=fun r:Job=>JobOk r/\r.2.2.1.length<=4) ?_ ?_).mono fun R hR=>?_
 ·exact⟨by show (3:Int)<=3;omega,by show (3:Int)<=7;omega,hy.1,fun x (hx:x∈y.2.2.1)=>(by rw[hy.2]at hx;cases hx),by show ((y.2.2.1.length:Nat):Int)=3-3;rw[hy.2];rfl⟩
 ·rintro⟨i,p',pc',es,u''⟩ ⟨h1,h2,h3,h4,h5⟩
  dsimp only at h1 h2 h3 h4 h5 |-;split
  ·rename_i hc
   obtain⟨c1,c2⟩:=CK hc;rw[zH]at c1 c2;rw[zC]at c1;refine Y9 (by omega) c1 fun d hd=>?_
   refine wJ hp fun e he=>?_
   refine yi (by simp;omega) ?_
   rw[Ok.pure];dsimp only;rw[yh (by omega)]
   refine⟨⟨by omega,by omega,h3,fun x hx=>?_,by rw[zKV,zKX];omega⟩,by omega⟩
   rcases zKd.1 hx with hx|hx
   ·exact h4 x hx
   ·rw[List.mem_singleton.1 hx];exact he
  ·rw[Ok.pure]
   exact⟨⟨h3.1,h4,by dsimp only;omega,h3.2⟩,by dsimp only;omega⟩
 refine gN (fun y:Job=>JobOk y/\1<=y.2.2.1.length) (fun j hj=>?_) fun y hy=>?_
 ·skip
  split
  ·refine wJ hp fun e he=>?_
   have:=hR.2;refine yi (by simp;omega) ?_
   refine hj _ ⟨⟨hR.1.p,fun x hx=>?_,?_,hR.1.v⟩,?_⟩
   ·rcases zKd.1 hx with hx|hx
    ·exact hR.1.e x hx
    ·rw[List.mem_singleton.1 hx];exact he
   ·dsimp only;rw[zKV,zKX];omega
   ·dsimp only;rw[zKV,zKX];omega
  ·rename_i hc
   rw[yA,zC]at hc;exact hj _ ⟨⟨hR.1.p,hR.1.e,hR.1.n,hR.1.v⟩,by dsimp only;omega⟩
 rw[Ok.bind];refine(Ok.loop (fun s:Job=>JobOk s/\1<=s.2.2.1.length) (fun s=>s.2.2.1.length)
  (P:=fun r:Job=>JobOk r/\1<=r.2.2.1.length) hy ?_).mono fun R hR=>?_
 ·rintro⟨p',pc',es,u''⟩ ⟨hs,bC⟩
  have hn:=hs.n;dsimp only at hs bC hn |-;rw[Ok.bind];have fin:∀x7:Int×Unit,Ok (if sel (gtI (zF es) 1) (eqI x7.1 2) false=true then jn (fun x:Job=>Comp.pure (Comp.Step.next (x.1,x.2.1,x.2.2.1,()))) fun j=>(sub es 0 (gj .i64 (zF es) 1)).bind fun ys=>j (p',pc',ys,()) else Comp.pure (Comp.Step.done (p',pc',es,())))
    (fun t:Comp.Step Job Job=>match t with|.next s'=>(JobOk s'/\1<=s'.2.2.1.length)/\s'.2.2.1.length<es.length|.done r=>JobOk r/\1<=r.2.2.1.length):=by
   intro x7;split
   ·rename_i hc
    obtain⟨c1,c2⟩:=CK hc;rw[ya,zC]at c1;rw[zC,YE (by omega)]
    refine gN (fun y:Job=>(JobOk y/\1<=y.2.2.1.length)/\y.2.2.1.length<es.length) (fun j hj=>?_) fun y hy=>?_
    ·show Ok ((sub es 0 ((es.length:Int)-1)).bind fun ys=>j (p',pc',ys,())) _
     rw[Ok.bind,Ok.sub (by omega)]
     refine hj _ ⟨⟨⟨hs.p,fun x hx=>hs.e x (List.mem_of_mem_take (List.mem_of_mem_drop hx)),?_,hs.v⟩,?_⟩,?_⟩
     ·dsimp only;rw[List.length_drop,zKp];omega
     ·dsimp only;rw[List.length_drop,zKp];omega
     ·dsimp only;rw[List.length_drop,zKp];omega
    ·rw[Ok.pure];exact hy
   ·rw[Ok.pure];exact⟨hs,bC⟩
  refine Ok.YI (fun _=>I4 ⟨hs.p,hs.e,hs.n,hs.v⟩ ?_) (fun _=>?_)
  ·refine(fin _).mono fun t ht=>?_
   cases t<;>exact ht
  ·refine(fin _).mono fun t ht=>?_
   cases t<;>exact ht
 ·rw[Ok.pure];exact hR
theorem JobOk.sm{j:Job}(h:JobOk j):SmJ j:=⟨h.p.w,fun x hx=>(h.e x hx).sm,zKb h.n (by decide)⟩
theorem RL{n:Nat}:∀ {L:List Eff} {k:Nat},efs n L k=0->∀x∈L,1<=x.2.2.1/\x.2.2.1<=1048576
 | [],_,_,x,hx=>by cases hx
 |y::L,k,h,x,hx=>by
  unfold efs at h;split at h
  ·rename_i h1
   rcases zKY.1 hx with e|e
   ·subst e
    unfold eE at h1;split at h1
    ·split at h1
     ·cases h1
     ·rename_i h2;omega
    ·rename_i h2;exact zKk h1 h2
   ·exact RL h x e
  ·rename_i h1;exact zKk h h1
theorem N6{j:Job}(h:ckJ j=0):∀x∈j.2.2.1,1<=x.2.2.1/\x.2.2.1<=1048576:=by
 unfold ckJ at h;split at h
 ·split at h
  ·cases h
  ·split at h
   ·rename_i h1;exact RL h1
   ·rename_i h1;exact zKk h h1
 ·rename_i h1;exact zKk h h1
def z8:List Bool:=[false,false,false,false,false,false,false,false]
def B8(s:List Bool)(k:Nat):Bool:=s.getD k false
def m8(g:Nat->Bool):List Bool:=(List.range 8).map g
theorem gl(g:Nat->Bool):(m8 g).length=8:=by simp[m8]
theorem zCv{g:Nat->Bool}{k:Nat}(h:k<8):(m8 g)[k]?=some (g k):=by simp[m8,h]
theorem JG{g:Nat->Bool}{k:Nat}(h:k<8):B8 (m8 g) k=g k:=by unfold B8;exact vY (zCv h)
theorem YH{s:List Bool}(hs:s.length=8){k:Nat}(h:k<8):s[k]?=some (B8 s k):=by
 have:s[k]?=some s[k]:=zKy (by omega)
 unfold B8;rw[vY this];exact this
theorem Y1{s:List Bool}(hs:s.length=8){k:Nat}(h:8<=k):B8 s k=false:=by
 unfold B8;rw[zKn,List.getElem?_eq_none (by omega)];rfl
theorem Sk{s t:List Bool}(hs:s.length=8)(ht:t.length=8)(h:∀k,k<8->B8 s k=B8 t k):s=t:=by
 refine List.ext_getElem? fun k=>?_
 by_cases hk:k<8
 ·rw[YH hs hk,YH ht hk,h k hk]
 ·rw[List.getElem?_eq_none (by omega),List.getElem?_eq_none (by omega)]
theorem Yo{s:List Bool}(hs:s.length=8){i:Nat}(hi:i<8)(v:Bool)(k:Nat):B8 (s.set i v) k=if k=i then v else B8 s k:=by
 unfold B8;rw[zKn,zKn,List.getElem?_set];by_cases h:i=k
 ·subst h;simp[hs,hi]
 ·rw[zKv h,zKv (Ne.symm h)]
theorem ES{g:Nat->Bool}{i:Nat}(hi:i<8):(m8 fun k=>decide (k<i) && g k).set i (g i)=m8 fun k=>decide (k<i+1) && g k:=by
 refine Sk (by simp[gl]) (gl _) fun k hk=>?_
 rw[Yo (gl _) hi,JG hk,JG hk];by_cases h:k=i
 ·subst h;simp
 ·rw[zKv h]
  have:decide (k<i)=decide (k<i+1):=by rw[decide_eq_decide];omega
  rw[this]
theorem Rg{g:Nat->Bool}:z8=m8 fun k=>decide (k<0) && g k:=rfl
theorem j9(xs:List α)(k:Nat)(v:α):vt xs (k:Int) v=xs.set k v:=rfl
theorem mQ{xs ys:List Bool}:(eqA (fun a b=>eqB a b) xs ys=true)↔xs=ys:=by
 induction xs generalizing ys with
 |nil=>cases ys<;>simp[eqA]
 |cons x xs ih =>
  cases ys with
  |nil=>simp[eqA]
  |cons y ys =>
   simp only[eqA,List.cons.injEq];rw[<-ih];cases x<;>cases y<;>simp[eqB,adB]
def sl(s:List Bool):List Nat:=(List.range 8).filter (B8 s)
def slI(s:List Bool):List Int:=(sl s).map fun k:Nat=>(k:Int)
theorem kr{s:List Bool}{k:Nat}:k∈sl s↔k<8/\B8 s k=true:=by simp[sl]
theorem qV(s:List Bool):(sl s).length<=8:=by
 have:=List.length_filter_le (B8 s) (List.range 8);simpa[sl] using this
theorem Jb(s:List Bool):(slI s).length<=8:=by simpa[slI] using qV s
theorem UU{s:List Bool}{i:Nat}{x:Int}(h:(slI s)[i]?=some x):∃k:Nat,x=(k:Int)/\k<8/\B8 s k=true:=by
 have:=zKZ h;obtain⟨k,hk,rfl⟩:=List.mem_map.1 this;exact⟨k,rfl,kr.1 hk⟩
theorem Yj{s:List Bool}(hs:s.length=8):(vz s).val=some (slI s,()):=by
 unfold vz;refine Ok.val ?_;rw[Ok.bind];refine(Ok.count 8 (fun i (x:List Int×Int)=>x.2=(i:Int)/\x.1=((List.range i).filter (B8 s)).map fun k:Nat=>(k:Int)) (P:=fun r=>r=slI s) ⟨rfl,rfl⟩ ?_ ?_).mono fun r hr=>by rw[Ok.pure,hr]
 ·rintro i ⟨l,n⟩ hi ⟨h1,h2⟩
  dsimp only at h1 h2;subst h1 h2;have fP:=List.length_filter_le (B8 s) (List.range i)
  rw[List.length_range]at fP;rw[zKu (by rw[zH];omega),Ok.bind,Ok.Z0 (YH hs hi)]
  refine gN (fun y=>y=((List.range (i+1)).filter (B8 s)).map fun k:Nat=>(k:Int)) (fun j hj=>?_) fun y hy=>?_
  ·split
   ·rename_i hb
    refine yi (by simp;omega) (hj _ ?_)
    rw[List.range_succ,List.filter_append,List.map_append];simp[hb]
   ·rename_i hb
    refine hj _ ?_;rw[List.range_succ,List.filter_append,List.map_append];simp[hb]
  ·rw[Ok.pure]
   exact⟨zL (by omega),hy⟩
 ·rintro⟨l,n⟩ ⟨h1,h2⟩
  dsimp only at h1 h2;subst h1 h2;rw[zKv (by rw[zH];show ¬((8:Nat):Int)<8;omega),Ok.pure]
  rfl
def cst(L:List Eff)(l:List Nat):Int:=(l.map fun k:Nat=>(opn L (k:Int)).2.2.1).sum
theorem Vf(L:List Eff)(l m:List Nat):cst L (l++m)=cst L l+cst L m:=by simp[cst]
theorem Eb{L:List Eff}{m:Int}:∀ {l:List Nat},(∀k∈l,1<=(opn L (k:Int)).2.2.1/\(opn L (k:Int)).2.2.1<=m)->0<=cst L l/\cst L l<=l.length * m
 | [],_=>by simp[cst]
 |k::l,h=>by
  have h1:=Eb (l:=l) fun j hj=>h j (by simp[hj])
  have h2:=h k (by simp)
  have:cst L (k::l)=(opn L (k:Int)).2.2.1+cst L l:=by simp[cst]
  rw[this,zKc];have:((l.length+1:Nat):Int) * m=l.length * m+m:=by rw[Int.natCast_add,Int.add_mul];simp
  omega
def zHJ(L:List Eff):Prop:=∀k:Nat,k<L.length->1<=(opn L (k:Int)).2.2.1/\(opn L (k:Int)).2.2.1<=1048576
theorem KT{j:Job}{sp s:List Bool}(hs:s.length=8)(fT:∀k,B8 s k=true->k<j.2.2.1.length)(hc:zHJ j.2.2.1):(y6 (j,sp,()) s).val=some (cst j.2.2.1 (sl s),()):=by
 unfold y6;refine Ok.val ?_;rw[Ok.zK (Yj hs)];dsimp only;rw[Ok.bind];have hln:=Jb s
 refine(Ok.count (slI s).length (fun i (x:Int×Int)=>x.2=(i:Int)/\x.1=cst j.2.2.1 ((sl s).take i)) (P:=fun r=>r=cst j.2.2.1 (sl s)) ⟨rfl,by simp[cst]⟩ ?_ ?_).mono fun r hr=>by rw[Ok.pure,hr]
 ·rintro i ⟨c,n⟩ hi ⟨h1,h2⟩
  dsimp only at h1 h2;subst h1 h2;obtain⟨k,hk⟩:=zR (xs:=sl s) (k:=i) (by simpa[slI] using hi)
  have xZ:(slI s)[i]?=some (k:Int):=by simp[slI,hk]
  have eB:=kr.1 (zKZ hk);have xR:=fT k eB.2
  rw[zKu (by rw[zH,zC];omega),Ok.bind,Ok.Z0 xZ,Ok.bind,Ok.yc (n5 ⟨by omega,by omega⟩),Ok.pure]
  refine⟨zL (by omega),?_⟩
  have ht:(sl s).take (i+1)=(sl s).take i++[k]:=by rw[List.take_add_one,hk];rfl
  have hb:=Eb (L:=j.2.2.1) (m:=1048576) (l:=(sl s).take i) fun q hq=>hc q (fT q (kr.1 (List.mem_of_mem_take hq)).2)
  have gF:((sl s).take i).length<=8:=by have:=qV s;rw[zKp];omega
  have sU:=hc k xR;rw[ht,Vf];show zJ .i64 _ _=_
  have e1:cst j.2.2.1 [k]=(opn j.2.2.1 (k:Int)).2.2.1:=by simp[cst]
  rw[e1,yh (by omega)]
 ·rintro⟨c,n⟩ ⟨h1,h2⟩
  dsimp only at h1 h2;subst h1 h2;rw[zKv (by rw[zH,zC];omega),Ok.pure]
  have:(sl s).take (slI s).length=sl s:=List.take_of_length_le (by simp[slI])
  rw[this]
def rs(n:Nat)(sp out:List Bool):List Bool:=m8 fun k=>decide (k<n) && (!B8 out k && !B8 sp k)
def Wm(L:List Eff):Prop:=∀k:Nat,∀q∈(opn L (k:Int)).2.2.2.1,0<=q/\q<L.length
def XA(L:List Eff)(s:List Bool):Prop:=∀k:Nat,B8 s k=true->∀q∈(opn L (k:Int)).2.2.2.1,B8 s q.toNat=true
def jz(s t:List Bool):Prop:=∀k,B8 s k=true->B8 t k=true
theorem jz.refl(s:List Bool):jz s s:=fun _ h=>h
theorem jz.trans{s t u:List Bool}(h:jz s t)(k:jz t u):jz s u:=fun i hi=>k i (h i hi)
theorem jz.eq{s t:List Bool}(hs:s.length=8)(ht:t.length=8)(h:jz s t)(k:jz t s):s=t:=Sk hs ht fun i _=>by rw[Bool.eq_iff_iff];exact⟨h i,k i⟩
theorem zAd{s t:List Bool}(h:jz s t):sl s=(sl t).filter (B8 s):=by
 unfold sl;rw[List.filter_filter];refine List.filter_congr fun i _=>?_
 cases hs:B8 s i with
 |true=>rw[h i hs];rfl
 |false=>rfl
theorem Ez{s t:List Bool}(hs:s.length=8)(ht:t.length=8)(h:jz s t)(fB:s≠t):(sl s).length<(sl t).length:=by
 rw[zAd h,List.length_filter_lt_length_iff_exists];by_cases he:∃x∈sl t,¬B8 s x=true
 ·exact he
 ·refine zKk (jz.eq hs ht h fun k hk=>?_) fB
  cases hb:B8 s k with
  |true=>rfl
  |false =>
   refine zKk ⟨k,kr.2 ⟨?_,hk⟩,by rw[hb];simp⟩ he
   by_cases h8:k<8
   ·exact h8
   ·rw[Y1 ht (by omega)]at hk;cases hk
theorem R2{n:Nat}{sp out:List Bool}{k:Nat}(h:B8 (rs n sp out) k=true):k<n/\B8 out k=false/\B8 sp k=false:=by
 by_cases h8:k<8
 ·unfold rs at h
  rw[JG h8]at h;simpa using h
 ·rw[Y1 (show (rs n sp out).length=8 from gl _) (by omega)]at h;cases h
theorem zEe{n:Nat}{sp out:List Bool}{k:Nat}(hn:n<=8)(h:k<n/\B8 out k=false/\B8 sp k=false):B8 (rs n sp out) k=true:=by
 unfold rs;rw[JG (by omega)]
 simp[h.1,h.2.1,h.2.2]
structure RestOk(L:List Eff)(sp out s:List Bool):Prop where
 len:s.length=8
 sub:jz s (rs L.length sp out)
 cl:XA L s
 most:∀t,jz t (rs L.length sp out)->XA L t->jz t s
theorem nq{j:Job}{sp out:List Bool}(aI:sp.length=8)(ho:out.length=8)(hn:j.2.2.1.length<=8)(sC:Wm j.2.2.1)(bL:∀k:Nat,(opn j.2.2.1 (k:Int)).2.2.2.1.length<9223372036854775807):Ok (jl (j,sp,()) out) fun r=>RestOk j.2.2.1 sp out r.1:=by
 unfold jl;dsimp only;rw[Ok.bind];refine(Ok.count j.2.2.1.length (fun i (x:Int×List Bool)=>x.1=(i:Int)/\x.2=m8 fun k=>decide (k<i) && (!B8 out k && !B8 sp k)) (P:=fun r=>r=rs j.2.2.1.length sp out) ⟨rfl,rfl⟩ ?_ ?_).mono fun r hr=>?_
 ·rintro i ⟨n,s⟩ hi ⟨h1,h2⟩
  dsimp only at h1 h2;subst h1 h2;rw[zKu (by rw[zH,zC];omega),Ok.bind,Ok.Z0 (YH ho (by omega)),Ok.bind]
  have hg:Ok (Comp.gd (ntB (B8 out i)) (idx sp (i:Int)) false) fun b=>sel (ntB (B8 out i)) (ntB b) false=(!B8 out i && !B8 sp i):=by
   cases hb:B8 out i with
   |true=>exact Ok.YI (fun h=>nomatch h) fun _=>rfl
   |false=>exact Ok.YI (fun _=>(Ok.Z0 (YH aI (by omega))).2 (by cases B8 sp i<;>rfl)) fun h=>nomatch h
  refine hg.mono fun b hb=>?_
  rw[Ok.zK (vQ ⟨by omega,by omega⟩),Ok.pure]
  refine⟨zL (by omega),?_⟩
  dsimp only;rw[hb,j9];exact ES (g:=fun k=>!B8 out k && !B8 sp k) (by omega)
 ·rintro⟨n,s⟩ ⟨h1,h2⟩
  dsimp only at h1 h2;subst h1 h2;rw[zKv (by rw[zH,zC];omega),Ok.pure];rfl
 ·subst hr
  rw[Ok.bind];have hl:(rs j.2.2.1.length sp out).length=8:=gl _
  have fT:∀k,B8 (rs j.2.2.1.length sp out) k=true->k<j.2.2.1.length:=fun k hk=>(R2 hk).1
  generalize hrs:rs j.2.2.1.length sp out=s0 at hl fT;refine(Ok.loop (fun x:List Bool×List Bool=>x.2.length=8/\jz x.2 s0/\(∀t,jz t s0->XA j.2.2.1 t->jz t x.2)/\(x.1=x.2->XA j.2.2.1 x.2)) (fun x=>2 * (sl x.2).length+if x.1=x.2 then 0 else 1) (P:=fun r=>RestOk j.2.2.1 sp out r) ⟨hl,jz.refl _,fun t h _=>h,fun h=>?_⟩ ?_).mono fun r hr=>by rw[Ok.pure];exact hr
  ·intro k hk
   have hz:B8 z8 k=true:=by rw[show z8=s0 from h];exact hk
   exfalso;by_cases h8:k<8
   ·rw[Rg (g:=fun _=>true),JG h8]at hz;simp at hz
   ·rw[Y1 rfl (by omega)]at hz;cases hz
  rintro⟨l,s⟩ ⟨h1,h2,h3,h4⟩;dsimp only at h1 h2 h3 h4;by_cases he:l=s
  ·subst he
   rw[zKv (by rw[yQ,mQ.2 rfl];simp),Ok.pure]
   exact⟨h1,by rw[hrs];exact h2,h4 rfl,fun t ht hc=>h3 t (by rw[<-hrs];exact ht) hc⟩
  ·rw[zKu (by rw[yQ];cases h:eqA (fun a b=>eqB a b) l s with|true=>exact zKk (mQ.1 h) he|false=>rfl),Ok.zK (Yj h1)]
   dsimp only;rw[Ok.bind]
   have hpass:Ok (Comp.loop (fun (x_2:Int×List Bool)=>if ltI x_2.1 (zF (slI s))=true then (idx (slI s) x_2.1).bind fun x=>(idx j.2.2.1 x).bind fun x_3=>(zg x_3.2.2.2.1 fun (z:Int×Unit)=>yx z.1 x_2.2).bind fun x_4=>(inb 8 x).bind fun x_5=>.pure (.next (zJ .i64 x_2.1 1,vt x_2.2 x (ntB x_4.1))) else .pure (.done x_2.2)) (0,s)) fun r=>r.length=8/\jz r s/\(∀t,jz t s->XA j.2.2.1 t->jz t r)/\∀k,B8 s k=true->B8 r k=true->∀q∈(opn j.2.2.1 (k:Int)).2.2.2.1,B8 s q.toNat=true:=by
    have hln:=Jb s;refine Ok.count (slI s).length (fun i (x:Int×List Bool)=>x.1=(i:Int)/\x.2.length=8/\jz x.2 s/\(∀t,jz t s->XA j.2.2.1 t->jz t x.2)/\∀k,k∈(sl s).take i->B8 x.2 k=true->∀q∈(opn j.2.2.1 (k:Int)).2.2.2.1,B8 s q.toNat=true) ⟨rfl,h1,jz.refl _,fun t h _=>h,fun k hk=>by simp at hk⟩ ?_ ?_
    ·rintro i ⟨n,t⟩ hi ⟨q1,q2,q3,q4,q5⟩
     dsimp only at q1 q2 q3 q4 q5;subst q1;obtain⟨k,hk⟩:=zR (xs:=sl s) (k:=i) (by simpa[slI] using hi)
     have xZ:(slI s)[i]?=some (k:Int):=by simp[slI,hk]
     have eB:=kr.1 (zKZ hk);have xR:=fT k (h2 k eB.2)
     rw[zKu (by rw[zH,zC];omega),Ok.bind,Ok.Z0 xZ,Ok.bind,Ok.yc (n5 ⟨by omega,by omega⟩)]
     have hc:(zg (opn j.2.2.1 (k:Int)).2.2.2.1 fun (z:Int×Unit)=>yx z.1 t).val=some ((opn j.2.2.1 (k:Int)).2.2.2.1.any fun q=>!B8 t q.toNat,()):=by
      refine Zp (xs:=(opn j.2.2.1 (k:Int)).2.2.2.1) (f:=fun z=>yx z.1 t) (p:=fun q=>!B8 t q.toNat) (bL k) fun q hq=>?_
      have:=sC k q hq;show (yx q t).val=_
      unfold yx;rw[zA,KQ this.1 (YH q2 (by omega)),zKS,Comp.zB,yQ]
     rw[Ok.zK hc,Ok.zK (vQ ⟨by omega,by omega⟩),Ok.pure]
     have hany:∀ {v:Bool},(!((opn j.2.2.1 (k:Int)).2.2.2.1.any fun q=>!B8 t q.toNat))=true↔∀q∈(opn j.2.2.1 (k:Int)).2.2.2.1,B8 t q.toNat=true:=by
      simp
     refine⟨zL (by omega),by dsimp only;rw[j9,List.length_set];exact q2,?_,?_,?_⟩
     ·intro p hp
      dsimp only at hp;rw[j9,Yo q2 eB.1]at hp;split at hp
      ·rename_i e;rw[e];exact eB.2
      ·exact q3 p hp
     ·intro u hu aP p hp
      dsimp only;rw[j9,Yo q2 eB.1];split
      ·rename_i e
       subst e;rw[yQ];exact(hany (v:=true)).2 fun q hq=>q4 u hu aP _ (aP p hp q hq)
      ·exact q4 u hu aP p hp
     ·intro p hp hb q hq
      dsimp only at hb;rw[j9,Yo q2 eB.1]at hb;split at hb
      ·rename_i e
       subst e;rw[yQ]at hb;exact q3 _ ((hany (v:=true)).1 hb q hq)
      ·rename_i e
       rw[List.take_add_one,hk]at hp;rcases zKd.1 hp with hp|hp
       ·exact q5 p hp hb q hq
       ·exact zKk (by simpa using hp) e
    ·rintro⟨n,t⟩ ⟨q1,q2,q3,q4,q5⟩
     dsimp only at q1 q2 q3 q4 q5;subst q1;rw[zKv (by rw[zH,zC];omega),Ok.pure]
     refine⟨q2,q3,q4,fun k hk hb=>q5 k ?_ hb⟩
     rw[List.take_of_length_le (by simp[slI])]
     refine kr.2 ⟨?_,hk⟩;by_cases h8:k<8
     ·exact h8
     ·rw[Y1 h1 (by omega)]at hk;cases hk
   refine hpass.mono ?_;rintro r ⟨r1,r2,r3,r4⟩;rw[Ok.pure];refine⟨⟨r1,r2.trans h2,fun t ht hc=>r3 t (h3 t ht hc) hc,fun e k hk=>?_⟩,?_⟩
   ·dsimp only at e hk |-
    subst e;exact r4 k hk hk
   ·dsimp only
    rw[zKv he];by_cases e:s=r
    ·subst e;rw[zKu rfl];omega
    ·rw[zKv e]
     have:=Ez r1 h1 r2 (fun h=>e h.symm)
     omega
def alw(L:List Eff)(sp s:List Bool):Bool:=(List.range 8).all fun k=>!B8 s k || ((decide (k<L.length) && !B8 sp k) && (opn L (k:Int)).2.2.2.1.all fun q=>B8 s q.toNat)
theorem mY{L:List Eff}{sp s:List Bool}(hs:s.length=8):alw L sp s=true↔(∀k,B8 s k=true->k<L.length/\B8 sp k=false)/\XA L s:=by
 unfold alw;rw[List.all_eq_true];refine⟨fun h=>?_,fun h k _=>?_⟩
 ·have key:∀k,B8 s k=true->(k<L.length/\B8 sp k=false)/\∀q∈(opn L (k:Int)).2.2.2.1,B8 s q.toNat=true:=fun k hk=>by
   by_cases h8:k<8
   ·have:=h k (List.mem_range.2 h8)
    rw[hk]at this;simpa using this
   ·rw[Y1 hs (by omega)]at hk;cases hk
  exact⟨fun k hk=>(key k hk).1,fun k hk=>(key k hk).2⟩
 ·cases hb:B8 s k with
  |false=>rfl
  |true =>
   obtain⟨h1,h2⟩:=h.1 k hb;have h3:=h.2 k hb
   simp only[Bool.not_true,Bool.false_or,zKU,zKm,List.all_eq_true];exact⟨⟨h1,by rw[h2];rfl⟩,h3⟩
theorem wa{j:Job}{sp s:List Bool}(aI:sp.length=8)(hs:s.length=8)(hn:j.2.2.1.length<=8)(sC:Wm j.2.2.1)(bL:∀k:Nat,(opn j.2.2.1 (k:Int)).2.2.2.1.length<9223372036854775807):(vb (j,sp,()) s).val=some (alw j.2.2.1 sp s,()):=by
 unfold vb;dsimp only;refine Ok.val ?_;rw[Ok.bind];refine(Ok.count j.2.2.1.length (fun i (x:Int×List Bool)=>x.1=(i:Int)/\x.2=m8 fun k=>decide (k<i) && !B8 s k) (P:=fun r=>r=m8 fun k=>decide (k<j.2.2.1.length) && !B8 s k) ⟨rfl,rfl⟩ ?_ ?_).mono fun r hr=>?_
 ·rintro i ⟨n,t⟩ hi ⟨h1,h2⟩
  dsimp only at h1 h2;subst h1 h2;rw[zKu (by rw[zH,zC];omega),Ok.bind,Ok.Z0 (YH hs (by omega)),Ok.zK (vQ ⟨by omega,by omega⟩),Ok.pure]
  refine⟨zL (by omega),?_⟩
  dsimp only;rw[j9];exact ES (g:=fun k=>!B8 s k) (by omega)
 ·rintro⟨n,t⟩ ⟨h1,h2⟩
  dsimp only at h1 h2;subst h1 h2;rw[zKv (by rw[zH,zC];omega),Ok.pure]
 ·subst hr
  rw[Ok.bind];refine(nq aI (gl _) hn sC bL).mono ?_;rintro⟨r,u⟩ hr;rw[Ok.pure];refine Prod.ext ?_ rfl;dsimp only at hr |-;have fT:∀k,B8 (rs j.2.2.1.length sp (m8 fun k=>decide (k<j.2.2.1.length) && !B8 s k)) k=true↔k<j.2.2.1.length/\B8 s k=true/\B8 sp k=false:=fun k=>by
   constructor
   ·intro h
    obtain⟨g1,g2,g3⟩:=R2 h;rw[JG (by omega)]at g2
    simp[g1]at g2;exact⟨g1,g2,g3⟩
   ·rintro⟨g1,g2,g3⟩
    refine zEe hn ⟨g1,?_,g3⟩;rw[JG (by omega)];simp[g2]
  rw[Bool.eq_iff_iff,mQ,mY hs];constructor
  ·intro h
   subst h;exact⟨fun k hk=>by obtain⟨g1,_,g3⟩:=(fT k).1 (hr.sub k hk);exact⟨g1,g3⟩,hr.cl⟩
  ·rintro⟨h1,h2⟩
   refine jz.eq hr.len hs (fun k hk=>((fT k).1 (hr.sub k hk)).2.1) (hr.most s (fun k hk=>(fT k).2 ⟨(h1 k hk).1,hk,(h1 k hk).2⟩) h2)
def enR(p:Part)(x:vG)(cuts:List Cell):Nat->Nat->Bool×Int
 |_,0=>(true,0)
 |i,m+1=>if wt p i≠2\/x.1.getD i false=true then enR p x cuts (i+1) m else if (cov (nr cuts (cl p i)) (cl p i)).1=true then enR p x cuts (i+1) m else (false,(cov (nr cuts (cl p i)) (cl p i)).2)
def ctS(j:Job)(s:List Bool):List Cell:=j.2.1.2.2.1++(sl s).flatMap fun k:Nat=>(opn j.2.2.1 (k:Int)).1
def enq(j:Job)(s:List Bool):Bool×Int:=enR j.1 j.2.1 (ctS j s) 0 j.1.2.1.length
def enO:Bool×Int->Unit⊕Bool×Int
 |(true,_)=>.inl ()
 |(false,e)=>.inr (false,e)
theorem EZ{p:Part}{x:vG}{cuts:List Cell}:∀ {m i:Nat},(enR p x cuts i m).1=true->(enR p x cuts i m).2=0
 |0,_,_=>rfl
 |m+1,i,h=>by
  unfold enR at h |-;split
  ·rename_i h1;rw[zKu h1]at h;exact EZ h
  ·rename_i h1
   rw[zKv h1]at h;split
   ·rename_i h2;rw[zKu h2]at h;exact EZ h
   ·rename_i h2;rw[zKv h2]at h;cases h
def scan(g:Nat->Option ε)(d:ε):Nat->Nat->ε
 |_,0=>d
 |a,m+1=>match g a with
  |some e=>e
  |none=>scan g d (a+1) m
def scS(o:Option ε)(i:Nat):Comp.Step Int ε:=match o with
 |some e=>.done e
 |none=>.next ((i+1:Nat):Int)
theorem Ai{body:Int->Comp (Comp.Step Int ε)}(g:Nat->Option ε){d:ε}:∀(m a:Nat),(∀(i:Nat),a<=i->i<a+m->(body (i:Int)).val=some (scS (g i) i))->(body ((a+m:Nat):Int)).val=some (.done d)->(Comp.loop body (a:Int)).val=some (scan g d a m)
 |0,a,hb,he=>by rw[zO];rw[Nat.add_zero]at he;rw[he];rfl
 |m+1,a,hb,he=>by
  have ih:=Ai g m (a+1) (fun i h1 h2=>hb i (by omega) (by omega)) (by rw[show a+1+m=a+(m+1) by omega];exact he)
  rw[zO,hb a (zKW _) (by omega)]
  unfold scan
  cases hg:g a with
  |some e=>rfl
  |none=>exact ih
def enG(p:Part)(x:vG)(cuts:List Cell)(i:Nat):Option (Unit⊕Bool×Int):=if wt p i≠2\/x.1.getD i false=true then none else if (cov (nr cuts (cl p i)) (cl p i)).1=true then none else some (.inr (false,(cov (nr cuts (cl p i)) (cl p i)).2))
theorem Bm{p:Part}{x:vG}{cuts:List Cell}:∀ {m i:Nat},enO (enR p x cuts i m)=scan (enG p x cuts) (.inl ()) i m
 |0,_=>rfl
 |m+1,i=>by
  have ih:=Bm (p:=p) (x:=x) (cuts:=cuts) (m:=m) (i:=i+1);unfold scan enR enG;split
  ·exact ih
  ·split
   ·exact ih
   ·rfl
theorem DR{j:Job}{sp s:List Bool}(hs:s.length=8)(fT:∀k,B8 s k=true->k<j.2.2.1.length)(hw:j.1.2.2.1.length=j.1.2.1.length)(hx:j.2.1.1.length=j.1.2.1.length)(hpc:j.2.1.2.2.1.length<=1000)(bL:∀x∈j.2.2.1,x.1.length<=100000)(aP:j.1.2.1.length<=1000) :
  (vJ (j,sp,()) s).val=some ((enq j s).1,(enq j s).2,()):=by
 unfold vJ;dsimp only;refine Ok.val ?_;have oX:=qh
 have hcl0:∀ {c:List Cell},c.length<=1000000->(zf c).val=some (c,()):=fun {c} h=>Gt (zKb h oX)
 rw[Ok.zK (hcl0 (by omega)),Ok.zK (Yj hs)]
 dsimp only;rw[Ok.bind];have hln:=Jb s
 have hol:∀k:Nat,((opn j.2.2.1 (k:Int)).1).length<=100000:=fun k=>by
  unfold opn;rw[zKn]
  cases h:j.2.2.1[((k:Int)).toNat]? with
  |none=>simp
  |some x=>exact bL x (zKZ h)
 have dA:∀l:List Nat,(l.flatMap fun k:Nat=>(opn j.2.2.1 (k:Int)).1).length<=l.length * 100000:=by
  intro l
  induction l with
  |nil=>simp
  |cons k l ih=>have:=hol k;simp only[List.flatMap_cons,zKV,zKc];omega
 refine(Ok.count (slI s).length (fun i (x:List Cell×Int)=>x.2=(i:Int)/\x.1=j.2.1.2.2.1++((sl s).take i).flatMap fun k:Nat=>(opn j.2.2.1 (k:Int)).1) (P:=fun r=>r=ctS j s) ⟨rfl,by simp⟩ ?_ ?_).mono fun r hr=>?_
 ·rintro i ⟨c,n⟩ hi ⟨h1,h2⟩
  dsimp only at h1 h2;subst h1 h2;obtain⟨k,hk⟩:=zR (xs:=sl s) (k:=i) (by simpa[slI] using hi)
  have xZ:(slI s)[i]?=some (k:Int):=by simp[slI,hk]
  have eB:=kr.1 (zKZ hk);have xR:=fT k eB.2
  rw[zKu (by rw[zH,zC];omega),Ok.bind,Ok.Z0 xZ,Ok.bind,Ok.yc (n5 ⟨by omega,by omega⟩)]
  have hb:=dA ((sl s).take i);have gF:((sl s).take i).length<=8:=by have:=qV s;rw[zKp];omega
  have ho:=hol k;refine yi (by rw[zKV];omega) ?_
  rw[Ok.pure];refine⟨zL (by omega),?_⟩
  have ht:(sl s).take (i+1)=(sl s).take i++[k]:=by rw[List.take_add_one,hk];rfl
  rw[ht,List.flatMap_append,<-zKo];simp
 ·rintro⟨c,n⟩ ⟨h1,h2⟩
  dsimp only at h1 h2;subst h1 h2;rw[zKv (by rw[zH,zC];omega),Ok.pure]
  have:(sl s).take (slI s).length=sl s:=List.take_of_length_le (by simp[slI])
  rw[this];rfl
 ·subst hr
  have tU:(ctS j s).length<=900000:=by
   have:=dA (sl s);have:=qV s
   unfold ctS;rw[zKV];omega
  generalize hC:ctS j s=C at tU;rw[Ok.bind]
  have h2:∀i:Nat,i<j.1.2.1.length->(if ltI (i:Int) (zF j.1.2.1)=true then jn (fun (x:Unit)=>Comp.pure (Comp.Step.next (zJ .i64 (i:Int) 1))) fun (j':Unit->Comp (Comp.Step Int (Unit⊕Bool×Int)))=>(idx j.1.2.1 (i:Int)).bind fun x_2=>(idx j.1.2.2.1 (i:Int)).bind fun x_3=>(Comp.gd (ntB (neI x_3 2)) (idx j.2.1.1 (i:Int)) false).bind fun x_4=>if sel (neI x_3 2) true x_4=true then j' () else (zf C).bind fun y=>(zl y.1 fun (z:Cell×Unit)=>yY z.1 x_2).bind fun ys=>(ky ys x_2).bind fun x=>if ntB x.1=true then Comp.pure (Comp.Step.done (Sum.inr (false,x.2.1))) else j' () else Comp.pure (Comp.Step.done (Sum.inl ()))).val=some (scS (enG j.1 j.2.1 C i) i):=by
   intro i hi;obtain⟨c,hc⟩:=zR (xs:=j.1.2.1) (k:=i) (by omega)
   obtain⟨wv,iZ⟩:=zR (xs:=j.1.2.2.1) (k:=i) (by omega)
   obtain⟨sv,hsv⟩:=zR (xs:=j.2.1.1) (k:=i) (by omega)
   have ew:wt j.1 i=wv:=by unfold wt;exact vY iZ
   have ec:cl j.1 i=c:=by unfold cl;exact vY hc
   have es:j.2.1.1.getD i false=sv:=vY hsv;have hnx:zJ .i64 (i:Int) 1=((i+1:Nat):Int):=zL (by omega)
   rw[zKu (by rw[zH,zC];omega),vR,zA,zQ hc,zKS,zA,zQ iZ,zKS,zA,hnx]
   unfold enG;rw[ew,ec,es];by_cases hw2:wv=2
   ·have e1:neI wv 2=false:=by rw[hw2];rfl
    rw[e1];show Option.bind (idx j.2.1.1 (i:Int)).val _=_
    rw[zQ hsv,zKS]
    cases sv with
    |true=>rw[zKu (by rfl),Comp.zB,zKu (.inr rfl)];rfl
    |false =>
     rw[zKv (by simp[sel]),zKv (by simp[hw2]),zA,hcl0 (by omega),zKS,zA]
     have hd:(zl C fun (z:Cell×Unit)=>yY z.1 c).val=some (nr C c) :=
      Gm (z:=([]:Cell)) (f:=fun z=>yY z.1 c) (p:=fun q=>apa q c) (by omega) fun q _=>by
       show (yY q c).val=_
       unfold yY;rw[zA,jq,zKS,Comp.zB]
     rw[hd,zKS,zA,DW,zKS];dsimp only
     cases hcv:(cov (nr C c) c).1 with
     |true=>rw[zKv (by simp[ntB]),Comp.zB,zKu rfl];rfl
     |false=>rw[zKu (by rfl),Comp.zB,zKv (by simp)];rfl
   ·have e1:neI wv 2=true:=by rw[zj];exact hw2
    rw[e1];show Option.bind (Comp.pure false).val _=_
    rw[Comp.zB,zKS,zKu (by rfl),Comp.zB,zKu (.inl hw2)];rfl
  refine⟨enO (enq j s),?_,?_⟩
  ·have e:enO (enq j s)=scan (enG j.1 j.2.1 C) (.inl ()) 0 j.1.2.1.length:=by unfold enq;rw[hC];exact Bm
   rw[e];show (Comp.loop _ ((0:Nat):Int)).val=_
   refine Ai _ _ _ (fun i _ hi=>h2 i (by omega)) ?_
   rw[zKv (by rw[zH,zC];omega),Comp.zB]
  ·cases hq:enq j s with
   |mk b e =>
    have:=@EZ j.1 j.2.1 (ctS j s) j.1.2.1.length 0
    change (enq j s).1=true->(enq j s).2=0 at this
    rw[hq]at this
    cases b with
    |true=>have he:e=0:=this rfl;subst he;exact(Ok.pure (P:=fun x=>x=(true,(0:Int),()))).2 rfl
    |false=>exact(Ok.pure (P:=fun x=>x=(false,e,()))).2 rfl
def kp(p:Part):List Cell:=((List.range p.2.1.length).filter fun i=>decide (wt p i=1)).map (cl p)
def spk(K:List Cell)(e:Eff):Bool:=(e.1.any fun c=>!sap c K) || e.2.1.any fun c=>!sap c K
def bgn(j:Job):List Bool:=m8 fun k=>decide (k<j.2.2.1.length) && spk (kp j.1) (opn j.2.2.1 (k:Int))
theorem JQ{j:Job}(hw:j.1.2.2.1.length=j.1.2.1.length)(aP:j.1.2.1.length<=1000)(hn:j.2.2.1.length<=8)(bL:∀x∈j.2.2.1,x.1.length<=100000/\x.2.1.length<=100000):(kR j).val=some ((j,bgn j,()),()):=by
 unfold kR;refine Ok.val ?_;rw[Ok.bind];refine(Ok.count j.1.2.1.length (fun i (x:Int×List Cell)=>x.1=(i:Int)/\x.2=((List.range i).filter fun i=>decide (wt j.1 i=1)).map (cl j.1)) (P:=fun r=>r=kp j.1) ⟨rfl,rfl⟩ ?_ ?_).mono fun K hK=>?_
 ·rintro i ⟨n,s⟩ hi ⟨h1,h2⟩
  dsimp only at h1 h2;subst h1 h2;obtain⟨c,hc⟩:=zR (xs:=j.1.2.1) (k:=i) hi;obtain⟨wv,iZ⟩:=zR (xs:=j.1.2.2.1) (k:=i) (by omega)
  have ew:wt j.1 i=wv:=by unfold wt;exact vY iZ
  have ec:cl j.1 i=c:=by unfold cl;exact vY hc
  have fP:=List.length_filter_le (fun i=>decide (wt j.1 i=1)) (List.range i)
  rw[List.length_range]at fP;have hr:((List.range (i+1)).filter fun i=>decide (wt j.1 i=1)).map (cl j.1)=((List.range i).filter fun i=>decide (wt j.1 i=1)).map (cl j.1)++if wv=1 then [c] else []:=by
   rw[List.range_succ,List.filter_append,List.map_append];by_cases h:wv=1
   ·simp[ew,h,ec]
   ·simp[ew,h]
  rw[zKu (by rw[zH,zC];omega),Ok.bind,Ok.Z0 hc,Ok.bind,Ok.Z0 iZ]
  refine gN (fun y=>y=((List.range (i+1)).filter fun i=>decide (wt j.1 i=1)).map (cl j.1)) (fun j' hj=>?_) fun y hy=>?_
  ·split
   ·rename_i hb
    rw[yA]at hb;refine yi (by simp;omega) (hj _ ?_)
    rw[hr,zKu hb]
   ·rename_i hb
    rw[yA]at hb;refine hj _ ?_;rw[hr,zKv hb,List.append_nil]
  ·rw[Ok.pure]
   exact⟨zL (by omega),hy⟩
 ·rintro⟨n,s⟩ ⟨h1,h2⟩
  dsimp only at h1 h2;subst h1 h2;rw[zKv (by rw[zH,zC];omega),Ok.pure];rfl
 ·subst hK
  have xR:(kp j.1).length<=1000:=by
   have:=List.length_filter_le (fun i=>decide (wt j.1 i=1)) (List.range j.1.2.1.length)
   rw[List.length_range]at this;unfold kp;rw[List.length_map];omega
  have hm:∀c:Cell,(gA c (kp j.1)).val=some (!sap c (kp j.1),()):=fun c=>by
   unfold gA;rw[zA,XX c (by omega),zKS,Comp.zB];rfl
  have hcf:∀l:List Cell,l.length<=100000->(zI l fun (z:Cell×Unit)=>gA z.1 (kp j.1)).val=some (l.any fun c=>!sap c (kp j.1),()):=fun l hl=>Zp (xs:=l) (f:=fun z=>gA z.1 (kp j.1)) (p:=fun c=>!sap c (kp j.1)) (by omega) fun c _=>hm c
  rw[Ok.bind];refine(Ok.count j.2.2.1.length (fun i (x:Int×Job×List Bool×Unit)=>x=((i:Int),j,(m8 fun k=>decide (k<i) && spk (kp j.1) (opn j.2.2.1 (k:Int))),())) (P:=fun r=>r=(j,bgn j,())) rfl ?_ ?_).mono fun r hr=>by rw[Ok.pure,hr]
  ·rintro i x hi rfl
   dsimp only;obtain⟨e,he⟩:=zR (xs:=j.2.2.1) (k:=i) hi;have heo:opn j.2.2.1 (i:Int)=e:=by unfold opn;exact vY he
   obtain⟨s1,s2⟩:=bL e (zKZ he);rw[zKu (by rw[zH,zC];omega),Ok.bind,Ok.Z0 he,Ok.zK (hcf e.1 s1),Ok.bind]
   dsimp only;have hg:Ok (Comp.gd (ntB (e.1.any fun c=>!sap c (kp j.1))) (zI e.2.1 fun (z:Cell×Unit)=>gA z.1 (kp j.1)) (false,())) fun b=>sel (e.1.any fun c=>!sap c (kp j.1)) true b.1=spk (kp j.1) e:=by
    unfold spk
    cases hb:(e.1.any fun c=>!sap c (kp j.1)) with
    |true=>exact Ok.YI (fun h=>nomatch h) fun _=>rfl
    |false=>exact Ok.YI (fun _=>(Ok.yc (hcf e.2.1 s2)).2 rfl) fun h=>nomatch h
   refine hg.mono fun b hb=>?_
   rw[Ok.zK (vQ ⟨by omega,by omega⟩),Ok.pure]
   show _=_
   rw[hb,j9,<-heo,ES (g:=fun k=>spk (kp j.1) (opn j.2.2.1 (k:Int))) (by omega),zL (by omega)]
  ·rintro x rfl
   dsimp only;rw[zKv (by rw[zH,zC];omega),Ok.pure];rfl
structure PlOk(j:Job):Prop where
 w:j.1.2.2.1.length=j.1.2.1.length
 x:j.2.1.1.length=j.1.2.1.length
 pc:j.2.1.2.2.1.length<=1000
 sm:∀x∈j.2.2.1,x.1.length<=100000/\x.2.1.length<=100000
 cl:j.1.2.1.length<=1000
 n:j.2.2.1.length<=8
 nd:Wm j.2.2.1
 ns:∀k:Nat,(opn j.2.2.1 (k:Int)).2.2.2.1.length<9223372036854775807
 cs:zHJ j.2.2.1
def Bel(s:List Bool)(k:Nat):Prop:=s.length=8/\∀i,B8 s i=true->i<k
theorem Bel.set{s:List Bool}{k:Nat}(h:Bel s k)(hk:k<8):Bel (s.set k true) (k+1):=⟨by simp[h.1],fun i hi=>by
 rw[Yo h.1 hk]at hi;split at hi
 ·omega
 ·have:=h.2 i hi;omega⟩
theorem Bel.le{s:List Bool}{k m:Nat}(h:Bel s k)(hm:k<=m):Bel s m:=⟨h.1,fun i hi=>zKh (h.2 i hi) hm⟩
theorem RestOk.bel{L:List Eff}{sp out s:List Bool}(h:RestOk L sp out s):Bel s L.length:=⟨h.len,fun i hi=>(R2 (h.sub i hi)).1⟩
def tz:Nat->Nat
 |0=>1
 |d+1=>2 * tz d+1
theorem Dt:∀d,1<=tz d
 |0=>zKW _
 |d+1=>by unfold tz;omega
theorem JT:Bel z8 0:=⟨rfl,fun i hi=>by
 by_cases h8:i<8
 ·rw[Rg (g:=fun _=>true),JG h8]at hi;simp at hi
 ·rw[Y1 rfl (by omega)]at hi;cases hi⟩
section
variable {j:Job} (hj:PlOk j)
include hj
theorem PlOk.lU{sp s:List Bool}(hs:Bel s j.2.2.1.length):(vJ (j,sp,()) s).val=some ((enq j s).1,(enq j s).2,()) :=
 DR hs.1 hs.2 hj.w hj.x hj.pc (fun x hx=>(hj.sm x hx).1) hj.cl
theorem PlOk.short{sp inn out:List Bool}(aI:sp.length=8)(hi:inn.length=8)(ho:out.length=8):Ok (ye (j,sp,()) inn out) fun _=>True:=by
 unfold ye;rw[Ok.bind];refine(nq aI ho hj.n hj.nd hj.ns).mono ?_;rintro⟨r,u⟩ hr;rw[Ok.zK (Yj hi)];dsimp only at hr |-;rw[Ok.bind];have hln:=Jb inn
 refine(Ok.count (slI inn).length (fun i (x:Int)=>x=(i:Int)) (P:=fun _=>True) rfl ?_ ?_).mono fun r _=>?_
 ·rintro i x hi' rfl
  obtain⟨y,hy⟩:=zR hi';obtain⟨k,rfl,hk8,hkb⟩:=UU hy;rw[zKu (by rw[zH,zC];omega),Ok.bind,Ok.Z0 hy,Ok.bind,Ok.Z0 (YH hr.len hk8)]
  split
  ·rw[Ok.pure];trivial
  ·rw[Ok.pure];exact zL (by omega)
 ·rintro x rfl
  rw[zKv (by rw[zH,zC];omega),Ok.pure];trivial
 ·cases r with
  |inl u=>dsimp only;rw[Ok.zK (hj.lU hr.bel),Ok.pure];trivial
  |inr b=>dsimp only;rw[Ok.pure];trivial
theorem PlOk.tree{sp:List Bool}(aI:sp.length=8){lim:Int}:∀(m:Nat) (k:Nat) (inn out:List Bool) (y:List (Int×Int×Unit)),j.2.2.1.length-k<m->k<=j.2.2.1.length->Bel inn k->Bel out k->y.length+tz (j.2.2.1.length-k)<=1000->Ok (vZ m (k:Int) inn out lim (j,sp,()) y) fun r=>∃y',r=.inr (y',())/\y'.length<=y.length+tz (j.2.2.1.length-k):=by
 intro m
 induction m with
 |zero=>intro k inn out y h;omega
 |succ m ih =>
  intro k inn out y hm hk hi ho hy;show Ok (vm (vZ m) (k:Int) inn out lim (j,sp,()) y) _
  have hn:=hj.n;have htp:=Dt (j.2.2.1.length-k)
  unfold vm;rw[Ok.bind];have aV:Ok (Comp.gd (gtI lim 0) (y6 (j,sp,()) inn) (0,())) fun _=>True:=Ok.YI (fun _=>(Ok.yc (KT hi.1 (fun i h=>zKh (hi.2 i h) hk) hj.cs)).2 trivial) fun _=>trivial
  refine aV.mono fun c _=>?_
  refine gN (fun y'=>y'.length<=y.length+tz (j.2.2.1.length-k)) (fun j' hj'=>?_) fun y' hy'=>by rw[Ok.pure];exact⟨y',rfl,hy'⟩
  split
  ·exact yi (by simp;omega) (hj' _ (by simp;omega))
  ·rw[Ok.bind]
   have hsh:Ok (Comp.gd (ntB (geI (k:Int) (zF (j,sp,()).1.2.2.1))) (ye (j,sp,()) inn out) (false,())) fun _=>True:=Ok.YI (fun _=>hj.short aI hi.1 ho.1) fun _=>trivial
   refine hsh.mono fun b _=>?_
   refine gN (fun y'=>y'.length<=y.length+tz (j.2.2.1.length-k)) (fun j2 aK=>?_) fun y' hy'=>hj' _ hy'
   split
   ·exact yi (by simp;omega) (aK _ (by simp;omega))
   ·rename_i hns
    have gF:k<j.2.2.1.length:=by
     by_cases h:k<j.2.2.1.length
     ·exact h
     ·exfalso
      refine hns ?_;have:geI (k:Int) (zF (j,sp,()).1.2.2.1)=true:=by rw[YA];show (j.2.2.1.length:Int)<=(k:Int);omega
      rw[this];rfl
    have hd:j.2.2.1.length-k=(j.2.2.1.length-(k+1))+1:=by omega
    have htz:tz (j.2.2.1.length-k)=2 * tz (j.2.2.1.length-(k+1))+1:=by rw[hd];rfl
    refine yi (by simp;omega) ?_
    rw[Ok.zK (vQ ⟨by omega,by omega⟩),Ok.zK (vQ ⟨by omega,by omega⟩),zL (by omega),j9,j9,Ok.bind]
    have e1:(y++[(1,(k:Int),())]).length=y.length+1:=by simp
    refine(ih (k+1) (inn.set k true) out _ (by omega) (by omega) (hi.set (by omega)) (ho.le (by omega)) (by rw[e1];omega)).mono ?_
    rintro r ⟨y1,rfl,dI⟩;dsimp only;rw[Ok.bind];refine(ih (k+1) inn (out.set k true) y1 (by omega) (by omega) (hi.le (by omega)) (ho.set (by omega)) (by rw[e1]at dI;omega)).mono ?_
    rintro r ⟨y2,rfl,hy2⟩;refine aK _ ?_;dsimp only;rw[e1]at dI;omega
theorem PlOk.Wq{sp:List Bool}(aI:sp.length=8)(lim:Int):Ok (gJ (j,sp,()) lim) fun _=>True:=by
 unfold gJ;rw[Ok.bind];have hn:=hj.n
 have htz:∀d,d<=8->tz d<=511:=fun d hd=>by
  match d,hd with
  |0,_|1,_|2,_|3,_|4,_|5,_|6,_|7,_|8,_=>decide
 refine(hj.tree aI 40 0 z8 z8 [] (by omega) (by omega) JT JT (by have:=htz j.2.2.1.length hn;simp;omega)).mono ?_
 rintro r ⟨y,rfl,_⟩;dsimp only;rw[Ok.pure];trivial
end
theorem JZ{k:α->Comp β}{b:(α->Comp β)->Comp β}{P:β->Prop}(h:Ok (b k) P):Ok (jn k b) P:=h
def Fnd(j:Job)(sp:List Bool)(b:Int)(f:List Bool):Prop:=b = -1\/(Bel f j.2.2.1.length/\alw j.2.2.1 sp f=true/\(enq j f).1=true/\b=cst j.2.2.1 (sl f))
def Bst(j:Job)(sp:List Bool)(b:Int)(T:List Bool->Prop):Prop:=∀t,Bel t j.2.2.1.length->alw j.2.2.1 sp t=true->T t->(enq j t).2=0/\((enq j t).1=true->0<=b/\b<=cst j.2.2.1 (sl t))
def SV(j:Job)(sp:List Bool)(e:Int):Prop:=e≠0/\∃t,Bel t j.2.2.1.length/\alw j.2.2.1 sp t=true/\e=(enq j t).2
def Agr(s t:List Bool)(k:Nat):Prop:=∀i,i<k->B8 t i=B8 s i
structure Vst(j:Job)(sp:List Bool)(b:Int)(T:List Bool->Prop)(b':Int)(f':List Bool):Prop where
 fnd:Fnd j sp b' f'
 dn:0<=b->0<=b'/\b'<=b
 bst:Bst j sp b' T
section
variable {j:Job} (hj:PlOk j)
include hj
theorem PlOk.zKG{s:List Bool}(hs:Bel s j.2.2.1.length):0<=cst j.2.2.1 (sl s):=(Eb (m:=1048576) fun k hk=>hj.cs k (hs.2 k (kr.1 hk).2)).1
theorem PlOk.visit{sp:List Bool}(aI:sp.length=8):∀(m k:Nat) (s:List Bool) (b:Int) (f:List Bool),j.2.2.1.length-k<m->k<=j.2.2.1.length->Bel s k->Fnd j sp b f->Ok (YC m (k:Int) s (j,sp,()) b f) fun r=>match r with|.inl e=>SV j sp e|.inr y=>Vst j sp b (fun t=>Agr s t k) y.1 y.2.1:=by
 intro m
 induction m with
 |zero=>intro k s b f h;omega
 |succ m ih =>
  intro k s b f hm hk hs hf;show Ok (YT (YC m) (k:Int) s (j,sp,()) b f) _
  have hn:=hj.n;have iF:=hs.le hk
  unfold YT;rw[Ok.zK (wa aI hs.1 hj.n hj.nd hj.ns)];dsimp only;refine gN (fun x:Int×List Bool=>Vst j sp b (fun t=>t=s) x.1 x.2) (fun j' hj'=>?_) ?_
  ·by_cases ha:alw j.2.2.1 sp s=true
   ·rw[zKu ha,Ok.zK (hj.lU iF)]
    dsimp only;by_cases he:(enq j s).2=0
    ·rw[zKv (by rw[zj];simp[he]),Ok.zK (KT hs.1 (fun i h=>iF.2 i h) hj.cs)]
     dsimp only;have h0:=hj.zKG iF
     refine gN (fun x:Int×List Bool=>Vst j sp b (fun t=>t=s) x.1 x.2) (fun j2 aK=>?_) fun x hx=>hj' _ hx
     cases hq:(enq j s).1 with
     |false =>
      rw[zKv (by simp[sel])]
      exact aK _ ⟨hf,fun h=>⟨h,Int.le_refl _⟩,fun t _ _ ht=>by subst ht;exact⟨he,fun h=>by rw[hq]at h;cases h⟩⟩
     |true =>
      by_cases gF:b<0\/cst j.2.2.1 (sl s)<b
      ·rw[zKu (by
        show sel true (sel (ltI b 0) true (ltI (cst j.2.2.1 (sl s)) b)) false=true
        cases h:ltI b 0 with
        |true=>rfl
        |false =>
         show ltI (cst j.2.2.1 (sl s)) b=true
         rw[zH];rcases gF with h2|h2
         ·rw[<-zH,h]at h2;cases h2
         ·exact h2)]
       exact aK _ ⟨.inr ⟨iF,ha,hq,rfl⟩,fun h=>⟨h0,by omega⟩,fun t _ _ ht=>by subst ht;exact⟨he,fun _=>⟨h0,Int.le_refl _⟩⟩⟩
      ·rw[zKv (by
        show ¬sel true (sel (ltI b 0) true (ltI (cst j.2.2.1 (sl s)) b)) false=true
        cases h:ltI b 0 with
        |true=>rw[zH]at h;exact zKk (.inl h) gF
        |false =>
         show ¬ltI (cst j.2.2.1 (sl s)) b=true
         rw[zH];exact fun h2=>gF (.inr h2))]
       exact aK _ ⟨hf,fun h=>⟨h,Int.le_refl _⟩,fun t _ _ ht=>by subst ht;exact⟨he,fun _=>by omega⟩⟩
    ·rw[zKu (by rw[zj];exact he),Ok.pure];exact⟨he,s,iF,ha,rfl⟩
   ·rw[zKv ha]
    exact hj' _ ⟨hf,fun h=>⟨h,Int.le_refl _⟩,fun t _ h2 ht=>by subst ht;exact zKk h2 ha⟩
  ·rintro⟨b1,f1⟩ h1
   dsimp only at h1;rw[Ok.bind];refine(Ok.count (j.2.2.1.length-k) (fun i (x:Int×Int×List Bool)=>x.1=((k+i:Nat):Int)/\Vst j sp b (fun t=>t=s\/Agr s t k/\∃q,k<=q/\q<k+i/\B8 t q=true) x.2.1 x.2.2) (P:=fun r:Int×List Bool⊕Int=>match r with|.inl y=>Vst j sp b (fun t=>Agr s t k) y.1 y.2|.inr e=>SV j sp e) ?_ ?_ ?_).mono ?_
   ·refine⟨by simp,h1.fnd,h1.dn,fun t g1 g2 g3=>h1.bst t g1 g2 ?_⟩
    rcases g3 with g|⟨_,q,q1,q2,_⟩
    ·exact g
    ·omega
   ·rintro i ⟨n,b2,f2⟩ hi ⟨e1,h2⟩
    dsimp only at e1 h2;subst e1;rw[zKu (by rw[zH,zC];omega),Ok.zK (vQ ⟨by omega,by omega⟩),zL (by omega),j9,Ok.bind]
    refine(ih (k+i+1) (s.set (k+i) true) b2 f2 (by omega) (by omega) ((hs.le (by omega)).set (by omega)) h2.fnd).mono ?_
    rintro(e|⟨b3,f3,u⟩) hr
    ·dsimp only at hr |-
     rw[Ok.pure];exact hr
    ·dsimp only at hr |-
     rw[Ok.pure];have hd:∀c:Int,0<=b2/\b2<=c->0<=b3/\b3<=c:=fun c h=>by have:=hr.dn h.1;omega
     refine⟨by rw[Nat.add_assoc],hr.fnd,fun h=>hd _ (h2.dn h),fun t g1 g2 g3=>?_⟩
     by_cases cP:t=s\/Agr s t k/\∃q,k<=q/\q<k+i/\B8 t q=true
     ·obtain⟨c1,c2⟩:=h2.bst t g1 g2 cP
      exact⟨c1,fun h=>hd _ (c2 h)⟩
     ·refine hr.bst t g1 g2 ?_
      rcases g3 with g|⟨g,q,q1,q2,q3⟩
      ·exact zKk (.inl g) cP
      ·have hq:q=k+i:=by
        by_cases h:q<k+i
        ·exact zKk (.inr ⟨g,q,q1,h,q3⟩) cP
        ·omega
       subst hq;intro p hp;rw[Yo hs.1 (by omega)]
       split
       ·rename_i h;rw[h];exact q3
       ·by_cases iK:p<k
        ·exact g p iK
        ·have c1:B8 s p=false:=by
          cases h:B8 s p with
          |false=>rfl
          |true=>have:=hs.2 p h;omega
         rw[c1]
         cases h:B8 t p with
         |false=>rfl
         |true=>exact zKk (.inr ⟨g,p,by omega,by omega,h⟩) cP
   ·rintro⟨n,b2,f2⟩ ⟨e1,h2⟩
    dsimp only at e1 h2;subst e1;rw[zKv (by rw[zH,zC];show ¬((k+(j.2.2.1.length-k):Nat):Int)<(j.2.2.1.length:Int);omega),Ok.pure]
    refine⟨h2.fnd,h2.dn,fun t g1 g2 g3=>h2.bst t g1 g2 ?_⟩
    by_cases h:∃q,k<=q/\B8 t q=true
    ·obtain⟨q,q1,q2⟩:=h
     have:=g1.2 q q2;exact .inr ⟨g3,q,q1,by omega,q2⟩
    ·refine .inl (Sk g1.1 hs.1 fun p hp=>?_)
     by_cases iK:p<k
     ·exact g3 p iK
     ·have c1:B8 s p=false:=by
       cases h:B8 s p with
       |false=>rfl
       |true=>have:=hs.2 p h;omega
      rw[c1]
      cases h2:B8 t p with
      |false=>rfl
      |true=>exact zKk ⟨p,by omega,h2⟩ h
   ·rintro(⟨b2,f2⟩|e) hr
    ·dsimp only at hr |-
     rw[Ok.pure];exact hr
    ·dsimp only at hr |-
     rw[Ok.pure];exact hr
end
structure SmB(j:Job):Prop where
 s:SmJ j
 c:j.1.2.1.length<=1000
theorem RN{n:Nat}:∀ {L:List Eff} {k:Nat},efs n L k=0->∀x∈L,∀q∈x.2.2.2.1,0<=q/\q<n
 | [],_,_,x,hx=>by cases hx
 |y::L,k,h,x,hx=>by
  unfold efs at h;split at h
  ·rename_i h1
   rcases zKY.1 hx with e|e
   ·subst e
    unfold eE at h1;split at h1
    ·split at h1
     ·cases h1
     ·cases hb:x.2.2.2.1.any (wz n k) with
      |true=>rw[hb]at h1;cases h1
      |false =>
       intro q hq;have:=List.any_eq_false.1 hb q hq
       unfold wz at this;simp at this;omega
    ·rename_i h2;exact zKk h1 h2
   ·exact RN h x e
  ·rename_i h1;exact zKk h h1
theorem n4{L:List Eff}{k:Nat}:opn L (k:Int)∈L\/opn L (k:Int)=([],[],0,[],()):=by
 unfold opn;rw[zKn]
 cases h:L[((k:Int)).toNat]? with
 |none=>exact .inr rfl
 |some x=>exact .inl (zKZ h)
theorem N5{j:Job}(h:ckJ j=0):fit j.1 j.2.1=0/\j.2.2.1.length<=8/\Wm j.2.2.1:=by
 unfold ckJ at h;split at h
 ·rename_i hf
  split at h
  ·cases h
  ·rename_i h8
   split at h
   ·rename_i h1
    refine⟨hf,by omega,fun k q hq=>?_⟩
    rcases n4 (L:=j.2.2.1) (k:=k) with h2|h2
    ·exact RN h1 _ h2 q hq
    ·rw[h2]at hq;cases hq
   ·rename_i h1;exact zKk h h1
 ·rename_i h1;exact zKk h h1
theorem SmB.pl{j:Job}(h:SmB j)(hc:ckJ j=0):PlOk j:=by
 have aV:=N6 hc;obtain⟨hf,h8,sC⟩:=N5 hc;obtain⟨_,_,f1,f2,f3,f4,f5,f6⟩:=J6 hf;refine⟨f6,f1,by omega,fun x hx=>⟨(h.s.e x hx).1,(h.s.e x hx).2.1⟩,h.c,h8,sC,fun k=>?_,fun k hk=>?_⟩
 ·rcases n4 (L:=j.2.2.1) (k:=k) with h2|h2
  ·have:=(h.s.e _ h2).2.2;omega
  ·rw[h2];decide
 ·obtain⟨x,hx⟩:=zR hk
  have e:opn j.2.2.1 (k:Int)=x:=by unfold opn;exact vY hx
  rw[e];exact aV x (zKZ hx)
def Hu(j:Job)(l:List Int)(c:Int):Prop:=∃t,l=slI t/\c=cst j.2.2.1 (sl t)/\Bel t j.2.2.1.length/\alw j.2.2.1 (bgn j) t=true/\(enq j t).1=true/\∀u,Bel u j.2.2.1.length->alw j.2.2.1 (bgn j) u=true->(enq j u).2=0/\((enq j u).1=true->cst j.2.2.1 (sl t)<=cst j.2.2.1 (sl u))
def zEU(j:Job):Prop:=∀u,Bel u j.2.2.1.length->alw j.2.2.1 (bgn j) u=true->(enq j u).2=0/\(enq j u).1=false
inductive BestR(j:Job):List Int->Int->Int->Prop
 |bad:ckJ j≠0->BestR j [] 0 (ckJ j)
 |err {e}:ckJ j=0->SV j (bgn j) e->BestR j [] 0 e
 |non:ckJ j=0->zEU j->BestR j [] 0 60
 |ok {l c}:ckJ j=0->Hu j l c->BestR j l c 0
theorem QT{L:List Eff}{s:List Bool}(hc:∀k∈sl s,1<=(opn L (k:Int)).2.2.1)(h:cst L (sl s)=0):sl s=[]:=by
 cases he:sl s with
 |nil=>rfl
 |cons k l =>
  exfalso;rw[he]at h hc;have h1:∀m:List Nat,(∀i∈m,1<=(opn L (i:Int)).2.2.1)->0<=cst L m:=fun m=>by
   induction m with
   |nil=>intro _;exact Int.le_refl _
   |cons a m ih =>
    intro hm;have:=ih fun i hi=>hm i (zKe _ hi)
    have:=hm a (by simp)
    have e:cst L (a::m)=(opn L (a:Int)).2.2.1+cst L m:=by simp[cst]
    omega
  have h2:=h1 l fun i hi=>hc i (zKe _ hi)
  have h3:=hc k (by simp)
  have e:cst L (k::l)=(opn L (k:Int)).2.2.1+cst L l:=by simp[cst]
  omega
theorem G1{j:Job}(h:SmB j):Ok (gG j) fun r=>BestR j r.1 r.2.1 r.2.2.2.1:=by
 unfold gG;rw[Ok.zK (gK h.s.w h.s.e)];dsimp only;by_cases hc:ckJ j=0
 ·have hj:=h.pl hc
  have hb:(bgn j).length=8:=gl _;have hn:=hj.n
  rw[zKv (by rw[zj];simp[hc]),Ok.zK (JQ hj.w hj.cl hj.n hj.sm),Ok.bind]
  dsimp only;refine(hj.visit hb 40 0 z8 (-1) z8 (by omega) (by omega) JT (.inl rfl)).mono ?_
  rintro(e|⟨b,f,u⟩) hr
  ·dsimp only at hr |-
   refine JZ ?_;rw[Ok.pure];exact .err hc hr
  ·dsimp only at hr |-
   have fE:∀t,Bel t j.2.2.1.length->alw j.2.2.1 (bgn j) t=true->(enq j t).2=0/\((enq j t).1=true->0<=b/\b<=cst j.2.2.1 (sl t)):=fun t t1 t2=>hr.bst t t1 t2 fun i hi=>zKk hi (by omega)
   by_cases h1:b = -1
   ·rw[zKu (by rw[yA];exact h1),Ok.bind]
    refine(hj.Wq hb 0).mono fun y _=>?_
    refine JZ ?_;rw[Ok.pure];refine .non hc fun t t1 t2=>?_
    obtain⟨g1,g2⟩:=fE t t1 t2;refine⟨g1,?_⟩
    cases hq:(enq j t).1 with
    |false=>rfl
    |true=>have:=g2 hq;omega
   ·rw[zKv (by rw[yA];exact h1)]
    rcases hr.fnd with g|⟨g1,g2,g3,g4⟩
    ·exact zKk g h1
    have xN:Hu j (slI f) b:=⟨f,rfl,g4,g1,g2,g3,fun t t1 t2=>by rw[<-g4];exact⟨(fE t t1 t2).1,fun h=>((fE t t1 t2).2 h).2⟩⟩
    by_cases h0:b=0
    ·rw[zKu (by rw[yA];exact h0)]
     refine JZ ?_;rw[Ok.pure];have sK:=QT (L:=j.2.2.1) (s:=f) (fun k hk=>(hj.cs k (g1.2 k (kr.1 hk).2)).1) (by omega)
     have e:slI f=[]:=by unfold slI;rw[sK];rfl
     rw[e,h0]at xN;exact .ok hc xN
    ·rw[zKv (by rw[yA];exact h0),Ok.zK (Yj g1.1),Ok.bind]
     refine(hj.Wq hb b).mono fun y _=>?_
     refine JZ ?_;rw[Ok.pure];exact .ok hc xN
 ·rw[zKu (by rw[zj];exact hc),Ok.pure]
  exact .bad hc
def MJ(e:Int):Prop:=e=0\/e=9\/e=2
theorem zEY{pcs:List Cell}{q:Cell}:(wth pcs q).2=0\/(wth pcs q).2=9:=by
 unfold wth;split
 ·split
  ·exact .inr rfl
  ·split
   ·exact .inr rfl
   ·exact .inl rfl
 ·exact .inl rfl
theorem GP:∀ {s pcs:List Cell},(Xb pcs s).2=0\/(Xb pcs s).2=9
 | [],_=>.inl rfl
 |q::s,pcs=>by
  unfold Xb;split
  ·exact GP
  ·exact zEY
theorem zFy{s:List Cell}{c:Cell}(hc:chk c=0)(hs:∀q∈s,chk q=0):MJ (cov s c).2:=by
 show MJ (mns c s).2
 unfold mns;rw[zKu hc];split
 ·split
  ·rcases GP (s:=s) (pcs:=[ln c]) with h|h
   ·exact .inl h
   ·exact .inr (.inl h)
  ·exact .inl rfl
 ·unfold sck
  split
  ·exact .inr (.inr rfl)
  ·exact .inl (Yk.2 hs)
theorem CA:∀ {l seen:List Cell},Xu seen l=true->∀c∈l,chk c=0
 | [],_,_,c,hc=>by cases hc
 |d::l,seen,h,c,hc=>by
  unfold Xu at h;simp only[zKU]at h;rcases zKY.1 hc with e|e
  ·subst e
   have:=h.1;unfold ful at this;simp only[zKU,zKm]at this;exact this.1
  ·exact CA h.2.2 c e
theorem Gu{p:Part}(h:ckP p=0):∀c∈p.2.1,chk c=0:=by
 unfold ckP at h;split at h
 ·cases h
 ·split at h
  ·cases h
  ·cases hb:Xu [] p.2.1 with
   |true=>exact CA hb
   |false=>rw[hb]at h;cases h
theorem pA{n:Nat}:∀ {L:List Eff} {k:Nat},efs n L k=0->∀x∈L,∀c∈x.1++x.2.1,chk c=0
 | [],_,_,x,hx=>by cases hx
 |y::L,k,h,x,hx=>by
  unfold efs at h;split at h
  ·rename_i h1
   rcases zKY.1 hx with e|e
   ·subst e
    unfold eE at h1;split at h1
    ·rename_i h2;exact Yk.1 h2
    ·rename_i h2;exact zKk h1 h2
   ·exact pA h x e
  ·rename_i h1;exact zKk h h1
theorem Gv{j:Job}(h:ckJ j=0):fit j.1 j.2.1=0/\∀x∈j.2.2.1,∀c∈x.1++x.2.1,chk c=0:=by
 unfold ckJ at h;split at h
 ·rename_i hf
  split at h
  ·cases h
  ·split at h
   ·rename_i h1;exact⟨hf,pA h1⟩
   ·rename_i h1;exact zKk h h1
 ·rename_i h1;exact zKk h h1
def EOk(e:Int):Prop:=e≠35/\e≠30/\e≠60
theorem EOk.of{e:Int}(h:e=0\/e=1\/e=2\/e=3\/e=4\/e=7\/e=9\/e=12\/e=13):EOk e:=by unfold EOk;omega
theorem zGA{c:Cell}:EOk (chk c):=by
 unfold chk;split
 ·exact .of (by omega)
 ·cases c.all okP<;>exact .of (by simp)
theorem Q2:∀ {s:List Cell},EOk (ja s)
 | []=>.of (.inl rfl)
 |c::s=>by
  rw[JO];split
  ·exact Q2
  ·exact zGA
theorem zFz{p:Part}:EOk (ckP p):=by
 unfold ckP;split
 ·exact .of (by omega)
 ·split
  ·exact .of (by omega)
  ·cases Xu [] p.2.1<;>exact .of (by simp)
theorem zFp{p:Part}{x:vG}:EOk (fit p x):=by
 unfold fit;split
 ·cases Yd p x<;>exact .of (by simp)
 ·exact zFz
theorem zKE{n k:Nat}{x:Eff}:EOk (eE n k x):=by
 unfold eE;split
 ·split
  ·exact .of (by omega)
  ·cases x.2.2.2.1.any (wz n k)<;>cases rH x.2.2.2.1<;>exact .of (by simp)
 ·exact Q2
theorem zAR{n:Nat}:∀ {L:List Eff} {k:Nat},EOk (efs n L k)
 | [],_=>by unfold efs;exact .of (by omega)
 |x::L,k=>by
  unfold efs;split
  ·exact zAR
  ·exact zKE
theorem Cc{j:Job}:EOk (ckJ j):=by
 unfold ckJ;split
 ·split
  ·exact .of (by omega)
  ·split
   ·split<;>exact .of (by omega)
   ·exact zAR
 ·exact zFp
theorem MJ.e{e:Int}(h:MJ e):EOk e:=by
 rcases h with h|h|h<;>exact .of (by omega)
theorem zAP{p:Part}{x:vG}{cuts:List Cell}(hp:∀c∈p.2.1,chk c=0)(hc:∀c∈cuts,chk c=0):∀ {m i:Nat},i+m<=p.2.1.length->MJ (enR p x cuts i m).2
 |0,_,_=>.inl rfl
 |m+1,i,h=>by
  have ih:=zAP (x:=x) hp hc (m:=m) (i:=i+1) (by omega)
  unfold enR;split
  ·exact ih
  ·split
   ·exact ih
   ·exact zFy (hp _ (RT (by omega))) fun q hq=>hc q (List.mem_filter.1 hq).1
theorem Ve{j:Job}{s:List Bool}(hc:ckJ j=0):∀c∈ctS j s,chk c=0:=by
 obtain⟨hf,lB⟩:=Gv hc;obtain⟨_,_,_,_,_,f4,_,_⟩:=J6 hf;intro c hm;unfold ctS at hm;rcases zKd.1 hm with hm|hm
 ·exact Yk.1 f4 c hm
 ·obtain⟨k,_,hk⟩:=List.mem_flatMap.1 hm
  rcases n4 (L:=j.2.2.1) (k:=k) with h|h
  ·exact lB _ h c (List.mem_append_left _ hk)
  ·rw[h]at hk;cases hk
theorem Hh{j:Job}{s:List Bool}(hc:ckJ j=0):MJ (enq j s).2:=by
 obtain⟨hf,lB⟩:=Gv hc;exact zAP (Gu (J6 hf).1) (Ve hc) (by omega)
theorem BestR.e{j:Job}{l:List Int}{c e:Int}(h:BestR j l c e):e≠35/\e≠30:=by
 cases h with
 |bad h=>exact⟨Cc.1,Cc.2.1⟩
 |err h h' =>
  obtain⟨_,t,_,_,rfl⟩:=h';exact⟨(Hh h).e.1,(Hh h).e.2.1⟩
 |non h h'=>decide
 |ok h h'=>decide
theorem BestR.zJr{j:Job}{l:List Int}{c:Int}(h:BestR j l c 60):zEU j:=by
 generalize he:(60:Int)=e at h
 cases h with
 |bad h=>exact zKk he.symm Cc.2.2
 |err h h' =>
  obtain⟨_,t,_,_,rfl⟩:=h';exact zKk he.symm (Hh h).e.2.2
 |non h h'=>exact h'
 |ok h h'=>cases he
theorem BestR.ok'{j:Job}{l:List Int}{c:Int}(h:BestR j l c 0):Hu j l c:=by
 generalize he:(0:Int)=e at h
 cases h with
 |bad h=>exact zKk he.symm h
 |err h h'=>exact zKk he.symm h'.1
 |non h h'=>cases he
 |ok h h'=>exact h'
theorem PcV.fit{p:Part}{x:vG}(h:PcV p x):fit p x=0:=by
 unfold Go.Geo.fit;rw[zKu h.c,h.f];rfl
def upB(n:Nat):Int->List Int->Bool
 |_,[]=>true
 |b,k::l=>(decide (b<k) && decide (k<n)) && upB n k l
theorem Zk{n:Nat}:∀ {l:List Int} {b:Int},upB n b l=true->∀k∈l,b<k/\k<n
 | [],_,_,_,h=>by cases h
 |q::l,b,hu,k,h=>by
  unfold upB at hu;simp only[zKU,zKm]at hu;rcases zKY.1 h with e|e
  ·subst e;exact hu.1
  ·have:=Zk hu.2 k e
   exact⟨by omega,this.2⟩
theorem QS:∀ {a b:List Nat},a.Pairwise (· < ·)->b.Pairwise (· < ·)->(∀x,x∈a↔x∈b)->a=b
 | [],[],_,_,_=>rfl
 | [],y::b,_,_,h=>zKk ((h y).2 (by simp)) (by simp)
 |x::a,[],_,_,h=>zKk ((h x).1 (by simp)) (by simp)
 |x::a,y::b,ha,hb,h=>by
  rw[List.pairwise_cons]at ha hb;have e:x=y:=by
   have h1:=(h x).1 (by simp)
   have h2:=(h y).2 (by simp)
   rcases zKY.1 h1 with h1|h1
   ·exact h1
   ·rcases zKY.1 h2 with h2|h2
    ·exact h2.symm
    ·have:=ha.1 y h2
     have:=hb.1 x h1;omega
  subst e;rw[QS ha.2 hb.2 fun z=>?_]
  have h1:=h z;constructor
  ·intro hz
   have:=ha.1 z hz;rcases zKY.1 (h1.1 (by simp[hz])) with h2|h2
   ·omega
   ·exact h2
  ·intro hz
   have:=hb.1 z hz;rcases zKY.1 (h1.2 (by simp[hz])) with h2|h2
   ·omega
   ·exact h2
def stO(l:List Int):List Bool:=m8 fun k=>decide ((k:Int)∈l)
theorem nN{l:List Int}:(stO l).length=8:=gl _
theorem nH{n:Nat}:∀ {l:List Int} {b:Int}, -1<=b->upB n b l=true->(l.map Int.toNat).Pairwise (· < ·)
 | [],_,_,_=>List.Pairwise.nil
 |k::l,b,hb,h=>by
  have h0:=Zk h;unfold upB at h;simp only[zKU,zKm]at h;rw[List.map_cons,List.pairwise_cons];refine⟨fun q hq=>?_,nH (by omega) h.2⟩
  obtain⟨r,hr,rfl⟩:=List.mem_map.1 hq;have:=Zk h.2 r hr
  omega
theorem Wt{n:Nat}(hn:n<=8){l:List Int}(h:upB n (-1) l=true){k:Nat}:B8 (stO l) k=true↔(k:Int)∈l:=by
 by_cases h8:k<8
 ·unfold stO;rw[JG h8,decide_eq_true_iff]
 ·rw[Y1 nN (by omega)]
  refine⟨fun h=>(nomatch h),fun hm=>?_⟩
  have:=Zk h _ hm;omega
theorem Ex{n:Nat}(hn:n<=8){l:List Int}(h:upB n (-1) l=true):Bel (stO l) n:=⟨nN,fun i hi=>by
 have:=Zk h _ ((Wt hn h).1 hi);omega⟩
theorem US{n:Nat}(hn:n<=8){l:List Int}(h:upB n (-1) l=true):slI (stO l)=l:=by
 have h1:sl (stO l)=l.map Int.toNat:=by
  refine QS ?_ (nH (by omega) h) fun x=>?_
  ·unfold sl;exact List.Pairwise.filter _ List.pairwise_lt_range
  ·rw[kr,Wt hn h,List.mem_map]
   constructor
   ·rintro⟨_,h2⟩;exact⟨(x:Int),h2,rfl⟩
   ·rintro⟨y,hy,rfl⟩
    have:=Zk h y hy;have e:((y.toNat:Nat):Int)=y:=by omega
    rw[e];exact⟨by omega,hy⟩
 unfold slI;rw[h1,List.map_map];refine(List.map_congr_left fun y hy=>?_).trans (List.map_id l)
 have:=Zk h y hy;show ((y.toNat:Nat):Int)=y
 omega
theorem MX{n:Nat}{l:List Int}(h:upB n (-1) l=true):rH l=true:=by
 unfold rH;rw[Bool.not_eq_true'];unfold Sv;rw[List.any_eq_false];intro k hk;rw[List.mem_range']at hk;obtain⟨i,hi,rfl⟩:=hk;have hp:=nH (by omega) h
 rw[List.pairwise_iff_getElem]at hp;obtain⟨a,ha⟩:=zR (xs:=l) (k:=1+1 * i) (by omega)
 obtain⟨b,hb⟩:=zR (xs:=l) (k:=1+1 * i-1) (by omega)
 rw[vY ha,vY hb];have h2:=hp (1+1 * i-1) (1+1 * i) (by rw[List.length_map];omega) (by rw[List.length_map];omega) (by omega)
 rw[List.getElem_map,List.getElem_map]at h2;rw[zKy (by omega)]at ha hb
 cases ha;cases hb
 have:=Zk h _ (List.getElem_mem (l:=l) (n:=1+1 * i) (by omega))
 have:=Zk h _ (List.getElem_mem (l:=l) (n:=1+1 * i-1) (by omega))
 rw[decide_eq_true_iff];omega
theorem UH{n:Nat}{l:List Int}(h:upB n (-1) l=true)(hn:n<=8):l.length<=8:=by
 rw[<-US hn h];exact Jb _
theorem BD{j:Job}(hn:j.2.2.1.length<=8){l:List Int}(hl:upB j.2.2.1.length (-1) l=true):(YM j l).val=some (stO l,true,()):=by
 refine Ok.val ?_;have cA:=UH hl hn
 unfold YM;rw[Ok.bind];refine(Ok.count l.length (fun i (s:Int×List Bool)=>s.1=(i:Int)/\s.2=m8 fun k=>decide ((k:Int)∈l.take i)) (P:=fun r=>r=.inl (stO l)) ⟨rfl,?_⟩ ?_ ?_).mono fun r hr=>?_
 ·show z8=_
  refine Sk rfl (gl _) fun k hk=>?_
  rw[JG hk,Rg (g:=fun _=>true),JG hk];simp
 ·rintro i ⟨n,s⟩ hi ⟨h1,h2⟩
  dsimp only at h1 h2;subst h1 h2;obtain⟨k,hk⟩:=zR hi;have eB:=Zk hl k (zKZ hk)
  dsimp only;have e1:¬sel (ltI k 0) true (geI k (zF j.2.2.1))=true:=by rw[jD,zKs,zH,YA,zC];omega
  rw[zKu (by rw[zH,zC];omega),Ok.bind,Ok.Z0 hk,zKv e1,Ok.zK (vQ ⟨by omega,by omega⟩),Ok.pure]
  refine⟨zL (by omega),?_⟩
  dsimp only;have ek:k=((k.toNat:Nat):Int):=by omega
  have ht:l.take (i+1)=l.take i++[k]:=by rw[List.take_add_one,hk];rfl
  rw[ek,j9];refine Sk (by simp[gl]) (gl _) fun q hq=>?_
  rw[Yo (gl _) (by omega),JG hq,JG hq,ht,Bool.eq_iff_iff]
  by_cases h:q=k.toNat
  ·rw[zKu h]
   simp only[zKm,true_iff,zKd,List.mem_singleton];exact .inr (by omega)
  ·rw[zKv h]
   simp only[zKm,zKd,List.mem_singleton];constructor
   ·exact .inl
   ·rintro(g|g)
    ·exact g
    ·omega
 ·rintro⟨n,s⟩ ⟨h1,h2⟩
  dsimp only at h1 h2;subst h1 h2;dsimp only;rw[zKv (by rw[zH,zC];omega),Ok.pure,List.take_length];rfl
 ·rw[hr]
  dsimp only;rw[Ok.zK (kx (by omega)),MX hl,Ok.pure]
theorem Ns{j:Job}(h:SmB j)(hc:ckJ j=0){l:List Int}(hl:upB j.2.2.1.length (-1) l=true):(jJ j l).val=some ((enq j (stO l)).1,(enq j (stO l)).2,()):=by
 have hj:=h.pl hc;refine Ok.val ?_;unfold jJ;rw[Ok.zK (gK h.s.w h.s.e)];dsimp only;rw[zKv (by rw[zj];simp[hc]),Ok.zK (BD hj.n hl)]
 dsimp only;rw[zKv (by decide)]
 have he:=hj.lU (sp:=z8) (Ex hj.n hl);rw[Ok.bind,show ([false,false,false,false,false,false,false,false]:List Bool)=z8 from rfl,Ok.yc he,Ok.pure]
theorem I0{j:Job}(h:SmB j)(hc:ckJ j=0){l:List Int}(hl:upB j.2.2.1.length (-1) l=true):(zr j l).val=some (alw j.2.2.1 (bgn j) (stO l),()):=by
 have hj:=h.pl hc;refine Ok.val ?_;unfold zr;rw[Ok.zK (gK h.s.w h.s.e)];dsimp only;rw[zKv (by rw[zj];simp[hc]),Ok.zK (BD hj.n hl),Ok.bind]
 show Ok (kR j) _
 rw[Ok.yc (JQ hj.w hj.cl hj.n hj.sm),Ok.bind];show Ok (vb (j,bgn j,()) (stO l)) _
 rw[Ok.yc (wa (show (bgn j).length=8 from gl _) nN hj.n hj.nd hj.ns),Ok.pure];rfl
def clS(L:List Eff)(s:List Bool):List Bool:=m8 fun k=>B8 s k && (opn L (k:Int)).2.2.2.1.all fun q=>B8 s q.toNat
def itS(L:List Eff):Nat->List Bool->List Bool
 |0,s=>s
 |m+1,s=>itS L m (clS L s)
def I6(L:List Eff)(sp out:List Bool):List Bool:=itS L 8 (rs L.length sp out)
theorem mT{L:List Eff}{s:List Bool}(hs:s.length=8):jz (clS L s) s:=fun k hk=>by
 by_cases h8:k<8
 ·unfold clS at hk
  rw[JG h8,zKU]at hk;exact hk.1
 ·rw[Y1 (show (clS L s).length=8 from gl _) (by omega)]at hk;cases hk
theorem N4{L:List Eff}{s t:List Bool}(ht:t.length=8)(h:jz t s)(hc:XA L t):jz t (clS L s):=fun k hk=>by
 by_cases h8:k<8
 ·unfold clS
  rw[JG h8,h k hk,Bool.true_and,List.all_eq_true];exact fun q hq=>h _ (hc k hk q hq)
 ·rw[Y1 ht (by omega)]at hk;cases hk
theorem Vl{L:List Eff}{s:List Bool}(h:clS L s=s):XA L s:=fun k hk q hq=>by
 by_cases h8:k<8
 ·have h1:=hk
  rw[<-h]at h1;unfold clS at h1;rw[JG h8,zKU,List.all_eq_true]at h1;exact h1.2 q hq
 ·have hl:s.length=8:=by rw[<-h];exact gl _
  rw[Y1 hl (by omega)]at hk;cases hk
theorem BJ{L:List Eff}{s:List Bool}(h:clS L s=s):∀m,itS L m s=s
 |0=>rfl
 |m+1=>by show itS L m (clS L s)=s;rw[h];exact BJ h m
theorem Q0{L:List Eff}:∀(m:Nat) (s:List Bool),s.length=8->(sl s).length<=m->((itS L m s).length=8/\jz (itS L m s) s)/\clS L (itS L m s)=itS L m s/\∀t,t.length=8->jz t s->XA L t->jz t (itS L m s)
 |0,s,hs,h=>by
  refine⟨⟨hs,jz.refl _⟩,jz.eq (gl _) hs (mT hs) fun k hk=>?_,fun t _ h _=>h⟩
  exfalso;have hk:B8 s k=true:=hk
  have h8:k<8:=by
   by_cases h8:k<8
   ·exact h8
   ·rw[Y1 hs (by omega)]at hk;cases hk
  have:k∈sl s:=kr.2 ⟨h8,hk⟩;rw[List.eq_nil_of_length_eq_zero (by omega:(sl s).length=0)]at this
  cases this
 |m+1,s,hs,h=>by
  by_cases he:clS L s=s
  ·rw[BJ he (m+1)]
   exact⟨⟨hs,jz.refl _⟩,he,fun t _ h _=>h⟩
  ·have hl:(clS L s).length=8:=gl _
   have gF:=Ez hl hs (mT hs) he;obtain⟨⟨a1,a2⟩,a3,a4⟩:=Q0 m (clS L s) hl (by omega)
   exact⟨⟨a1,a2.trans (mT hs)⟩,a3,fun t ht h hc=>a4 t ht (N4 ht h hc) hc⟩
theorem E7{L:List Eff}{sp out:List Bool}:(I6 L sp out).length=8/\RestOk L sp out (I6 L sp out):=by
 have hl:(rs L.length sp out).length=8:=gl _;obtain⟨⟨a1,a2⟩,a3,a4⟩:=Q0 (L:=L) 8 (rs L.length sp out) hl (qV _);refine⟨a1,a1,a2,Vl a3,fun t h hc k hk=>?_⟩
 have cQ:jz (m8 (B8 t)) t/\jz t (m8 (B8 t)):=by
  refine⟨fun i hi=>?_,fun i hi=>?_⟩
  ·by_cases h8:i<8
   ·rw[JG h8]at hi;exact hi
   ·rw[Y1 (gl _) (by omega)]at hi;cases hi
  ·have h8:i<8:=by
    by_cases h8:i<8
    ·exact h8
    ·have:=h i hi
     rw[Y1 hl (by omega)]at this;cases this
   rw[JG h8];exact hi
 exact a4 (m8 (B8 t)) (gl _) (cQ.1.trans h) (fun i hi q hq=>cQ.2 _ (hc i (cQ.1 i hi) q hq)) k (cQ.2 k hk)
theorem RestOk.is{L:List Eff}{sp out s:List Bool}(h:RestOk L sp out s):s=I6 L sp out:=by
 obtain⟨h1,h2⟩:=E7 (L:=L) (sp:=sp) (out:=out);exact jz.eq h.len h1 (h2.most s h.sub h.cl) (h.most _ h2.sub h2.cl)
def shQ(q:List Bool->Bool×Int)(L:List Eff)(sp inn out:List Bool):Bool:=((sl inn).any fun k=>!B8 (I6 L sp out) k) || (decide ((q (I6 L sp out)).2=0) && !(q (I6 L sp out)).1)
theorem zAe{s:List Bool}{i:Nat}{y:Int}(h:(slI s)[i]?=some y):∃k:Nat,(sl s)[i]?=some k/\y=(k:Int):=by
 unfold slI at h;rw[List.getElem?_map]at h
 cases hk:(sl s)[i]? with
 |none=>rw[hk]at h;cases h
 |some k=>rw[hk]at h;cases h;exact⟨k,rfl,rfl⟩
section
variable {j:Job} (hj:PlOk j)
include hj
theorem PlOk.rN{sp inn out:List Bool}(aI:sp.length=8)(hi:inn.length=8)(ho:out.length=8):(ye (j,sp,()) inn out).val=some (shQ (enq j) j.2.2.1 sp inn out,()):=by
 refine Ok.val ?_;unfold ye;rw[Ok.bind];refine(nq aI ho hj.n hj.nd hj.ns).mono ?_;rintro⟨r,u⟩ hr;dsimp only at hr;have cQ:=hr.bel
 have kA:=hr.len;have er:=hr.is
 rw[Ok.zK (Yj hi)];dsimp only;rw[Ok.bind];unfold shQ;rw[<-er];have hln:=Jb inn
 have e0:(slI inn).length=(sl inn).length:=by unfold slI;rw[List.length_map]
 refine(Ok.count (slI inn).length (fun i (x:Int)=>x=(i:Int)/\((sl inn).take i).any (fun k=>!B8 r k)=false) (P:=fun t:Unit⊕Bool=>match t with|.inl _=>(sl inn).any (fun k=>!B8 r k)=false|.inr b=>b=true/\(sl inn).any (fun k=>!B8 r k)=true) ⟨rfl,rfl⟩ ?_ ?_).mono ?_
 ·rintro i x hi' ⟨rfl,h2⟩
  obtain⟨y,hy⟩:=zR hi';obtain⟨k,hk,rfl⟩:=zAe hy;have hk8:=(kr.1 (zKZ hk)).1
  rw[zKu (by rw[zH,zC];omega),Ok.bind,Ok.Z0 hy,Ok.bind,Ok.Z0 (YH kA hk8),yQ]
  have ht:(sl inn).take (i+1)=(sl inn).take i++[k]:=by rw[List.take_add_one,hk];rfl
  cases hb:B8 r k with
  |true =>
   rw[zKv (by simp),Ok.pure]
   refine⟨zL (by omega),?_⟩
   rw[ht,List.any_append,h2];simp[hb]
  |false =>
   rw[zKu (by rfl),Ok.pure]
   exact⟨rfl,List.any_eq_true.2 ⟨k,zKZ hk,by rw[hb];rfl⟩⟩
 ·rintro x ⟨rfl,h2⟩
  rw[zKv (by rw[zH,zC];omega),Ok.pure]
  rw[e0,List.take_length]at h2;exact h2
 ·rintro(u'|b) hb
  ·dsimp only at hb |-
   rw[Ok.zK (hj.lU cQ),Ok.pure,hb];have e1:eqI (enq j r).2 0=decide ((enq j r).2=0):=rfl
   rw[e1];cases (enq j r).1<;>cases decide ((enq j r).2=0)<;>rfl
  ·obtain⟨rfl,hb⟩:=hb
   dsimp only;rw[Ok.pure,hb];rfl
end
abbrev Nd:=Int×Int×Unit
def trL(q:List Bool->Bool×Int)(L:List Eff)(sp:List Bool)(lim:Int):Nat->Nat->List Bool->List Bool->List Nd
 |0,_,inn,_=>if 0<lim/\lim<=cst L (sl inn) then [(2,0,())] else [(3,0,())]
 |d+1,k,inn,out=>if 0<lim/\lim<=cst L (sl inn) then [(2,0,())] else if shQ q L sp inn out=true then [(3,0,())] else (1,(k:Int),())::(trL q L sp lim d (k+1) (inn.set k true) out++trL q L sp lim d (k+1) inn (out.set k true))
theorem uN{q:List Bool->Bool×Int}{L:List Eff}{sp:List Bool}{lim:Int}:∀(d k:Nat) (inn out:List Bool),(trL q L sp lim d k inn out).length<=tz d
 |0,_,_,_=>by unfold trL;split<;>exact zKW _
 |d+1,k,inn,out=>by
  have h1:=uN (q:=q) (L:=L) (sp:=sp) (lim:=lim) d (k+1) (inn.set k true) out;have h2:=uN (q:=q) (L:=L) (sp:=sp) (lim:=lim) d (k+1) inn (out.set k true)
  have h3:=Dt d;have e:tz (d+1)=2 * tz d+1:=rfl
  unfold trL;rw[e];split
  ·show 1<=_;omega
  ·split
   ·show 1<=_;omega
   ·simp only[zKc,zKV];omega
theorem tz8:∀d,d<=8->tz d<=511:=fun d hd=>by
 match d,hd with
 |0,_|1,_|2,_|3,_|4,_|5,_|6,_|7,_|8,_=>decide
section
variable {j:Job} (hj:PlOk j)
include hj
theorem PlOk.MZ{sp:List Bool}(aI:sp.length=8){lim:Int}:∀(m k:Nat) (inn out:List Bool) (y:List Nd),j.2.2.1.length-k<m->k<=j.2.2.1.length->Bel inn k->Bel out k->y.length+tz (j.2.2.1.length-k)<=1000 ->
  Ok (vZ m (k:Int) inn out lim (j,sp,()) y) fun r=>r=.inr (y++trL (enq j) j.2.2.1 sp lim (j.2.2.1.length-k) k inn out,()):=by
 intro m
 induction m with
 |zero=>intro k inn out y h;omega
 |succ m ih =>
  intro k inn out y hm hk hi ho hy;show Ok (vm (vZ m) (k:Int) inn out lim (j,sp,()) y) _
  have hn:=hj.n;have htp:=Dt (j.2.2.1.length-k)
  unfold vm;rw[Ok.bind];have bE:=KT (sp:=sp) hi.1 (fun i h=>zKh (hi.2 i h) hk) hj.cs
  have aV:Ok (Comp.gd (gtI lim 0) (y6 (j,sp,()) inn) (0,())) fun c=>sel (gtI lim 0) (geI c.1 lim) false=decide (0<lim/\lim<=cst j.2.2.1 (sl inn)):=by
   by_cases h:0<lim
   ·have e1:gtI lim 0=true:=by rw[ya];exact h
    rw[e1];refine Ok.YI (fun _=>(Ok.yc bE).2 ?_) fun h=>nomatch h
    show geI (cst j.2.2.1 (sl inn)) lim=_
    rw[Bool.eq_iff_iff,YA,decide_eq_true_iff];exact⟨fun g=>⟨h,g⟩,fun g=>g.2⟩
   ·have e1:gtI lim 0=false:=by rw[<-Bool.not_eq_true,ya];exact h
    rw[e1];refine Ok.YI (fun h=>nomatch h) fun _=>?_
    rw[zKw fun g=>h g.1];rfl
  refine aV.mono fun c hc=>?_
  rw[hc];generalize hT:trL (enq j) j.2.2.1 sp lim (j.2.2.1.length-k) k inn out=T;refine gN (fun y'=>y'=y++T) (fun j' hj'=>?_) fun y' hy'=>by rw[Ok.pure,hy']
  by_cases hl:0<lim/\lim<=cst j.2.2.1 (sl inn)
  ·rw[zKu (by rw[zKx hl])]
   refine yi (by simp;omega) (hj' _ ?_)
   rw[<-hT];cases j.2.2.1.length-k<;>(unfold trL;rw[zKu hl])
  ·rw[zKv (by rw[zKw hl];decide),Ok.bind]
   have kA:zF (j,sp,()).1.2.2.1=(j.2.2.1.length:Int):=rfl;by_cases hkn:k<j.2.2.1.length
   ·have hd:j.2.2.1.length-k=(j.2.2.1.length-(k+1))+1:=by omega
    have e1:geI (k:Int) (zF (j,sp,()).1.2.2.1)=false:=by rw[<-Bool.not_eq_true,YA,kA];omega
    rw[e1];refine Ok.YI (fun _=>(Ok.yc (hj.rN aI hi.1 ho.1)).2 ?_) fun h=>nomatch h
    rw[hd]at hT;unfold trL at hT;rw[zKv hl]at hT;refine gN (fun y'=>y'=y++T) (fun j2 aK=>?_) fun y' hy'=>hj' _ hy'
    by_cases hs:shQ (enq j) j.2.2.1 sp inn out=true
    ·rw[zKu hs]at hT
     rw[zKu (by show sel false true (shQ (enq j) j.2.2.1 sp inn out)=true;rw[hs];rfl)]
     exact yi (by simp;omega) (aK _ (by rw[<-hT]))
    ·rw[zKv hs]at hT
     rw[zKv (show ¬sel false true (shQ (enq j) j.2.2.1 sp inn out)=true from hs)]
     have htz:tz (j.2.2.1.length-k)=2 * tz (j.2.2.1.length-(k+1))+1:=by rw[hd];rfl
     refine yi (by simp;omega) ?_
     rw[Ok.zK (vQ ⟨by omega,by omega⟩),Ok.zK (vQ ⟨by omega,by omega⟩),zL (by omega),j9,j9,Ok.bind]
     have e2:(y++[(1,(k:Int),())]).length=y.length+1:=by simp
     refine(ih (k+1) (inn.set k true) out _ (by omega) (by omega) (hi.set (by omega)) (ho.le (by omega)) (by rw[e2];omega)).mono ?_
     rintro r rfl;dsimp only;rw[Ok.bind];have h3:=uN (q:=enq j) (L:=j.2.2.1) (sp:=sp) (lim:=lim) (j.2.2.1.length-(k+1)) (k+1) (inn.set k true) out
     refine(ih (k+1) inn (out.set k true) _ (by omega) (by omega) (hi.le (by omega)) (ho.set (by omega)) (by rw[zKV,e2];omega)).mono ?_
     rintro r rfl;refine aK _ ?_;dsimp only;rw[<-hT];simp[zKo]
   ·have hd:j.2.2.1.length-k=0:=by omega
    have e1:geI (k:Int) (zF (j,sp,()).1.2.2.1)=true:=by rw[YA,kA];omega
    rw[e1];refine Ok.YI (fun h=>nomatch h) fun _=>?_
    rw[hd]at hT;unfold trL at hT;rw[zKv hl]at hT;refine gN (fun y'=>y'=y++T) (fun j2 aK=>?_) fun y' hy'=>hj' _ hy'
    rw[zKu (by rfl)]
    exact yi (by simp;omega) (aK _ (by rw[<-hT]))
theorem PlOk.Wp{sp:List Bool}(aI:sp.length=8)(lim:Int):Ok (gJ (j,sp,()) lim) fun r=>r.1=trL (enq j) j.2.2.1 sp lim j.2.2.1.length 0 z8 z8:=by
 unfold gJ;rw[Ok.bind];have hn:=hj.n
 refine(hj.MZ aI 40 0 z8 z8 [] (by omega) (by omega) JT JT (by have:=tz8 j.2.2.1.length hn;simp;omega)).mono ?_
 rintro r rfl;dsimp only;rw[Ok.pure];rfl
end
end Go.Geo
end
section
namespace Go.Cvx
abbrev Q3:=Rat×Rat×Rat
abbrev Hs:=Q3×Rat
def dot(a b:Q3):Rat:=a.1 * b.1+a.2.1 * b.2.1+a.2.2 * b.2.2
def sl(h:Hs)(x:Q3):Rat:=h.2-dot h.1 x
def mv(x d:Q3)(t:Rat):Q3:=(x.1+t * d.1,x.2.1+t * d.2.1,x.2.2+t * d.2.2)
abbrev Z3:Q3:=(0,0,0)
theorem zDR(g x d:Q3)(t:Rat):dot g (mv x d t)=dot g x+t * dot g d:=by unfold dot mv;grind
theorem HR(h:Hs)(x d:Q3)(t:Rat):sl h (mv x d t)=sl h x-t * dot h.1 d:=by unfold sl;rw[zDR];grind
theorem RP{a b:Rat}(ha:0<=a)(hb:0<b):0<=a / b:=by
 by_cases h:0<=a / b
 ·exact h
 ·have h1:=Rat.mul_pos (a := -(a / b)) (b:=b) (by grind) hb
  have h2:a / b * b=a:=by grind
  grind
theorem ray{y d:Q3}:∀(r:List Hs),(∀h∈r,0<=sl h y)->(∀h∈r,dot h.1 d<=0)\/∃t,0<=t/\(∃q∈r,0<dot q.1 d/\sl q (mv y d t)=0)/\∀h∈r,0<=sl h (mv y d t)
 | [],_=>.inl fun _ h=>nomatch h
 |h::r,hy=>by
  have hs:=hy h (by simp)
  have key:∀ {t:Rat} {q:Hs},0<=t->0<=sl q y->dot q.1 d<=0->0<=sl q (mv y d t):=fun {t q} h1 h2 h3=>by
   rw[HR];have:=Rat.mul_nonneg h1 (b := -dot q.1 d) (by grind)
   grind
  have key2:∀ {t u:Rat} {q:Hs},t<=u->0<=sl q (mv y d u)->0<=t->0<=sl q y->0<=sl q (mv y d t):=fun {t u q} h1 h2 h0 h3=>by
   by_cases h4:dot q.1 d<=0
   ·exact key h0 h3 h4
   ·rw[HR]at h2 |-
    have:=Rat.mul_nonneg (a:=u-t) (b:=dot q.1 d) (by grind) (by grind)
    grind
  rcases ray (y:=y) (d:=d) r fun q hq=>hy q (zKe _ hq) with ih|⟨t,h0,⟨q,hq,hq1,hq2⟩,ih⟩
  ·by_cases hd:dot h.1 d<=0
   ·refine .inl fun q hq=>?_
    rcases zKY.1 hq with e|e
    ·subst e;exact hd
    ·exact ih q e
   ·have hd0:0<dot h.1 d:=by grind
    have ht:0<=sl h y / dot h.1 d:=RP hs (by grind)
    have he:sl h (mv y d (sl h y / dot h.1 d))=0:=by rw[HR];grind
    refine .inr ⟨sl h y / dot h.1 d,ht,⟨h,by simp,hd0,he⟩,fun q hq=>?_⟩
    rcases zKY.1 hq with e|e
    ·subst e;rw[he];grind
    ·exact key ht (hy q (by simp[e])) (ih q e)
  ·by_cases hc:0<=sl h (mv y d t)
   ·refine .inr ⟨t,h0,⟨q,by simp[hq],hq1,hq2⟩,fun p hp=>?_⟩
    rcases zKY.1 hp with e|e
    ·subst e;exact hc
    ·exact ih p e
   ·have hd0:0<dot h.1 d:=by
     by_cases h4:dot h.1 d<=0
     ·exact zKk (key h0 hs h4) hc
     ·grind
    have ht:0<=sl h y / dot h.1 d:=RP hs (by grind)
    have he:sl h (mv y d (sl h y / dot h.1 d))=0:=by rw[HR];grind
    have fP:sl h y / dot h.1 d<=t:=by
     by_cases h5:sl h y / dot h.1 d<=t
     ·exact h5
     ·exfalso
      refine hc (key2 (u:=sl h y / dot h.1 d) (by grind) (by rw[he];grind) h0 hs)
    refine .inr ⟨sl h y / dot h.1 d,ht,⟨h,by simp,hd0,he⟩,fun p hp=>?_⟩
    rcases zKY.1 hp with e|e
    ·subst e;rw[he];grind
    ·exact key2 fP (ih p e) ht (hy p (by simp[e]))
def Fe(r:List Hs)(y:Q3):Prop:=∀h∈r,0<=sl h y
def Bdd(r:List Hs):Prop:=∀d,d≠Z3->∃h∈r,0<dot h.1 d
theorem step{r:List Hs}(hb:Bdd r){y d:Q3}(hy:Fe r y)(hd:d≠Z3):∃t,0<=t/\(∃q∈r,0<dot q.1 d/\sl q (mv y d t)=0)/\Fe r (mv y d t):=by
 rcases ray (d:=d) r hy with h|h
 ·obtain⟨q,hq,h1⟩:=hb d hd
  have:=h q hq
  grind
 ·exact h
end Go.Cvx
end
section
namespace Go.Geo
open Go Go.Eng Go.Lift Go.Den Go.F
variable {α β γ δ ε σ τ:Type}
theorem lnm{l:List Pln}{x:Pln}:x∈cpc (Xr l)↔x∈l:=((Br nZ).2 x).trans KJ
open Cvx
def hs(p:Pln):Hs:=(((p.1.1:Int),(p.1.2.1:Int),(p.1.2.2.1:Int)),(p.2.1:Int))
def St(c:List Pln)(x:Q3):Prop:=∀p∈c,0<Cvx.sl (hs p) x
theorem St.app{a b:List Pln}{x:Q3}:St (a++b) x↔St a x/\St b x:=⟨fun h=>⟨fun p hp=>h p (by simp[hp]),fun p hp=>h p (by simp[hp])⟩,fun h p hp=>(zKd.1 hp).elim (h.1 p) (h.2 p)⟩
theorem St.sub{a b:List Pln}{x:Q3}(h:St a x)(hs:∀p∈b,p∈a):St b x:=fun p hp=>h p (hs p hp)
theorem St.map{a:List Pln}{x:Q3}(h:St a x):∀p∈a.map hs,0<Cvx.sl p x:=fun p hp=>by obtain⟨q,hq,rfl⟩:=List.mem_map.1 hp;exact h q hq
theorem zCx{c:Cell}(hf:ful c=true){p:Pln}:p∈ln c↔p∈c/\3<=onn p (crn (c++bx0)):=by
 unfold ln;rw[hf];show p∈cpc (Xr (fac c))↔_
 rw[lnm];unfold fac;rw[List.mem_filter,decide_eq_true_iff]
theorem zCw{c:Cell}(hf:ful c=false):ln c=[]:=by unfold ln;rw[hf];rfl
def Vd(c:List Pln):Prop:=∀p∈c,okP p=true
theorem Vd.chk{c:List Pln}(h:Vd c)(hl:c.length<=48):chk c=0:=Ec.2 ⟨hl,List.all_eq_true.2 h⟩
theorem Vd.ln{c:List Pln}(h:Vd c):Vd (ln c):=fun p hp=>by
 cases hf:ful c with
 |true=>exact h p ((zCx hf).1 hp).1
 |false=>rw[zCw hf]at hp;cases hp
def Gn(c:List Pln)(x:Q3):Prop:=∀p∈c,Cvx.sl (hs p) x≠0
theorem Gn.sub{a b:List Pln}{x:Q3}(h:Gn a x)(hs:∀p∈b,p∈a):Gn b x:=fun p hp=>h p (hs p hp)
section
variable {q:Cell} (hq:chk q=0) (hf:ful q=true) {U:List Pln} (hU:∀p∈q,p∈U)
include hq hf hU
end
section
variable {U:List Pln}
end
def spN(n:Nat)(inn out:List Bool)(x:Nd):Bool:=decide (x.1=1) && (decide (0<=x.2.1) && (decide (x.2.1<n) && (!B8 inn x.2.1.toNat && !B8 out x.2.1.toNat)))
def pvF(q:List Bool->Bool×Int)(L:List Eff)(sp:List Bool)(lim:Int):Nat->List Bool->List Bool->List Nd->Option (List Nd)
 |0,_,_,_=>none
 |_+1,_,_,[]=>none
 |m+1,inn,out,x::r=>if spN L.length inn out x=true then match pvF q L sp lim m (inn.set x.2.1.toNat true) out r with
   |none=>none
   |some r'=>pvF q L sp lim m inn (out.set x.2.1.toNat true) r'
  else if (x.1=2/\x.2.1=0)/\0<lim/\lim<=cst L (sl inn) then some r
  else if (x.1=3/\x.2.1=0)/\shQ q L sp inn out=true then some r else none
def pvB(j:Job)(lim:Int)(l:List Nd):Bool:=(decide (ckJ j=0) && decide (0<=lim)) && match pvF (enq j) j.2.2.1 (bgn j) lim 40 z8 z8 l with
 |some []=>true
 |_=>false
def und(inn out:List Bool):Nat:=((List.range 8).filter fun k=>!B8 inn k && !B8 out k).length
theorem Er{inn out inn' out':List Bool}{i:Nat}(hi:i<8)(h1:B8 inn i=false/\B8 out i=false)(h2:∀k,k<8->(!B8 inn' k && !B8 out' k)=((!B8 inn k && !B8 out k) && decide (k≠i))):und inn' out'<und inn out:=by
 unfold und;have e:(List.range 8).filter (fun k=>!B8 inn' k && !B8 out' k)=((List.range 8).filter fun k=>!B8 inn k && !B8 out k).filter fun k=>decide (k≠i):=by
  rw[List.filter_filter];refine List.filter_congr fun k hk=>?_
  rw[h2 k (List.mem_range.1 hk),Bool.and_comm]
 rw[e,List.length_filter_lt_length_iff_exists];refine⟨i,?_,by simp⟩
 rw[List.mem_filter,List.mem_range];exact⟨hi,by rw[h1.1,h1.2];rfl⟩
theorem VX{l r:List α}{at_:Nat}{x:α}(h:l.drop at_=x::r):l[at_]?=some x/\r=l.drop (at_+1)/\at_<l.length:=by
 have gF:at_<l.length:=by
  by_cases gF:at_<l.length
  ·exact gF
  ·rw[List.drop_eq_nil_of_le (by omega)]at h;cases h
 obtain⟨v,hv⟩:=zR gF;rw[drop_cons hv]at h;cases h;exact⟨hv,rfl,gF⟩
def pvO(len:Nat):Option (List Nd)->Unit⊕Int×Unit
 |none=>.inl ()
 |some r=>.inr (((len-r.length:Nat):Int),())
section
variable {j:Job} (hj:PlOk j)
include hj
theorem PlOk.walk{sp:List Bool}(aI:sp.length=8){lim:Int}{l:List Nd}(hl:l.length<=1000000):∀(m:Nat) (inn out:List Bool) (at_:Nat),und inn out<m->Bel inn j.2.2.1.length->Bel out j.2.2.1.length->at_<=l.length ->
  Ok (kG m inn out l (j,sp,()) lim (at_:Int)) fun r=>r=pvO l.length (pvF (enq j) j.2.2.1 sp lim m inn out (l.drop at_))/\∀r',pvF (enq j) j.2.2.1 sp lim m inn out (l.drop at_)=some r'->r'=l.drop (l.length-r'.length)/\r'.length<=l.length:=by
 intro m
 induction m with
 |zero=>intro inn out at_ h;omega
 |succ m ih =>
  intro inn out at_ hm hi ho cE;show Ok (Z4 (kG m) inn out l (j,sp,()) lim (at_:Int)) _
  have hn:=hj.n;unfold Z4
  cases hd:l.drop at_ with
  |nil =>
   have sV:l.length<=at_:=List.drop_eq_nil_iff.1 hd;rw[zKu (by rw[YA,zC];omega),Ok.pure]
   exact⟨rfl,fun r' h=>by cases h⟩
  |cons x r =>
   obtain⟨hx,hr,gF⟩:=VX hd;rw[zKv (by rw[YA,zC];omega),Ok.bind,Ok.Z0 hx,Ok.bind]
   have kA:zF (j,sp,()).1.2.2.1=(j.2.2.1.length:Int):=rfl;have e1:sel (sel (eqI x.1 1) (geI x.2.1 0) false) (ltI x.2.1 (zF (j,sp,()).1.2.2.1)) false=(decide (x.1=1) && (decide (0<=x.2.1) && decide (x.2.1<j.2.2.1.length))):=by
    rw[vg,vg,kA,Bool.and_assoc];rfl
   rw[e1];have hrl:r.length<=l.length:=by rw[hr,List.length_drop];omega
   have hra:r=l.drop (l.length-r.length):=by
    have:l.length-r.length=at_+1:=by rw[hr,List.length_drop];omega
    rw[this];exact hr
   have tailR:∀T:Option (List Nd),T=some r->(Ok (Comp.pure (Sum.inr (((at_+1:Nat):Int),())):Comp (Unit⊕Int×Unit)) fun z=>z=pvO l.length T/\∀r',T=some r'->r'=l.drop (l.length-r'.length)/\r'.length<=l.length):=fun T hT=>by
    rw[Ok.pure,hT];refine⟨?_,fun r' h=>by cases h;exact⟨hra,hrl⟩⟩
    have:l.length-r.length=at_+1:=by rw[hr,List.length_drop];omega
    show _=Sum.inr (((l.length-r.length:Nat):Int),())
    rw[this]
   by_cases hb:(decide (x.1=1) && (decide (0<=x.2.1) && decide (x.2.1<j.2.2.1.length)))=true
   ·have hb':=hb
    simp only[zKU,zKm]at hb';obtain⟨b1,b2,b3⟩:=hb';have lC:x.2.1.toNat<8:=by omega
    have g1:=YH hi.1 lC;have g2:=YH ho.1 lC
    rw[hb];refine Ok.YI (fun _=>(Ok.idx b2 g1).2 ?_) fun h=>nomatch h
    rw[Ok.bind];have oY:spN j.2.2.1.length inn out x=(!B8 inn x.2.1.toNat && !B8 out x.2.1.toNat):=by
     unfold spN;rw[zKx b1,zKx b2,zKx b3];rfl
    have hg:Ok (Comp.gd (sel true (ntB (B8 inn x.2.1.toNat)) false) (idx out x.2.1) false) fun b=>sel (sel true (ntB (B8 inn x.2.1.toNat)) false) (ntB b) false=spN j.2.2.1.length inn out x:=by
     rw[oY]
     cases hbi:B8 inn x.2.1.toNat with
     |true=>exact Ok.YI (fun h=>nomatch h) fun _=>rfl
     |false=>exact Ok.YI (fun _=>(Ok.idx b2 g2).2 (by cases B8 out x.2.1.toNat<;>rfl)) fun h=>nomatch h
    refine hg.mono fun b aZ=>?_
    rw[aZ,vR];by_cases hs:spN j.2.2.1.length inn out x=true
    ·rw[hs,zKu rfl]
     rw[oY,zKU,Bool.not_eq_true',Bool.not_eq_true']at hs;have aX:=hs
     have hset1:vt inn x.2.1 true=inn.set x.2.1.toNat true:=rfl;have hset2:vt out x.2.1 true=out.set x.2.1.toNat true:=rfl
     rw[Ok.zK (vQ ⟨b2,by omega⟩),Ok.zK (vQ ⟨b2,by omega⟩),hset1,hset2,zL (by omega),Ok.bind]
     have u1:und (inn.set x.2.1.toNat true) out<und inn out:=Er lC hs fun k hk=>by
      rw[Yo hi.1 lC];by_cases e:k=x.2.1.toNat
      ·rw[zKu e,zKw (by simp[e])];simp
      ·rw[zKv e,zKx e];simp
     have u2:und inn (out.set x.2.1.toNat true)<und inn out:=Er lC hs fun k hk=>by
      rw[Yo ho.1 lC];by_cases e:k=x.2.1.toNat
      ·rw[zKu e,zKw (by simp[e])];simp
      ·rw[zKv e,zKx e];simp
     have bel1:Bel (inn.set x.2.1.toNat true) j.2.2.1.length:=⟨by simp[hi.1],fun i oZ=>by
      rw[Yo hi.1 lC]at oZ;split at oZ
      ·omega
      ·exact hi.2 i oZ⟩
     have bel2:Bel (out.set x.2.1.toNat true) j.2.2.1.length:=⟨by simp[ho.1],fun i oZ=>by
      rw[Yo ho.1 lC]at oZ;split at oZ
      ·omega
      ·exact ho.2 i oZ⟩
     have es:spN j.2.2.1.length inn out x=true:=by rw[oY,hs.1,hs.2];rfl
     refine(ih (inn.set x.2.1.toNat true) out (at_+1) (by omega) bel1 ho (by omega)).mono ?_
     rintro z ⟨rfl,hz⟩;rw[<-hr]at hz |-
     have eF:∀T,pvF (enq j) j.2.2.1 sp lim m (inn.set x.2.1.toNat true) out r=T->pvF (enq j) j.2.2.1 sp lim (m+1) inn out (x::r)=match T with
       |none=>none
       |some r'=>pvF (enq j) j.2.2.1 sp lim m inn (out.set x.2.1.toNat true) r':=fun T hT=>by
      conv=>lhs;unfold pvF
      rw[zKu es,hT]
     cases hT:pvF (enq j) j.2.2.1 sp lim m (inn.set x.2.1.toNat true) out r with
     |none =>
      rw[eF none hT];show Ok (Comp.pure (Sum.inl ())) _
      rw[Ok.pure];exact⟨rfl,fun r' h=>by cases h⟩
     |some r1 =>
      obtain⟨q1,q2⟩:=hz r1 hT;rw[eF (some r1) hT];show Ok ((kG m inn (out.set x.2.1.toNat true) l (j,sp,()) lim ((l.length-r1.length:Nat):Int)).bind _) _
      rw[Ok.bind];refine(ih inn (out.set x.2.1.toNat true) (l.length-r1.length) (by omega) hi bel2 (by omega)).mono ?_
      rintro z ⟨rfl,iI⟩;rw[<-q1]at iI |-;have eM:(match some r1 with|none=>none|some r'=>pvF (enq j) j.2.2.1 sp lim m inn (out.set x.2.1.toNat true) r')=pvF (enq j) j.2.2.1 sp lim m inn (out.set x.2.1.toNat true) r1:=rfl
      rw[eM]
      cases hT2:pvF (enq j) j.2.2.1 sp lim m inn (out.set x.2.1.toNat true) r1 with
      |none =>
       show Ok (Comp.pure (Sum.inl ())) _
       rw[Ok.pure];exact⟨rfl,fun r' h=>by cases h⟩
      |some r2 =>
       show Ok (Comp.pure (Sum.inr (((l.length-r2.length:Nat):Int),()))) _
       rw[Ok.pure];exact⟨rfl,fun r' h=>by cases h;exact iI r2 hT2⟩
    ·have hs:spN j.2.2.1.length inn out x=false:=by simpa using hs
     have eF:pvF (enq j) j.2.2.1 sp lim (m+1) inn out (x::r)=none:=by
      conv=>lhs;unfold pvF
      rw[zKv (by rw[hs];decide),zKv (by omega),zKv (by omega)]
     rw[hs,zKv (by decide),Ok.bind,eF]
     have n2:eqI x.1 2=false:=by rw[<-Bool.not_eq_true,yA];omega
     have n3:eqI x.1 3=false:=by rw[<-Bool.not_eq_true,yA];omega
     rw[n2,n3];refine Ok.YI (fun h=>nomatch h) fun _=>?_
     rw[vR,zKv (by simp[sel]),Ok.bind]
     refine Ok.YI (fun h=>nomatch h) fun _=>?_
     rw[zKv (by simp[sel]),Ok.pure]
     exact⟨rfl,fun r' h=>by cases h⟩
   ·have hb:(decide (x.1=1) && (decide (0<=x.2.1) && decide (x.2.1<j.2.2.1.length)))=false:=by simpa using hb
    have hs:spN j.2.2.1.length inn out x=false:=by
     unfold spN;rw[<-Bool.and_assoc (decide (0<=x.2.1)),<-Bool.and_assoc (decide (x.1=1)),hb];rfl
    rw[hb];refine Ok.YI (fun h=>nomatch h) fun _=>?_
    rw[Ok.bind];refine Ok.YI (fun h=>nomatch h) fun _=>?_
    rw[vR,zKv (by decide),Ok.bind]
    have bE:=KT (sp:=sp) hi.1 hi.2 hj.cs;have eF:pvF (enq j) j.2.2.1 sp lim (m+1) inn out (x::r)=if (x.1=2/\x.2.1=0)/\0<lim/\lim<=cst j.2.2.1 (sl inn) then some r else if (x.1=3/\x.2.1=0)/\shQ (enq j) j.2.2.1 sp inn out=true then some r else none:=by
     conv=>lhs;unfold pvF
     rw[zKv (by rw[hs];decide)]
    rw[eF];have hcg:Ok (Comp.gd (sel (sel (eqI x.1 2) (eqI x.2.1 0) false) (gtI lim 0) false) (y6 (j,sp,()) inn) (0,())) fun c=>sel (sel (sel (eqI x.1 2) (eqI x.2.1 0) false) (gtI lim 0) false) (geI c.1 lim) false=decide ((x.1=2/\x.2.1=0)/\0<lim/\lim<=cst j.2.2.1 (sl inn)):=by
     have e2:sel (sel (eqI x.1 2) (eqI x.2.1 0) false) (gtI lim 0) false=decide ((x.1=2/\x.2.1=0)/\0<lim):=by
      rw[vg,vg,Bool.eq_iff_iff,zKU,zKU,yA,yA,ya,decide_eq_true_iff]
     rw[e2];by_cases h:(x.1=2/\x.2.1=0)/\0<lim
     ·rw[zKx h]
      refine Ok.YI (fun _=>(Ok.yc bE).2 ?_) fun h=>nomatch h
      show geI (cst j.2.2.1 (sl inn)) lim=_
      rw[Bool.eq_iff_iff,YA,decide_eq_true_iff];exact⟨fun g=>⟨h.1,h.2,g⟩,fun g=>g.2.2⟩
     ·rw[zKw h]
      refine Ok.YI (fun h=>nomatch h) fun _=>?_
      rw[zKw fun g=>h ⟨g.1,g.2.1⟩];rfl
    refine hcg.mono fun c hc=>?_
    rw[hc,vR];by_cases h2:(x.1=2/\x.2.1=0)/\0<lim/\lim<=cst j.2.2.1 (sl inn)
    ·rw[zKx h2,zKu rfl,zKu h2,zL (by omega)]
     exact tailR _ rfl
    ·rw[zKw h2,zKv (by decide),zKv h2,Ok.bind]
     have hsg:Ok (Comp.gd (sel (eqI x.1 3) (eqI x.2.1 0) false) (ye (j,sp,()) inn out) (false,())) fun c=>sel (sel (eqI x.1 3) (eqI x.2.1 0) false) c.1 false=decide ((x.1=3/\x.2.1=0)/\shQ (enq j) j.2.2.1 sp inn out=true):=by
      have e2:sel (eqI x.1 3) (eqI x.2.1 0) false=decide (x.1=3/\x.2.1=0):=by
       rw[vg,Bool.eq_iff_iff,zKU,yA,yA,decide_eq_true_iff]
      rw[e2];by_cases h:x.1=3/\x.2.1=0
      ·rw[zKx h]
       refine Ok.YI (fun _=>(Ok.yc (hj.rN aI hi.1 ho.1)).2 ?_) fun h=>nomatch h
       show shQ (enq j) j.2.2.1 sp inn out=_
       rw[Bool.eq_iff_iff,decide_eq_true_iff];exact⟨fun g=>⟨h,g⟩,fun g=>g.2⟩
      ·rw[zKw h]
       refine Ok.YI (fun h=>nomatch h) fun _=>?_
       rw[zKw fun g=>h g.1];rfl
     refine hsg.mono fun c hc=>?_
     rw[hc];by_cases h3:(x.1=3/\x.2.1=0)/\shQ (enq j) j.2.2.1 sp inn out=true
     ·rw[zKx h3,zKu rfl,zKu h3,zL (by omega)]
      exact tailR _ rfl
     ·rw[zKw h3,zKv (by decide),zKv h3,Ok.pure]
      exact⟨rfl,fun r' h=>by cases h⟩
end
theorem K5{j:Job}(h:SmB j){lim:Int}{l:List Nd}(hl:l.length<=1000000):(zp j lim l).val=some (pvB j lim l,()):=by
 refine Ok.val ?_;unfold zp pvB;rw[Ok.zK (gK h.s.w h.s.e)];dsimp only;by_cases hc:ckJ j=0
 ·have hj:=h.pl hc
  by_cases h0:0<=lim
  ·rw[zKv (by rw[jD,zKs,zj,zH];omega),Ok.zK (JQ hj.w hj.cl hj.n hj.sm),zKx hc,zKx h0,Ok.bind]
   dsimp only;have hn:=hj.n
   have hu:und z8 z8<40:=by decide
   refine(hj.walk (sp:=bgn j) (gl _) hl 40 z8 z8 0 hu (JT.le (Nat.zero_le _)) (JT.le (Nat.zero_le _)) (Nat.zero_le _)).mono ?_;rintro z ⟨rfl,hz⟩;rw[List.drop_zero]at hz |-
   cases hT:pvF (enq j) j.2.2.1 (bgn j) lim 40 z8 z8 l with
   |none =>
    show Ok (Comp.pure (false,())) _
    rw[Ok.pure];rfl
   |some r =>
    obtain⟨_,q2⟩:=hz r hT;show Ok (Comp.pure (eqI ((l.length-r.length:Nat):Int) (zF l),())) _
    rw[Ok.pure]
    cases r with
    |nil =>
     have:eqI ((l.length-([]:List Nd).length:Nat):Int) (zF l)=true:=by rw[yA,zC];simp
     rw[this];rfl
    |cons x r =>
     have:eqI ((l.length-(x::r).length:Nat):Int) (zF l)=false:=by
      rw[<-Bool.not_eq_true,yA,zC];simp only[zKc]at q2 |-;omega
     rw[this];rfl
  ·rw[zKu (by rw[jD,zKs,zj,zH];omega),Ok.pure,zKw h0,Bool.and_false];rfl
 ·rw[zKu (by rw[jD,zKs,zj];exact .inl hc),Ok.pure,zKw hc];rfl
def bls:Nat->List (List Bool)
 |0=>[[]]
 |n+1=>(bls n).map (false::·)++(bls n).map (true::·)
theorem Gz:∀ {n:Nat} {l:List Bool},l.length=n->l∈bls n
 |0,[],_=>List.mem_singleton.2 rfl
 |n+1,b::l,h=>by
  have ih:=Gz (n:=n) (l:=l) (by simpa using h)
  unfold bls;rw[zKd,List.mem_map,List.mem_map]
  cases b with
  |false=>exact .inl ⟨l,ih,rfl⟩
  |true=>exact .inr ⟨l,ih,rfl⟩
def sbs(n:Nat):List (List Bool):=(bls n).map fun l=>l++List.replicate (8-n) false
theorem nj{n:Nat}{t:List Bool}(h:Bel t n)(hn:n<=8):t∈sbs n:=by
 refine List.mem_map.2 ⟨t.take n,Gz (by rw[zKp,h.1];omega),?_⟩
 refine List.ext_getElem? fun k=>?_
 by_cases hk:k<n
 ·rw[zKi (by rw[zKp,h.1];omega),List.getElem?_take,zKu hk]
 ·rw[zKj (by rw[zKp,h.1];omega),zKp,h.1,Nat.min_eq_left hn,List.getElem?_replicate]
  split
  ·have h8:k<8:=by omega
   rw[YH h.1 h8]
   cases hb:B8 t k with
   |false=>rfl
   |true=>have:=h.2 k hb;omega
  ·rw[List.getElem?_eq_none (by rw[h.1];omega)]
def Wc(j:Job)(t:List Bool):Bool:=((decide (t.length=8) && (List.range 8).all fun k=>!B8 t k || decide (k<j.2.2.1.length)) && (alw j.2.2.1 (bgn j) t && (enq j t).1)) &&
 (sbs j.2.2.1.length).all fun u=>!alw j.2.2.1 (bgn j) u || (decide ((enq j u).2=0) && (!(enq j u).1 || (decide (cst j.2.2.1 (sl t)<cst j.2.2.1 (sl u)) || decide (u=t))))
def WY(j:Job):Bool:=(sbs j.2.2.1.length).all fun u=>!alw j.2.2.1 (bgn j) u || (decide ((enq j u).2=0) && !(enq j u).1)
theorem QD{j:Job}{l:List Int}{c e:Int}(h:BestR j l c e)(hc:ckJ j=0)(hn:j.2.2.1.length<=8){t:List Bool}(ht:Wc j t=true):l=slI t/\c=cst j.2.2.1 (sl t)/\e=0:=by
 unfold Wc at ht;simp only[zKU,zKm,List.all_eq_true]at ht;obtain⟨⟨⟨h1,h2⟩,h3,h4⟩,h5⟩:=ht;have hb:Bel t j.2.2.1.length:=⟨h1,fun i hi=>by
  by_cases h8:i<8
  ·have:=h2 i (List.mem_range.2 h8)
   rw[hi]at this;simpa using this
  ·rw[Y1 h1 (by omega)]at hi;cases hi⟩
 have key:∀u,Bel u j.2.2.1.length->alw j.2.2.1 (bgn j) u=true->(enq j u).2=0/\((enq j u).1=true->cst j.2.2.1 (sl t)<cst j.2.2.1 (sl u)\/u=t):=fun u hu ha=>by
  have:=h5 u (nj hu hn);rw[ha]at this;simp only[Bool.not_true,Bool.false_or,zKU,zKm]at this;refine⟨this.1,fun hq=>?_⟩
  have h6:=this.2;rw[hq]at h6;simpa using h6
 cases h with
 |bad h=>exact zKk hc h
 |err h h' =>
  obtain⟨g1,u,g2,g3,g4⟩:=h';exact zKk (g4.trans (key u g2 g3).1) g1
 |non h h'=>have:=(h' t hb h3).2;rw[h4]at this;cases this
 |ok h h' =>
  obtain⟨u,g1,g2,g3,g4,g5,g6⟩:=h';have:=(g6 t hb h3).2 h4
  rcases(key u g3 g4).2 g5 with g|g
  ·omega
  ·subst g;exact⟨g1,g2,rfl⟩
theorem U9{j:Job}{l:List Int}{c e:Int}(h:BestR j l c e)(hc:ckJ j=0)(hn:j.2.2.1.length<=8)(ht:WY j=true):l=[]/\c=0/\e=60:=by
 unfold WY at ht;rw[List.all_eq_true]at ht;have key:∀u,Bel u j.2.2.1.length->alw j.2.2.1 (bgn j) u=true->(enq j u).2=0/\(enq j u).1=false:=fun u hu ha=>by
  have:=ht u (nj hu hn);rw[ha]at this;simpa using this
 cases h with
 |bad h=>exact zKk hc h
 |err h h' =>
  obtain⟨g1,u,g2,g3,g4⟩:=h';exact zKk (g4.trans (key u g2 g3).1) g1
 |non h h'=>exact⟨rfl,rfl,rfl⟩
 |ok h h' =>
  obtain⟨u,g1,g2,g3,g4,g5,g6⟩:=h';have:=(key u g3 g4).2
  rw[g5]at this;cases this
def trJ(j:Job)(lim:Int):List Nd:=trL (enq j) j.2.2.1 (bgn j) lim j.2.2.1.length 0 z8 z8
structure BestP(j:Job)(l:List Int)(c:Int)(p:List Nd)(e:Int):Prop where
 b:BestR j l c e
 n:p.length<=511
 p0:e=60->p=trJ j 0
 p1:e=0->0<c->p=trJ j c
theorem pJ{j:Job}(h:SmB j):Ok (gG j) fun r=>BestP j r.1 r.2.1 r.2.2.1 r.2.2.2.1:=by
 unfold gG;rw[Ok.zK (gK h.s.w h.s.e)];dsimp only;by_cases hc:ckJ j=0
 ·have hj:=h.pl hc
  have hb:(bgn j).length=8:=gl _;have hn:=hj.n
  have cT:∀lim,(trJ j lim).length<=511:=fun lim=>zKb (uN _ _ _ _) (tz8 _ hn)
  rw[zKv (by rw[zj];simp[hc]),Ok.zK (JQ hj.w hj.cl hj.n hj.sm),Ok.bind]
  dsimp only;refine(hj.visit hb 40 0 z8 (-1) z8 (by omega) (by omega) JT (.inl rfl)).mono ?_
  rintro(e|⟨b,f,u⟩) hr
  ·dsimp only at hr |-
   refine JZ ?_;rw[Ok.pure];have hb:=BestR.err hc hr
   refine⟨hb,Nat.zero_le _,fun he=>?_,fun he _=>zKk he hr.1⟩
   obtain⟨_,t,_,_,h2⟩:=hr;exact zKk (h2.symm.trans he) (Hh hc).e.2.2
  ·dsimp only at hr |-
   have fE:∀t,Bel t j.2.2.1.length->alw j.2.2.1 (bgn j) t=true->(enq j t).2=0/\((enq j t).1=true->0<=b/\b<=cst j.2.2.1 (sl t)):=fun t t1 t2=>hr.bst t t1 t2 fun i hi=>zKk hi (by omega)
   by_cases h1:b = -1
   ·rw[zKu (by rw[yA];exact h1),Ok.bind]
    refine(hj.Wp hb 0).mono fun y hy=>?_
    refine JZ ?_;rw[Ok.pure];have hN:zEU j:=fun t t1 t2=>by
     obtain⟨g1,g2⟩:=fE t t1 t2;refine⟨g1,?_⟩
     cases hq:(enq j t).1 with
     |false=>rfl
     |true=>have:=g2 hq;omega
    refine⟨.non hc hN,?_,fun _=>hy,fun he=>by cases he⟩
    rw[hy];exact cT 0
   ·rw[zKv (by rw[yA];exact h1)]
    rcases hr.fnd with g|⟨g1,g2,g3,g4⟩
    ·exact zKk g h1
    have xN:Hu j (slI f) b:=⟨f,rfl,g4,g1,g2,g3,fun t t1 t2=>by rw[<-g4];exact⟨(fE t t1 t2).1,fun h=>((fE t t1 t2).2 h).2⟩⟩
    by_cases h0:b=0
    ·rw[zKu (by rw[yA];exact h0)]
     refine JZ ?_;rw[Ok.pure];have sK:=QT (L:=j.2.2.1) (s:=f) (fun k hk=>(hj.cs k (g1.2 k (kr.1 hk).2)).1) (by omega)
     have e:slI f=[]:=by unfold slI;rw[sK];rfl
     rw[e,h0]at xN;exact⟨.ok hc xN,Nat.zero_le _,(fun he=>by cases he),fun _ h=>zKk (show (0:Int)<0 from h) (by omega)⟩
    ·rw[zKv (by rw[yA];exact h0),Ok.zK (Yj g1.1),Ok.bind]
     refine(hj.Wp hb b).mono fun y hy=>?_
     refine JZ ?_;rw[Ok.pure];refine⟨.ok hc xN,?_,(fun he=>by cases he),fun _ _=>hy⟩
     rw[hy];exact cT b
 ·rw[zKu (by rw[zj];exact hc),Ok.pure]
  exact⟨.bad hc,Nat.zero_le _,fun he=>zKk he Cc.2.2,fun he=>zKk he hc⟩
def b31(x u:Int):Cell:=[((1,0,0,()),u,()),((-1,0,0,()),-x,()),((0,1,0,()),2,()),((0,-1,0,()),0,()),((0,0,1,()),2,()),((0,0,-1,()),0,())]
def j31(L:List Eff):Job:=(([],[b31 0 2,b31 2 4,b31 4 6],[1,2,2],()),([false,false,false],[false,false,false],[],()),L,())
def e31:List Eff:=[([b31 2 4],[],3,[],()),([b31 4 6],[],4,[],()),([b31 2 4,b31 4 6],[],9,[],()),([b31 1 6],[],1,[],())]
def n31:List Eff:=[([b31 2 4],[],3,[],()),([b31 4 6],[],4,[2],()),([b31 2 4,b31 4 6],[],9,[],()),([b31 1 6],[],1,[],())]
def l31:List Eff:=[([b31 2 4],[],3,[],()),([b31 1 6],[],1,[],())]
theorem r9:y9.val=some (j31 e31,()):=by
 have h:y9.run 20=some (j31 e31,()):=by kernel_rfl
 exact YJ h
theorem GN:gY.val=some (j31 n31,()):=by
 have h:gY.run 20=some (j31 n31,()):=by kernel_rfl
 exact YJ h
def t31(s:List Bool):Bool×Int:=((B8 s 0 && B8 s 1) || (B8 s 2 || B8 s 3),0)
def u31(s:List Bool):Bool×Int:=(B8 s 1,0)
theorem te:(sbs 4).all (fun s=>decide (enq (j31 e31) s=t31 s))=true:=by decide +kernel
theorem tl:(sbs 2).all (fun s=>decide (enq (j31 l31) s=u31 s))=true:=by decide +kernel
theorem ce:ckJ (j31 e31)=0:=by decide +kernel
theorem cn:ckJ (j31 n31)=0:=by decide +kernel
theorem zHB:ckJ (j31 l31)=0:=by decide +kernel
theorem be:bgn (j31 e31)=[false,false,false,true,false,false,false,false]:=by decide +kernel
theorem bn:bgn (j31 n31)=[false,false,false,true,false,false,false,false]:=be
theorem bl:bgn (j31 l31)=[false,true,false,false,false,false,false,false]:=by decide +kernel
theorem zAO{L:List Eff}{n:Nat}{q:List Bool->Bool×Int}(hn:n<=8)(h:(sbs n).all (fun s=>decide (enq (j31 L) s=q s))=true){s:List Bool}(hs:Bel s n):enq (j31 L) s=q s:=by
 rw[List.all_eq_true]at h;exact of_decide_eq_true (h s (nj hs hn))
theorem zKC(s:List Bool):enq (j31 n31) s=enq (j31 e31) s:=by
 have hc:ctS (j31 n31) s=ctS (j31 e31) s:=by
  unfold ctS
  congr 1
  refine zKl (fun f=>List.flatMap f (sl s)) (funext fun k=>?_)
  show (opn n31 (k:Int)).1=(opn e31 (k:Int)).1
  unfold opn
  match k with
  |0|1|2|3=>rfl
  |k+4=>rfl
 unfold enq;rw[hc];rfl
theorem rO{q q':List Bool->Bool×Int}{L:List Eff}(h:∀s,Bel s L.length->q s=q' s)(sp inn out:List Bool):shQ q L sp inn out=shQ q' L sp inn out:=by
 unfold shQ;rw[h _ (E7 (L:=L) (sp:=sp) (out:=out)).2.bel]
theorem Kw{q q':List Bool->Bool×Int}{L:List Eff}(h:∀s,Bel s L.length->q s=q' s){sp:List Bool}{lim:Int}:∀(d k:Nat) (inn out:List Bool),trL q L sp lim d k inn out=trL q' L sp lim d k inn out
 |0,_,_,_=>rfl
 |d+1,k,inn,out=>by
  unfold trL;rw[rO h,Kw h d,Kw h d]
theorem K4{q q':List Bool->Bool×Int}{L:List Eff}(h:∀s,Bel s L.length->q s=q' s){sp:List Bool}{lim:Int}:∀(m:Nat) (inn out:List Bool) (l:List Nd),pvF q L sp lim m inn out l=pvF q' L sp lim m inn out l
 |0,_,_,_=>rfl
 |m+1,_,_,[]=>rfl
 |m+1,inn,out,x::r=>by
  unfold pvF;rw[rO h,K4 h m];split
  ·cases pvF q' L sp lim m (inn.set x.2.1.toNat true) out r with
   |none=>rfl
   |some r'=>exact K4 h m _ _ _
  ·rfl
def pvT(q:List Bool->Bool×Int)(L:List Eff)(sp:List Bool)(lim:Int)(l:List Nd):Bool:=match pvF q L sp lim 40 z8 z8 l with
 |some []=>true
 |_=>false
theorem R4{L:List Eff}{q:List Bool->Bool×Int}{sp:List Bool}(hc:ckJ (j31 L)=0)(hb:bgn (j31 L)=sp)(h:∀s,Bel s L.length->enq (j31 L) s=q s){lim:Int}(h0:0<=lim)(l:List Nd):pvB (j31 L) lim l=pvT q L sp lim l:=by
 unfold pvB pvT;rw[zKx hc,zKx h0,hb];show (true && _)=_
 rw[Bool.true_and];show (match pvF (enq (j31 L)) L sp lim 40 z8 z8 l with|some []=>true|_=>false)=_
 rw[K4 h]
theorem Ws{L:List Eff}{q:List Bool->Bool×Int}{sp:List Bool}(hb:bgn (j31 L)=sp)(h:∀s,Bel s L.length->enq (j31 L) s=q s)(lim:Int):trJ (j31 L) lim=trL q L sp lim L.length 0 z8 z8:=by
 unfold trJ;rw[hb];exact Kw h _ _ _ _
def ckT(q:List Bool->Bool×Int)(L:List Eff)(sp t:List Bool):Bool:=((decide (t.length=8) && (List.range 8).all fun k=>!B8 t k || decide (k<L.length)) && (alw L sp t && (q t).1)) &&
 (sbs L.length).all fun u=>!alw L sp u || (decide ((q u).2=0) && (!(q u).1 || (decide (cst L (sl t)<cst L (sl u)) || decide (u=t))))
theorem E2{n:Nat}(hn:n<=8){u:List Bool}(h:u∈sbs n):Bel u n:=by
 unfold sbs at h;obtain⟨l,hl,rfl⟩:=List.mem_map.1 h;have key:∀(n:Nat) (l:List Bool),l∈bls n->l.length=n:=by
  intro n
  induction n with
  |zero=>intro l hl;rw[List.mem_singleton.1 (show l∈[[]] from hl)];rfl
  |succ n ih =>
   intro l hl;unfold bls at hl;rcases zKd.1 hl with h|h
   all_goals
    obtain⟨m,hm,rfl⟩:=List.mem_map.1 h;rw[zKc,ih m hm]
 have hl:=key n l hl;refine⟨by simp[hl];omega,fun i hi=>?_⟩
 by_cases h:i<n
 ·exact h
 ·exfalso
  unfold B8 at hi;rw[zKn,zKj (by omega),List.getElem?_replicate]at hi
  split at hi<;>cases hi
theorem zDX{L:List Eff}{q:List Bool->Bool×Int}{sp t:List Bool}(hn:L.length<=8)(hb:bgn (j31 L)=sp)(h:∀s,Bel s L.length->enq (j31 L) s=q s)(ht:Bel t L.length)(hk:ckT q L sp t=true):Wc (j31 L) t=true:=by
 unfold ckT at hk;unfold Wc;rw[hb,h t ht];show ((_ && (alw L sp t && (q t).1)) && (sbs L.length).all fun u=>!alw L sp u || (decide ((enq (j31 L) u).2=0) && (!(enq (j31 L) u).1 || (decide (cst L (sl t)<cst L (sl u)) || decide (u=t)))))=true
 rw[zKU]at hk |-;refine⟨hk.1,?_⟩;rw[List.all_eq_true]at hk |-;intro u hu;rw[h u (E2 hn hu)];exact hk.2 u hu
theorem zDW{L:List Eff}{q:List Bool->Bool×Int}{sp:List Bool}(hn:L.length<=8)(hb:bgn (j31 L)=sp)(h:∀s,Bel s L.length->enq (j31 L) s=q s)(hk:((sbs L.length).all fun u=>!alw L sp u || (decide ((q u).2=0) && !(q u).1))=true):WY (j31 L)=true:=by
 unfold WY;rw[hb];rw[List.all_eq_true]at hk |-;intro u hu;have lR:u∈sbs L.length:=hu
 rw[h u (E2 hn lR)];exact hk u lR
def s31(a b c d:Bool):List Bool:=[a,b,c,d,false,false,false,false]
def zGL:List Bool:=[false,false,false,true,false,false,false,false]
def Sb:List Bool:=[false,true,false,false,false,false,false,false]
theorem E3{a b c d:Bool}:Bel (s31 a b c d) 4:=⟨rfl,fun i hi=>by
 by_cases h:i<4
 ·exact h
 ·exfalso
  match i,h,hi with
  |0,h,_|1,h,_|2,h,_|3,h,_=>exact h (by decide)
  |4,_,hi|5,_,hi|6,_,hi|7,_,hi=>cases hi
  |i+8,_,hi=>rw[Y1 (s:=s31 a b c d) rfl (by omega)]at hi;cases hi⟩
theorem WR:∀s,Bel s e31.length->enq (j31 e31) s=t31 s:=fun s hs=>zAO (n:=4) (by decide) te hs
theorem zJx:∀s,Bel s n31.length->enq (j31 n31) s=t31 s:=fun s hs=>by rw[zKC];exact WR s hs
theorem zEJ:∀s,Bel s l31.length->enq (j31 l31) s=u31 s:=fun s hs=>zAO (n:=2) (by decide) tl hs
theorem zFv{L:List Eff}(h:∀x∈L,x.1.length<=2/\x.2.1.length=0/\x.2.2.2.1.length<=1):∀x∈L,SmE x:=fun x hx=>by
 obtain⟨h1,h2,h3⟩:=h x hx;exact⟨by omega,by omega,by omega⟩
theorem Ry{L:List Eff}(hn:L.length<=1000000)(h:∀x∈L,x.1.length<=2/\x.2.1.length=0/\x.2.2.2.1.length<=1):SmB (j31 L):=⟨⟨by show 3<_;omega,zFv h,hn⟩,by show 3<=1000;omega⟩
theorem sme:SmB (j31 e31):=Ry (by decide) (by decide +kernel)
theorem smn:SmB (j31 n31):=Ry (by decide) (by decide +kernel)
theorem sml:SmB (j31 l31):=Ry (by decide) (by decide +kernel)
theorem pe{lim:Int}{l:List Nd}{b:Bool}(h0:0<=lim)(hl:l.length<=1000000)(h:pvT t31 e31 zGL lim l=b):(zp (j31 e31) lim l).val=some (b,()):=by rw[K5 sme hl,R4 (sp:=zGL) ce be WR h0,h]
theorem zGV{lim:Int}{l:List Nd}{b:Bool}(h0:0<=lim)(hl:l.length<=1000000)(h:pvT u31 l31 Sb lim l=b):(zp (j31 l31) lim l).val=some (b,()):=by rw[K5 sml hl,R4 (sp:=Sb) zHB bl zEJ h0,h]
theorem RV{L:List Eff}{q:List Bool->Bool×Int}{sp t:List Bool}{l:List Int}{c:Int}(hs:SmB (j31 L))(hc:ckJ (j31 L)=0)(hb:bgn (j31 L)=sp)(h:∀s,Bel s L.length->enq (j31 L) s=q s)(hn:L.length<=8)(ht:Bel t L.length)(hk:ckT q L sp t=true)(h1:slI t=l)(h2:cst L (sl t)=c)(h3:0<c)(hl:l.length<=1000000)
  (hp:pvT q L sp c (trL q L sp c L.length 0 z8 z8)=true) (hpl:(yr l l).val=some (true,())):(yU (j31 L) c l).val=some (true,()):=by
 refine Ok.val ?_;unfold yU;rw[Ok.bind];refine(pJ hs).mono ?_;rintro⟨l',c',p,e,u⟩ hr;obtain⟨g1,g2,g3⟩:=QD hr.b hc hn (zDX hn hb h ht hk);dsimp only at g1 g2 g3;have e1:l'=l:=g1.trans h1
 have e2:c'=c:=g2.trans h2;have hp1:=hr.p1 g3 (by rw[e2];exact h3)
 have hpn:=hr.n;dsimp only at hp1 hpn |-;subst e1 e2 g3;have a1:eqI (0:Int) 0=true:=rfl
 have a2:eqI c' c'=true:=by rw[yA]
 rw[a1,a2,Ok.bind];show Ok (yr l' l') _
 rw[Ok.yc hpl,Ok.bind];show Ok (zp (j31 L) c' p) _
 have hv:pvB (j31 L) c' p=true:=by rw[R4 hc hb h (by omega),hp1,Ws hb h];exact hp
 rw[Ok.yc (K5 hs (by omega)),hv,Ok.pure];rfl
theorem QW{l:List Int}(hl:l.length<=1000000):(yr l l).val=some (true,()):=by
 refine Ok.val ?_;unfold yr;rw[zKv (by rw[zj];simp),Ok.bind]
 refine(Ok.count l.length (fun i (x:Int)=>x=(i:Int)) (P:=fun r=>r=.inl ()) rfl ?_ ?_).mono fun r hr=>by rw[hr,Ok.pure]
 ·rintro i x hi rfl
  obtain⟨b,hb⟩:=zR hi;have e:¬neI b b=true:=by rw[zj];simp
  rw[zKu (by rw[zH,zC];omega),Ok.bind,Ok.Z0 hb,Ok.bind,Ok.Z0 hb,zKv e,Ok.pure]
  exact zL (by omega)
 ·rintro x rfl
  rw[zKv (by rw[zH,zC];omega),Ok.pure]
theorem zGE:(yU (j31 e31) (Int.ofNat 7) [0,1]).val=some (true,()) :=
 RV sme ce be WR (by decide) (E3 (a:=true) (b:=true) (c:=false) (d:=false)) (by decide +kernel) rfl (by decide) (by decide) (by decide) (by decide +kernel) (QW (by decide))
theorem zGD:(yU (j31 n31) (Int.ofNat 9) [2]).val=some (true,()) :=
 RV smn cn bn zJx (by decide) (E3 (a:=false) (b:=false) (c:=true) (d:=false)) (by decide +kernel) rfl (by decide) (by decide) (by decide) (by decide +kernel) (QW (by decide))
theorem Eh{L:List Eff}{sp:List Bool}{l:List Int}{b:Bool}(hs:SmB (j31 L))(hc:ckJ (j31 L)=0)(hb:bgn (j31 L)=sp)(hl:upB L.length (-1) l=true)(h:alw L sp (stO l)=b):(zr (j31 L) l).val=some (b,()):=by
 rw[I0 hs hc hl,hb];show some (alw L sp (stO l),())=_
 rw[h]
theorem al1:(zr (j31 e31) [0,1]).val=some (true,()):=Eh sme ce be (by decide) (by decide +kernel)
theorem al2:(zr (j31 e31) [3]).val=some (false,()):=Eh sme ce be (by decide) (by decide +kernel)
theorem al4:(zr (j31 n31) [0,1]).val=some (false,()):=Eh smn cn bn (by decide) (by decide +kernel)
theorem VN:rH [1,0]=false:=by decide
theorem al3:(zr (j31 e31) [1,0]).val=some (false,()):=by
 have hj:=sme.pl ce;have ho:Ok (YM (j31 e31) [1,0]) fun r=>r.2.1=false:=by
  unfold YM;rw[Ok.bind];refine(Ok.count 2 (fun i (s:Int×List Bool)=>s.1=(i:Int)/\s.2.length=8) (P:=fun r=>∃s,r=.inl s) ⟨rfl,rfl⟩ ?_ ?_).mono ?_
  ·rintro i ⟨n,s⟩ hi ⟨h1,h2⟩
   dsimp only at h1 h2;subst h1;obtain⟨k,hk⟩:=zR (xs:=([1,0]:List Int)) (k:=i) hi;have xZ:k=1\/k=0:=by
    have:=zKZ hk;simpa using this
   have kA:zF (j31 e31).2.2.1=4:=rfl;dsimp only;have e1:¬sel (ltI k 0) true (geI k (zF (j31 e31).2.2.1))=true:=by rw[jD,zKs,zH,YA,kA];omega
   rw[zKu (by rw[zH];show (i:Int)<2;omega),Ok.bind,Ok.Z0 hk,zKv e1,Ok.zK (vQ ⟨by omega,by omega⟩),Ok.pure]
   exact⟨zL (by omega),by show (vt s k true).length=8;unfold vt;simp[h2]⟩
  ·rintro⟨n,s⟩ ⟨h1,h2⟩
   dsimp only at h1 h2;subst h1;dsimp only;rw[zKv (by rw[zH];show ¬((2:Nat):Int)<2;omega),Ok.pure]
   exact⟨s,rfl⟩
  ·rintro r ⟨s,rfl⟩
   dsimp only;rw[Ok.zK (kx (by decide)),VN,Ok.pure]
 refine Ok.val ?_;unfold zr;rw[Ok.zK (gK sme.s.w sme.s.e)];dsimp only;rw[zKv (by rw[ce];decide),Ok.bind]
 refine ho.mono ?_;rintro⟨s,b,u⟩ hb;dsimp only at hb |-;rw[hb,Ok.bind];refine Ok.YI (fun h=>nomatch h) fun _=>?_
 rw[Ok.bind];refine Ok.YI (fun h=>nomatch h) fun _=>?_
 rw[Ok.pure];rfl
theorem SM{l:List Int}{b:Bool}(hl:upB 4 (-1) l=true)(h:t31 (stO l)=(b,0)):(yD (j31 e31) b l).val=some (true,()):=by
 unfold yD;rw[zA,Ns sme ce hl,WR _ (Ex (by decide) hl),h,zKS,Comp.zB]
 cases b<;>rfl
theorem en4:Ok (jJ (j31 e31) [4]) fun r=>r.2.1=1:=by
 unfold jJ;rw[Ok.zK (gK sme.s.w sme.s.e)];dsimp only;rw[zKv (by rw[ce];decide),Ok.bind]
 have ho:Ok (YM (j31 e31) [4]) fun r=>r.2.1=false:=by
  unfold YM;rw[Ok.bind];refine(Ok.count 1 (fun i (s:Int×List Bool)=>s.1=(i:Int)/\i=0) (P:=fun r=>∃s,r=.inr (false,s)) ⟨rfl,rfl⟩ ?_ ?_).mono ?_
  ·rintro i ⟨n,s⟩ hi ⟨h1,h2⟩
   dsimp only at h1 h2;subst h1 h2;dsimp only;have hk:([4]:List Int)[0]?=some 4:=rfl
   rw[zKu (by decide),Ok.bind,Ok.Z0 hk,zKu (by decide),Ok.pure]
   exact⟨_,rfl⟩
  ·rintro s ⟨_,h2⟩
   cases h2
  ·rintro r ⟨s,rfl⟩
   dsimp only;rw[Ok.pure]
 refine ho.mono ?_;rintro⟨s,b,u⟩ hb;dsimp only at hb |-;rw[hb,zKu (by rfl),Ok.pure]
theorem zCy:Ok (gG (j31 l31)) fun r=>r.2.2.2.1=60/\r.2.2.1=trL u31 l31 Sb 0 2 0 z8 z8:=by
 refine(pJ sml).mono ?_;rintro⟨l',c',p,e,u⟩ hr;have hk:((sbs l31.length).all fun u=>!alw l31 Sb u || (decide ((u31 u).2=0) && !(u31 u).1))=true:=by decide +kernel
 obtain⟨_,_,g3⟩:=U9 hr.b zHB (by decide) (zDW (by decide) bl zEJ hk)
 dsimp only at g3 |-;refine⟨g3,(hr.p0 g3).trans ?_⟩;rw[Ws (sp:=Sb) bl zEJ];rfl
def wq:List Nd:=[(1,2,()),(2,0,()),(1,0,()),(1,1,()),(2,0,()),(3,0,()),(3,0,())]
def zGC:List Nd:=[(1,0,()),(1,1,()),(2,0,()),(3,0,()),(1,2,()),(2,0,()),(3,0,())]
theorem wb(n:Int):(yM n).val=some ((1,n,()),()):=by unfold yM;exact Comp.zB _
theorem lX:y5.val=some ((2,0,()),()):=by unfold y5;exact Comp.zB _
theorem Yg:zn.val=some ((3,0,()),()):=by unfold zn;exact Comp.zB _
theorem Mx:jG.val=some (true,()):=by
 refine Ok.val ?_;unfold jG;rw[Ok.zK r9,vR];show Ok ((zr (j31 e31) [0,1]).bind _) _
 rw[Ok.zK al1,zKu rfl];show Ok ((zr (j31 e31) [3]).bind _) _
 rw[Ok.zK al2,zKu (by rfl)]
 show Ok ((zr (j31 e31) [1,0]).bind _) _
 rw[Ok.zK al3,zKu (by rfl),Ok.zK GN]
 show Ok ((zr (j31 n31) [0,1]).bind _) _
 rw[Ok.zK al4];show Ok ((jJ (j31 e31) [4]).bind _) _
 rw[Ok.bind];refine en4.mono ?_;rintro⟨x,e,u⟩ he;dsimp only at he;rw[vR];show Ok ((yD (j31 e31) false [0]).bind _) _
 rw[Ok.zK (SM (by decide) (by decide +kernel)),zKu rfl]
 show Ok ((yD (j31 e31) true [0,1]).bind _) _
 rw[Ok.zK (SM (by decide) (by decide +kernel)),zKu rfl]
 show Ok ((yD (j31 e31) true [3]).bind _) _
 rw[Ok.zK (SM (by decide) (by decide +kernel)),zKu rfl]
 dsimp only;rw[he,zKu (by decide)]
 show Ok ((yU (j31 e31) (Int.ofNat 7) [0,1]).bind _) _
 rw[Ok.zK zGE,zKu rfl,Ok.zK GN];show Ok ((yU (j31 n31) (Int.ofNat 9) [2]).bind _) _
 rw[Ok.zK zGD,Ok.zK r9];have i0:(j31 e31).2.2.1[0]?=some ([b31 2 4],[],3,[],()):=rfl
 have i3:(j31 e31).2.2.1[3]?=some ([b31 1 6],[],1,[],()):=rfl;show Ok ((idx (j31 e31).2.2.1 0).bind _) _
 rw[Ok.bind,Ok.idx (by decide) i0]
 show Ok ((idx (j31 e31).2.2.1 3).bind _) _
 rw[Ok.bind,Ok.idx (by decide) i3]
 show Ok ((gG (j31 l31)).bind _) _
 rw[Ok.bind];refine zCy.mono ?_;rintro⟨l',c',p,e,u⟩ ⟨h60,hp⟩;dsimp only at h60 hp |-;subst h60;rw[Ok.bind];show Ok (zp (j31 l31) (Int.ofNat 0) p) _
 have hpl:p.length<=1000000:=by rw[hp];decide +kernel
 rw[Ok.yc (zGV (b:=true) (by decide) hpl (by rw[hp];decide +kernel)),Ok.bind]
 show Ok zn _
 rw[Ok.yc Yg,Ok.bind];show Ok (zp (j31 l31) (Int.ofNat 0) [(3,0,())]) _
 rw[Ok.yc (zGV (b:=true) (by decide) (by decide) (by decide +kernel)),Ok.bind]
 show Ok zn _
 rw[Ok.yc Yg,Ok.bind];show Ok (zp (j31 e31) (Int.ofNat 0) [(3,0,())]) _
 rw[Ok.yc (pe (b:=false) (by decide) (by decide) (by decide +kernel))]
 rw[Ok.zK (wb 2),Ok.zK lX,Ok.zK (wb 0),Ok.zK (wb 1),Ok.zK lX,Ok.zK Yg,Ok.zK Yg,Ok.zK (wb 0),Ok.zK (wb 1),Ok.zK lX,Ok.zK Yg,Ok.zK (wb 2),Ok.zK lX,Ok.zK Yg];show Ok ((zp (j31 e31) (Int.ofNat 7) wq).bind _) _
 rw[Ok.zK (pe (b:=true) (by decide) (by decide) (by decide +kernel))]
 show Ok ((zp (j31 e31) (Int.ofNat 7) zGC).bind _) _
 rw[Ok.zK (pe (b:=false) (by decide) (by decide) (by decide +kernel))]
 show Ok ((zp (j31 e31) (Int.ofNat 8) wq).bind _) _
 rw[Ok.zK (pe (b:=false) (by decide) (by decide) (by decide +kernel))]
 show Ok ((sub wq 0 6).bind _) _
 rw[Ok.bind,Ok.sub (by decide)]
 show Ok ((zp (j31 e31) (Int.ofNat 7) ((wq.take 6).drop 0)).bind _) _
 rw[Ok.zK (pe (b:=false) (by decide) (by decide) (by decide +kernel))]
 show Ok ((app [] wq).bind _) _
 refine yi (by decide) ?_
 rw[Ok.zK Yg];refine yi (by decide) ?_
 show Ok ((zp (j31 e31) (Int.ofNat 7) (wq++[(3,0,())])).bind _) _
 rw[Ok.zK (pe (b:=false) (by decide) (by decide) (by decide +kernel)),Ok.pure]
 rfl
theorem zFx(l:List (List Int)):Ok (kL l) fun _=>True:=by
 unfold kL;rw[Ok.bind];refine(Ok.loop (fun s:List (List Int)×Int=>0<=s.2/\s.2<=7/\(s.1.length:Int)<=s.2) (fun s=>(7-s.2).toNat)
  (P:=fun _=>True) ?_ ?_).mono fun R _=>by rw[Ok.pure];trivial
 ·exact⟨by show (0:Int)<=0;omega,by show (0:Int)<=7;omega,by show ((0:Nat):Int)<=0;omega⟩
 ·rintro⟨m,i⟩ ⟨h1,h2,h3⟩
  dsimp only at h1 h2 h3 |-;split
  ·rename_i hc
   obtain⟨c1,c2⟩:=CK hc;rw[zH]at c1 c2;rw[zC]at c1;obtain⟨z,hz⟩:=zR (xs:=l) (k:=i.toNat) (by omega)
   rw[Ok.bind,Ok.idx h1 hz,Ok.bind,Ok.idx h1 hz];refine wu ⟨by decide,by rw[kZ,zC];omega,by rw[kZ,zC];omega⟩ fun ys _=>?_
   refine yi (by simp;omega) ?_
   rw[Ok.pure];dsimp only;rw[yh (m:=i) (n:=1) (by omega)]
   exact⟨⟨by omega,by omega,by rw[zKV,zKX];omega⟩,by omega⟩
  ·rw[Ok.pure];trivial
theorem JobOk.smB{j:Job}(hj:JobOk j):SmB j:=⟨hj.sm,by have:=hj.p.1.1;omega⟩
end Go.Geo
end
