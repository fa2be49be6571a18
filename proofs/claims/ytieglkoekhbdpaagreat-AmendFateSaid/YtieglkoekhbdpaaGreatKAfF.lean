/- Lemmas behind a claim. -/
import Derived.Test.YtieglkoekhbdpaaGreatKAfE
import Derived.Test.YtieglkoekhbdpaaGreatProg
set_option linter.unusedSimpArgs false
set_option linter.unusedVariables false
open Go.Lift.Comp (zA Qd zN Zu)
section
namespace Go.Geo
open Go Go.Eng Go.Lift Go.Den Go.F
variable {α β γ δ ε σ τ:Type}
abbrev Part:=yZ×List Cell×List Int×Unit
abbrev zZ:=List Bool×List Bool×List Cell×Unit
abbrev Eff:=List Cell×List Cell×Int×List Int×Unit
abbrev Job:=Part×zZ×List Eff×Unit
def y5(w:Int):Bool:=decide (w<1) || decide (3<w)
def X7:List Cell→List Cell→Bool
 |_,[]=>true
 |seen,c::l=>ful c && (sap c seen && X7 (seen++[c]) l)
def ckP(p:Part):Int :=
 if p.2.1.length=0∨16<p.2.1.length then 2 else if p.2.2.1.length≠p.2.1.length∨p.2.2.1.any y5=true then 1 else bif X7 [] p.2.1 then 0 else 13
def kF(p:Part)(x:zZ):Bool:=(decide (x.1.length=p.2.1.length) && decide (x.2.1.length=p.2.1.length)) && (decide (x.2.2.1.length≤24) && decide (gk x.2.2.1=0))
theorem Jb{c:Cell}{s:List Cell}:gk (c::s)=if chk c=0 then gk s else chk c:=rfl
theorem je{s:List Cell}:gk s=0↔∀c∈s,chk c=0:=by
 induction s with
 |nil=>simp[gk]
 |cons c s ih =>
  unfold gk;by_cases h:chk c=0
  ·rw[if_pos h,ih]
   constructor
   ·intro h2 d hd
    rcases zLH.1 hd with rfl|hd
    ·exact h
    ·exact h2 d hd
   ·exact fun h2 d hd=>h2 d (zLN _ hd)
  ·rw[if_neg h]
   exact⟨fun e=>absurd e h,fun h2=>absurd (h2 c (by simp)) h⟩
theorem Kd{s t:List Cell}:gk (s++t)=if gk s=0 then gk t else gk s:=by
 induction s with
 |nil=>simp[gk]
 |cons c s ih =>
  rw[List.cons_append,Jb,Jb];by_cases h:chk c=0
  ·rw[if_pos h,if_pos h,ih]
  ·rw[if_neg h,if_neg h,if_neg h]
theorem w6{s:List Cell}(hl:s.length<9223372036854775807):(jU s).val=some (gk s,()):=by
 unfold jU;obtain⟨r,h1,h2⟩:=ux (s:=s) hl
  (body:=(fun (x:Int)=>if ltI x (zF s)=true then
       (idx s x).bind fun x_1=>(Go.F.vP x_1).bind fun x_2=>if neI x_2.1 0=true then Comp.pure (.done (Sum.inr x_2.1)) else Comp.pure (.next (zJ .i64 x 1))
      else Comp.pure (.done (Sum.inl ()))))
  (fun i c hc=>by
   have hlt:=zO hc;rw[if_pos (by rw[zH,zC];omega),zA,zL hc,zLB,zA,gI,zLB,zM (by omega)]
   by_cases h:chk c=0
   ·rw[if_neg (by rw[zf];simp[h]),if_pos h,Comp.zB]
   ·rw[if_pos (by rw[zf];exact h),if_neg h,Comp.zB])
  (by rw[if_neg (by rw[zH,zC];omega),Comp.zB])
 rw[zA];refine(congrArg (fun o=>Option.bind o _) h2).trans ?_
 rw[zLB,←h1];cases r<;>exact Comp.zB _
theorem XX{s:List Cell}(hl:s.length<9223372036854775807):(yb s).val=some (gk s,()):=by
 unfold yb;obtain⟨r,h1,h2⟩:=ux (s:=s) hl
  (body:=(fun (x:Int)=>if ltI x (zF s)=true then
       (idx s x).bind fun x_1=>(Go.F.zd x_1).bind fun x_2=>if neI x_2.1 0=true then Comp.pure (.done (Sum.inr x_2.1)) else Comp.pure (.next (zJ .i64 x 1))
      else Comp.pure (.done (Sum.inl ()))))
  (fun i c hc=>by
   have hlt:=zO hc;rw[if_pos (by rw[zH,zC];omega),zA,zL hc,zLB,zA,j5,zLB,zM (by omega)]
   by_cases h:chk c=0
   ·rw[if_neg (by rw[zf];simp[h]),if_pos h,Comp.zB]
   ·rw[if_pos (by rw[zf];exact h),if_neg h,Comp.zB])
  (by rw[if_neg (by rw[zH,zC];omega),Comp.zB])
 rw[zA];refine(congrArg (fun o=>Option.bind o _) h2).trans ?_
 rw[zLB,←h1];cases r<;>exact Comp.zB _
theorem UZ{xs:List α}{k:Nat}(h:k≤xs.length):(sub xs 0 (k:Int)).val=some (xs.take k):=by
 rw[YQ (by omega)];simp
theorem kR{p:Part}(hw:p.2.2.1.length<9223372036854775807):(j3 p).val=some (ckP p,()):=by
 unfold j3 ckP;by_cases h1:p.2.1.length=0∨16<p.2.1.length
 ·rw[if_pos (by rw[gm,Bool.or_eq_true,yw,yd,zC];omega),if_pos h1,Comp.zB]
 ·rw[if_neg (by rw[gm,Bool.or_eq_true,yw,yd,zC];omega),if_neg h1,zA]
  have hc:(zn p.2.2.1 fun z=>gG z.1).val=some (p.2.2.1.any y5,()) :=
   ZP (xs:=p.2.2.1) (f:=fun z=>gG z.1) (p:=y5) hw fun w _=>by
    show (gG w).val=_
    unfold gG;rw[Comp.zB,gm];rfl
  have hloop:(Comp.loop
        (fun (x:Int)=>if ltI x (zF p.2.1)=true then
          (idx p.2.1 x).bind fun x_1=>(Go.F.kG x_1).bind fun x_2=>(Comp.gd (ntB (ntB x_2.1)) (sub p.2.1 0 x) []).bind fun x_3=>(Comp.gd (ntB (ntB x_2.1)) (Go.F.yU x_1 x_3) (false,())).bind fun x_4=>if sel (ntB x_2.1) true (ntB x_4.1)=true then Comp.pure (.done (Sum.inr 13))
              else Comp.pure (.next (zJ .i64 x 1))
         else Comp.pure (.done (Sum.inl ():Unit⊕Int)))
        0).val=some (bif X7 [] p.2.1 then .inl () else .inr 13):=by
   have key:∀(ys zs:List Cell),p.2.1=zs++ys→(Comp.loop
        (fun (x:Int)=>if ltI x (zF p.2.1)=true then
          (idx p.2.1 x).bind fun x_1=>(Go.F.kG x_1).bind fun x_2=>(Comp.gd (ntB (ntB x_2.1)) (sub p.2.1 0 x) []).bind fun x_3=>(Comp.gd (ntB (ntB x_2.1)) (Go.F.yU x_1 x_3) (false,())).bind fun x_4=>if sel (ntB x_2.1) true (ntB x_4.1)=true then Comp.pure (.done (Sum.inr 13))
              else Comp.pure (.next (zJ .i64 x 1))
         else Comp.pure (.done (Sum.inl ():Unit⊕Int))) (zs.length:Int)).val=some (bif X7 zs ys then .inl () else .inr 13):=by
    intro ys
    induction ys with
    |nil =>
     intro zs hx;rw[zN,if_neg (by rw[zH,zC,hx];simp),Comp.zB];rfl
    |cons y ys ih =>
     intro zs hx;have hy:p.2.1[zs.length]?=some y:=by rw[hx];simp
     have hlt:=zO hy;have ht:p.2.1.take zs.length=zs:=by rw[hx];simp
     rw[zN,if_pos (by rw[zH,zC];omega),zA,zL hy,zLB,zA,Zi,zLB]
     unfold X7
     cases hf:ful y with
     |false =>
      rw[zA];show Option.bind (Option.bind (Comp.pure _).val _) _=_
      rw[Comp.zB,zLB,zA];show Option.bind (Option.bind (Comp.pure _).val _) _=_
      rw[Comp.zB,zLB,if_pos (by rfl),Comp.zB];rfl
     |true =>
      rw[zA];show Option.bind (Option.bind (sub p.2.1 0 (zs.length:Int)).val _) _=_
      rw[UZ (by omega),zLB,ht,zA]
      show Option.bind (Option.bind (yU y zs).val _) _=_
      rw[gN y (by omega),zLB]
      cases ha:sap y zs with
      |false=>rw[if_pos (by rfl),Comp.zB];rfl
      |true =>
       rw[if_neg (by simp[sel,ntB]),Comp.zB,zM (by omega),zLB]
       simpa using ih (zs++[y]) (by rw[hx];simp)
   exact key p.2.1 [] rfl
  have htail:∀b:Bool,((Comp.pure (bif b then Sum.inl () else Sum.inr 13):Comp (Unit⊕Int)).bind fun (x:Unit⊕Int)=>match x with
      |Sum.inl x=>(Comp.pure (0,()):Comp (Int×Unit))
      |Sum.inr x=>Comp.pure (x,())).val=some (bif b then 0 else 13,()):=fun b=>by
   cases b<;>(rw[zA,Comp.zB,zLB];exact Comp.zB _)
  by_cases h2:p.2.2.1.length≠p.2.1.length
  ·have e:neI (zF p.2.2.1) (zF p.2.1)=true:=by rw[zf,zC,zC];omega
   rw[e];show Option.bind (Comp.pure _).val _=_
   rw[Comp.zB,zLB,if_pos (by rfl),Comp.zB,if_pos (.inl h2)]
  ·have e:neI (zF p.2.2.1) (zF p.2.1)=false:=by unfold neI;rw[decide_eq_false];rw[zC,zC];omega
   rw[e];show Option.bind (zn p.2.2.1 fun z=>gG z.1).val _=_
   rw[hc,zLB];by_cases h3:p.2.2.1.any y5=true
   ·rw[if_pos (by rw[h3];rfl),Comp.zB,if_pos (.inr h3)]
   ·rw[if_neg (by simpa[sel] using h3),if_neg (by rintro(h|h);exact h2 h;exact h3 h),zA]
    refine(congrArg (fun o=>Option.bind o _) hloop).trans ?_
    rw[zLB];have:=htail (X7 [] p.2.1)
    rw[zA,Comp.zB,zLB]at this;exact this
theorem XC{p:Part}(hw:p.2.2.1.length<9223372036854775807):(gU p).val=some (ckP p,()):=by
 unfold gU ckP;by_cases h1:p.2.1.length=0∨16<p.2.1.length
 ·rw[if_pos (by rw[gm,Bool.or_eq_true,zH,yd,zC];omega),if_pos h1,Comp.zB]
 ·rw[if_neg (by rw[gm,Bool.or_eq_true,zH,yd,zC];omega),if_neg h1]
  by_cases h2:p.2.2.1.length≠p.2.1.length
  ·rw[if_pos (by rw[zf,zC,zC];omega),Comp.zB,if_pos (.inl h2)]
  ·rw[if_neg (by rw[zf,zC,zC];omega)]
   have hw1:=ZQ p.2.2.1 (fun w=>!y5 w) (c:=(Sum.inr 1:Unit⊕Int)) (d:=Sum.inl ())
    (body:=(fun (x:Int)=>if ltI x (zF p.2.2.1)=true then
         (idx p.2.2.1 x).bind fun x_1=>(Comp.gd (ntB (ltI x_1 1)) (idx p.2.2.1 x) (Int.ofNat 0)).bind fun x_2=>if sel (ltI x_1 1) true (gtI x_2 3)=true then Comp.pure (.done (Sum.inr 1))
           else Comp.pure (.next (zJ .i64 x 1))
        else Comp.pure (.done (Sum.inl ()))))
    (fun i w hx=>by
     have hlt:=zO hx;rw[if_pos (by rw[zH,zC];omega),zA,zL hx,zLB,zA,Qd,zL hx,zM (by omega)]
     unfold y5;by_cases h1:w<1
     ·have:ltI w 1=true:=by rw[zH];exact h1
      simp[this,yM,sel,h1]
     ·have:ltI w 1=false:=by unfold ltI;exact decide_eq_false h1
      by_cases h3:3<w
      ·have h4:gtI w 3=true:=by rw[yd];exact h3
       simp[this,yM,sel,h1,h3,h4]
      ·have h4:gtI w 3=false:=by unfold gtI;exact decide_eq_false (by omega)
       simp[this,yM,sel,h1,h3,h4])
    (by rw[if_neg (by rw[zH,zC];omega),Comp.zB])
   have hall:(p.2.2.1.all fun w=>!y5 w) = !p.2.2.1.any y5:=by rw[List.all_eq_not_any_not];simp
   rw[hall]at hw1;rw[zA];refine(congrArg (fun o=>Option.bind o _) hw1).trans ?_
   rw[zLB];by_cases h3:p.2.2.1.any y5=true
   ·rw[h3,if_pos (.inr rfl)]
    exact Comp.zB _
   ·have h3':p.2.2.1.any y5=false:=by simpa using h3
    rw[h3',if_neg (by rintro(h|h);exact h2 h;cases h)]
    have inner:∀(k:Nat) (c:Cell),p.2.1[k]?=some c→(Comp.loop
                 (fun (x_3:Int)=>if ltI x_3 (k:Int)=true then
                   (idx p.2.1 x_3).bind fun x_4=>(idx p.2.1 (k:Int)).bind fun x=>(Go.F.zh x_4 x).bind fun x=>if ntB x.1=true then Comp.pure (.done (Sum.inr 13))
                      else Comp.pure (.next (zJ .i64 x_3 1))
                  else Comp.pure (.done (Sum.inl ():Unit⊕Int)))
                 0).val=some (bif sap c (p.2.1.take k) then .inl () else .inr 13):=by
     intro k c hc;have hk:=zO hc
     have h5:=ZQ (p.2.1.take k) (fun q=>apa c q) (c:=(Sum.inr 13:Unit⊕Int)) (d:=Sum.inl ())
      (body:=(fun (x_3:Int)=>if ltI x_3 (k:Int)=true then
                   (idx p.2.1 x_3).bind fun x_4=>(idx p.2.1 (k:Int)).bind fun x=>(Go.F.zh x_4 x).bind fun x=>if ntB x.1=true then Comp.pure (.done (Sum.inr 13))
                      else Comp.pure (.next (zJ .i64 x_3 1))
                  else Comp.pure (.done (Sum.inl ():Unit⊕Int))))
      (fun i q hq=>by
       have hi:=zO hq;rw[List.length_take]at hi;have hq':p.2.1[i]?=some q:=by rw[←hq,List.getElem?_take_of_lt (by omega)]
       rw[if_pos (by rw[zH];omega),zA,zL hq',zLB,zA,zL hc,zLB,zA,ZY,zLB,yM,CA q c,zM (by omega)]
       cases apa c q<;>exact Comp.zB _)
      (by rw[if_neg (by rw[zH,List.length_take];omega),Comp.zB])
     exact h5
    have key:∀(ys zs:List Cell),p.2.1=zs++ys→(Comp.loop
         (fun (x:Int)=>if ltI x (zF p.2.1)=true then
           (idx p.2.1 x).bind fun x_1=>(Go.F.yA x_1).bind fun x_2=>if ntB x_2.1=true then Comp.pure (.done (Sum.inr 13))
             else
              (Comp.loop
                 (fun (x_3:Int)=>if ltI x_3 x=true then
                   (idx p.2.1 x_3).bind fun x_4=>(idx p.2.1 x).bind fun x=>(Go.F.zh x_4 x).bind fun x=>if ntB x.1=true then Comp.pure (.done (Sum.inr 13))
                      else Comp.pure (.next (zJ .i64 x_3 1))
                  else Comp.pure (.done (Sum.inl ())))
                 0).bind fun (x_3:Unit⊕Int)=>match x_3 with
               |Sum.inl x_4=>Comp.pure (.next (zJ .i64 x 1))
               |Sum.inr x=>Comp.pure (.done (Sum.inr x))
          else Comp.pure (.done (Sum.inl ():Unit⊕Int))) (zs.length:Int)).val=some (bif X7 zs ys then .inl () else .inr 13):=by
     intro ys
     induction ys with
     |nil =>
      intro zs hx;rw[zN,if_neg (by rw[zH,zC,hx];simp),Comp.zB];rfl
     |cons y ys ih =>
      intro zs hx;have hy:p.2.1[zs.length]?=some y:=by rw[hx];simp
      have hlt:=zO hy;have ht:p.2.1.take zs.length=zs:=by rw[hx];simp
      rw[zN,if_pos (by rw[zH,zC];omega),zA,zL hy,zLB,zA,YX,zLB,yM]
      unfold X7
      cases hf:ful y with
      |false=>rw[if_pos (by simp),Comp.zB];rfl
      |true =>
       rw[if_neg (by simp),zA]
       have h6:=inner zs.length y hy;rw[ht]at h6;refine(congrArg (fun o=>Option.bind (Option.bind o _) _) h6).trans ?_
       cases ha:sap y zs with
       |false=>rw[zLB];exact(congrArg (fun o=>Option.bind o _) (Comp.zB _)).trans rfl
       |true =>
        rw[zLB];refine(congrArg (fun o=>Option.bind o _) (Comp.zB _)).trans ?_
        rw[zLB,zM (by omega)]
        simpa using ih (zs++[y]) (by rw[hx];simp)
    have h7:=key p.2.1 [] rfl;show (Comp.bind (Comp.loop _ _) _).val=_
    rw[zA];refine(congrArg (fun o=>Option.bind o _) h7).trans ?_
    rw[zLB];cases X7 [] p.2.1<;>exact Comp.zB _
theorem Gx{xs:List α}{ys:List β}:eqI (zF xs) (zF ys)=decide (xs.length=ys.length):=by
 rw[Bool.eq_iff_iff,yw,decide_eq_true_iff,zC,zC];omega
theorem Ga{xs:List α}{ys:List β}:neI (zF xs) (zF ys) = !decide (xs.length=ys.length):=by
 rw[Bool.eq_iff_iff,zf,zC,zC];simp<;>omega
theorem VW{xs:List α}{n:Nat}:leI (zF xs) (n:Int)=decide (xs.length≤n):=by
 rw[Bool.eq_iff_iff,Cj,decide_eq_true_iff,zC];omega
theorem VY{xs:List α}{n:Nat}:gtI (zF xs) (n:Int) = !decide (xs.length≤n):=by
 rw[Bool.eq_iff_iff,yd,zC];simp
theorem qW(p:Part)(x:zZ):sel (sel (eqI (zF x.1) (zF p.2.1)) (eqI (zF x.2.1) (zF p.2.1)) false) (leI (zF x.2.2.1) 24) false=((decide (x.1.length=p.2.1.length) && decide (x.2.1.length=p.2.1.length)) && decide (x.2.2.1.length≤24)):=by
 rw[kX,kX,Gx,Gx,show (24:Int)=((24:Nat):Int) from rfl,VW]
theorem Kf(p:Part)(x:zZ):kF p x=(((decide (x.1.length=p.2.1.length) && decide (x.2.1.length=p.2.1.length)) && decide (x.2.2.1.length≤24)) && decide (gk x.2.2.1=0)):=by
 unfold kF;rw[Bool.and_assoc (decide (x.1.length=p.2.1.length) && decide (x.2.1.length=p.2.1.length))]
theorem rL(p:Part)(x:zZ):(JY p x).val=some (kF p x,()):=by
 unfold JY;rw[qW,Kf,zA]
 cases hb:((decide (x.1.length=p.2.1.length) && decide (x.2.1.length=p.2.1.length)) && decide (x.2.2.1.length≤24)) with
 |false =>
  show Option.bind (Comp.pure _).val _=_
  rw[Comp.zB,zLB,Comp.zB];rfl
 |true =>
  have hl:x.2.2.1.length≤24:=by
   rw[zLD]at hb;simpa using hb.2
  have h1:(zG x.2.2.1 fun z=>jN z.1).val=some (x.2.2.1.any fun c=>decide (chk c≠0),()) :=
   ZP (xs:=x.2.2.1) (f:=fun z=>jN z.1) (p:=fun c=>decide (chk c≠0)) (by omega) fun c _=>by
    show (jN c).val=_
    unfold jN;rw[zA,gI,zLB,Comp.zB];rfl
  show Option.bind (zG x.2.2.1 fun z=>jN z.1).val _=_
  rw[h1,zLB,Comp.zB,kX,Bool.true_and,Bool.true_and,yM]
  congr 2
  by_cases h:gk x.2.2.1=0
  ·rw[decide_eq_true h]
   have:=je.1 h;rw[Bool.not_eq_true',List.any_eq_false];intro c hc;simp[this c hc]
  ·rw[decide_eq_false h]
   simp only[Bool.not_eq_false',List.any_eq_true];rw[je]at h;simp only[Classical.not_forall]at h;obtain⟨c,hc,h2⟩:=h;exact⟨c,hc,by simpa using h2⟩
theorem rl(p:Part)(x:zZ):(gy p x).val=some (kF p x,()):=by
 unfold gy;rw[qW,Kf,zA]
 cases hb:((decide (x.1.length=p.2.1.length) && decide (x.2.1.length=p.2.1.length)) && decide (x.2.2.1.length≤24)) with
 |false =>
  show Option.bind (Comp.pure _).val _=_
  rw[Comp.zB,zLB,Comp.zB];rfl
 |true =>
  have hl:x.2.2.1.length≤24:=by
   rw[zLD]at hb;simpa using hb.2
  show Option.bind (yb x.2.2.1).val _=_
  rw[XX (by omega),zLB,Comp.zB];rfl
def fit(p:Part)(x:zZ):Int:=if ckP p=0 then bif kF p x then 0 else 4 else ckP p
theorem XB{p:Part}{x:zZ}(hw:p.2.2.1.length<9223372036854775807):(ZE p x).val=some (fit p x,()):=by
 unfold ZE fit;rw[zA,kR hw,zLB];by_cases h:ckP p=0
 ·rw[if_neg (by rw[zf];simp[h]),if_pos h,zA,Kf]
  have e:sel (sel (neI (zF x.1) (zF p.2.1)) true (neI (zF x.2.1) (zF p.2.1))) true (gtI (zF x.2.2.1) 24) = !((decide (x.1.length=p.2.1.length) && decide (x.2.1.length=p.2.1.length)) && decide (x.2.2.1.length≤24)):=by
   rw[gm,gm,Bool.not_and,Bool.not_and,Ga,Ga,show (24:Int)=((24:Nat):Int) from rfl,VY]
  rw[e]
  cases hb:((decide (x.1.length=p.2.1.length) && decide (x.2.1.length=p.2.1.length)) && decide (x.2.2.1.length≤24)) with
  |false =>
   show Option.bind (Comp.pure _).val _=_
   rw[Comp.zB,zLB,if_pos (by rfl),Comp.zB];rfl
  |true =>
   have hl:x.2.2.1.length≤24:=by
    rw[zLD]at hb;simpa using hb.2
   show Option.bind (jU x.2.2.1).val _=_
   rw[w6 (by omega),zLB]
   by_cases h2:gk x.2.2.1=0
   ·rw[if_neg (by show ¬(neI (gk x.2.2.1) 0)=true;rw[zf];simp[h2]),Comp.zB,decide_eq_true h2];rfl
   ·rw[if_pos (by show (neI (gk x.2.2.1) 0)=true;rw[zf];exact h2),Comp.zB,decide_eq_false h2];rfl
 ·rw[if_pos (by rw[zf];exact h),if_neg h,Comp.zB]
theorem Dj{s:List Cell}(hl:s.length≤1000000)(hc:∀c∈s,c.length≤1000000):(YH s).val=some (s,()):=by
 unfold YH;have h1:=jd s.length (fun k l=>match s[k]? with|some c=>l++[c]|none=>l) (fun k l=>l++s.drop k) (fun l k=>l.length=k)
  (body:=(fun (x:List (List (Pln))×Int)=>if ltI x.2 (zF s)=true then
       (idx s x.2).bind fun x_1=>(Go.F.zU x_1).bind fun y=>(app x.1 [y.1]).bind fun zs=>Comp.pure (Comp.Step.next (zs,zJ .i64 x.2 1))
      else Comp.pure (Comp.Step.done x.1)))
  (fun l k hk hI=>by
   obtain⟨c,hc'⟩:=zK (xs:=s) (k:=k) hk;have hcl:(zU c).val=some (c,()):=YV (by have:=hc c (zLI hc');unfold LIM;omega)
   refine⟨?_,by rw[hc'];simp[hI],by rw[drop_cons hc',hc'];simp⟩
   rw[hc'];simp only;rw[if_pos (by rw[zH,zC];show (k:Int)<_;omega),zA,zL hc',zLB,zA,hcl,zLB,zA,yG (by simp only[zLG];unfold LIM;omega),zLB,Comp.zB,zM (by omega)])
  (fun l=>by rw[if_neg (by rw[zH,zC];simp),Comp.zB]) (fun l=>by rw[List.drop_length];simp) 0 [] (Nat.zero_le _) rfl
 rw[zA];refine(congrArg (fun o=>Option.bind o _) h1).trans ?_
 rw[zLB,Comp.zB];simp
theorem rv{s:List Cell}(hl:s.length≤1000000)(hc:∀c∈s,c.length≤1000000):(gz s).val=some (s,()):=by
 unfold gz;have h1:=jd s.length (fun k l=>match s[k]? with|some c=>l++[c]|none=>l) (fun k l=>l++s.drop k) (fun l k=>l.length=k)
  (body:=(fun (x:List (List (Pln))×Int)=>if ltI x.2 (zF s)=true then
       (idx s x.2).bind fun x_1=>(app [] x_1).bind fun zs=>(app x.1 [zs]).bind fun zs=>Comp.pure (Comp.Step.next (zs,zJ .i64 x.2 1))
      else Comp.pure (Comp.Step.done x.1)))
  (fun l k hk hI=>by
   obtain⟨c,hc'⟩:=zK (xs:=s) (k:=k) hk;have hcl:=hc c (zLI hc')
   refine⟨?_,by rw[hc'];simp[hI],by rw[drop_cons hc',hc'];simp⟩
   rw[hc'];simp only;rw[if_pos (by rw[zH,zC];show (k:Int)<_;omega),zA,zL hc',zLB,zA,yG (by simp;unfold LIM;omega),zLB,zA,yG (by simp only[zLG];unfold LIM;omega),zLB,Comp.zB,zM (by omega),List.nil_append])
  (fun l=>by rw[if_neg (by rw[zH,zC];simp),Comp.zB]) (fun l=>by rw[List.drop_length];simp) 0 [] (Nat.zero_le _) rfl
 rw[zA];refine(congrArg (fun o=>Option.bind o _) h1).trans ?_
 rw[zLB,Comp.zB];simp
def nr(s:List Cell)(c:Cell):List Cell:=s.filter fun z=>!apa z c
theorem NU{s:List Cell}(c:Cell)(hl:s.length≤1000000):(ym s fun z=>vb z.1 z.2.1 c).val=some (nr s c,()):=by
 unfold ym;have h1:=jd s.length (fun k l=>match s[k]? with|some z=>if (!apa z c)=true then l++[z] else l|none=>l) (fun k l=>l++nr (s.drop k) c) (fun l k=>l.length≤k)
  (body:=(fun (x:List (List (Pln))×Int)=>if ltI x.2 (zF s)=true then
       (idx s x.2).bind fun x_1=>((fun (z:Int×List Pln×Unit)=>vb z.1 z.2.1 c) (x.2,x_1,())).bind fun x_2=>jn (fun (x_3:List (List (Pln)))=>Comp.pure (Comp.Step.next (x_3,zJ .i64 x.2 1)))
          fun (j :
            List (List (Pln))→Comp
              (Comp.Step (List (List (Pln))×Int) (List (List (Pln))))) =>
          if x_2.1=true then (app x.1 [x_1]).bind fun zs=>j zs else j x.1
      else Comp.pure (Comp.Step.done x.1)))
  (fun l k hk hI=>by
   obtain⟨z,hz⟩:=zK (xs:=s) (k:=k) hk;have hf:(vb (k:Int) z c).val=some (!apa z c,()):=by
    unfold vb;rw[zA,jG,zLB,Comp.zB];rfl
   refine⟨?_,?_,?_⟩
   ·rw[hz]
    simp only;rw[if_pos (by rw[zH,zC];show (k:Int)<_;omega),zA,zL hz,zLB,zA,hf,zLB,vZ]
    by_cases h:(!apa z c)=true
    ·rw[if_pos h,if_pos h,zA,yG (by simp only[zLG];unfold LIM;omega),zLB,Comp.zB,zM (by omega)]
    ·rw[if_neg h,if_neg h,Comp.zB,zM (by omega)]
   ·rw[hz]
    simp only;split<;>first|omega|(simp;omega)
   ·rw[drop_cons hz,hz]
    unfold nr;by_cases h:(!apa z c)=true
    ·show _=(if (!apa z c)=true then l++[z] else l)++_
     rw[if_pos h,List.filter_cons,if_pos h];simp
    ·show _=(if (!apa z c)=true then l++[z] else l)++_
     rw[if_neg h,List.filter_cons,if_neg h])
  (fun l=>by rw[if_neg (by rw[zH,zC];simp),Comp.zB]) (fun l=>by rw[List.drop_length];simp[nr]) 0 [] (Nat.zero_le _) (by simp)
 rw[zA];refine(congrArg (fun o=>Option.bind o _) h1).trans ?_
 rw[zLB,Comp.zB];simp
theorem DI{s:List Cell}(c:Cell)(hl:s.length≤1000000):(vg s c).val=some (nr s c,()):=by
 unfold vg;have h1:=jd s.length (fun k l=>match s[k]? with|some z=>if (!apa z c)=true then l++[z] else l|none=>l) (fun k l=>l++nr (s.drop k) c) (fun l k=>l.length≤k)
  (body:=(fun (x:List (List (Pln))×Int)=>if ltI x.2 (zF s)=true then
       (idx s x.2).bind fun x_1=>(Go.F.zh x_1 c).bind fun x_2=>jn (fun (x_3:List (List (Pln)))=>Comp.pure (Comp.Step.next (x_3,zJ .i64 x.2 1)))
          fun (j :
            List (List (Pln))→Comp
              (Comp.Step (List (List (Pln))×Int) (List (List (Pln))))) =>
          if ntB x_2.1=true then
           (idx s x.2).bind fun x_3=>(app x.1 [x_3]).bind fun zs=>j zs
          else j x.1
      else Comp.pure (Comp.Step.done x.1)))
  (fun l k hk hI=>by
   obtain⟨z,hz⟩:=zK (xs:=s) (k:=k) hk;refine⟨?_,?_,?_⟩
   ·rw[hz]
    simp only;rw[if_pos (by rw[zH,zC];show (k:Int)<_;omega),zA,zL hz,zLB,zA,ZY,zLB,vZ,yM]
    by_cases h:(!apa z c)=true
    ·rw[if_pos h,if_pos h,zA,zL hz,zLB,zA,yG (by simp only[zLG];unfold LIM;omega),zLB,Comp.zB,zM (by omega)]
    ·rw[if_neg h,if_neg h,Comp.zB,zM (by omega)]
   ·rw[hz]
    simp only;split<;>first|omega|(simp;omega)
   ·rw[drop_cons hz,hz]
    unfold nr;by_cases h:(!apa z c)=true
    ·show _=(if (!apa z c)=true then l++[z] else l)++_
     rw[if_pos h,List.filter_cons,if_pos h];simp
    ·show _=(if (!apa z c)=true then l++[z] else l)++_
     rw[if_neg h,List.filter_cons,if_neg h])
  (fun l=>by rw[if_neg (by rw[zH,zC];simp),Comp.zB]) (fun l=>by rw[List.drop_length];simp[nr]) 0 [] (Nat.zero_le _) (by simp)
 rw[zA];refine(congrArg (fun o=>Option.bind o _) h1).trans ?_
 rw[zLB,Comp.zB];simp
def sur(all:List Cell)(c:Cell)(s:Bool):Bool:=bif s then true else (cov (nr all c) c).1
def tch(cuts touches:List Cell)(c:Cell)(t:Bool):Bool:=(t || !sap c cuts) || !sap c touches
def apE(all:List Cell):List Cell→List Bool→Int
 |c::C,s::S=>bif s then apE all C S else if (cov (nr all c) c).2=0 then apE all C S else (cov (nr all c) c).2
 |_,_=>0
def apS(all:List Cell)(C:List Cell)(S:List Bool):List Bool:=List.zipWith (sur all) C S
def apT(cuts touches:List Cell)(C:List Cell)(T:List Bool):List Bool:=List.zipWith (tch cuts touches) C T
def zP:zZ:=([],[],[],())
def apl(p:Part)(x:zZ)(cuts touches:List Cell):zZ×Int :=
 if fit p x=0 then if gk (cuts++touches)=0 then if 24<x.2.2.1.length+cuts.length then (zP,2)
  else if apE (x.2.2.1++cuts) p.2.1 x.1=0 then ((apS (x.2.2.1++cuts) p.2.1 x.1,apT cuts touches p.2.1 x.2.1,x.2.2.1++cuts,()),0) else (zP,apE (x.2.2.1++cuts) p.2.1 x.1)
  else (zP,gk (cuts++touches)) else (zP,fit p x)
theorem E5{t a b:Bool}{A B:Comp (Bool×Unit)}(hA:A.val=some (a,()))(hB:B.val=some (b,()))(K:Bool→Comp β) :
  ((Comp.gd (ntB t) A (false,())).bind fun x6=>(Comp.gd (ntB (sel t true (ntB x6.1))) B (false,())).bind fun x7=>K (sel (sel t true (ntB x6.1)) true (ntB x7.1))).val=(K ((t || !a) || !b)).val:=by
 rw[zA]
 cases t with
 |true =>
  show Option.bind (Comp.pure _).val _=_
  rw[Comp.zB,zLB,zA];show Option.bind (Comp.pure _).val _=_
  rw[Comp.zB,zLB];rfl
 |false =>
  show Option.bind A.val _=_
  rw[hA,zLB,zA]
  cases a with
  |false =>
   show Option.bind (Comp.pure _).val _=_
   rw[Comp.zB,zLB];rfl
  |true =>
   show Option.bind B.val _=_
   rw[hB,zLB];rfl
theorem take_set{l m:List α}{k:Nat}{v:α}(hv:l[k]?=some v)(hm:k<m.length)(hl:l.length=m.length):(l.take k++m.drop k).set k v=l.take (k+1)++m.drop (k+1):=by
 have hk:(l.take k).length=k:=by rw[List.length_take];omega
 rw[List.set_append,if_neg (by omega),hk,Nat.sub_self,List.take_add_one,hv,List.drop_eq_getElem_cons hm,List.set_cons_zero,List.append_assoc]
 rfl
theorem Ge{l m:List α}{k:Nat}(hl:l.length=m.length)(hm:k<m.length):(l.take k++m.drop k)[k]?=m[k]?:=by
 have hk:(l.take k).length=k:=by rw[List.length_take];omega
 rw[zLS (by omega),hk,Nat.sub_self,List.getElem?_drop];simp
theorem Gc{l m:List α}{k:Nat}(hl:l.length=m.length)(hm:k≤m.length):(l.take k++m.drop k).length=m.length:=by
 rw[zLE,List.length_take,List.length_drop];omega
theorem Nn{l m:List α}{k:Nat}{v:α}(hv:l[k]?=some v)(hmv:m[k]?=some v)(hl:l.length=m.length):l.take k++m.drop k=l.take (k+1)++m.drop (k+1):=by
 rw[List.take_add_one,hv,drop_cons hmv];simp
theorem YP{f:α→β→γ}{l:List α}{m:List β}{k:Nat}{a:α}{b:β}(h1:l[k]?=some a)(h2:m[k]?=some b):(List.zipWith f l m)[k]?=some (f a b):=by
 rw[List.getElem?_zipWith,h1,h2]
theorem I9{p:Part}{x:zZ}{cuts touches:List Cell}(hw:p.2.2.1.length<9223372036854775807)(hcl:cuts.length≤100000000)(htl:touches.length≤100000000):(Yw p x cuts touches).val=some ((apl p x cuts touches).1,(apl p x cuts touches).2,()):=by
 unfold Yw apl;rw[zA,XB hw,zLB];by_cases hf:fit p x=0
 ·rw[if_neg (by rw[zf];simp[hf]),if_pos hf]
  have hck:ckP p=0:=by
   unfold fit at hf;split at hf
   ·assumption
   ·exact hf
  have hfb:kF p x=true:=by
   unfold fit at hf;rw[if_pos hck]at hf
   cases h:kF p x with
   |true=>rfl
   |false=>rw[h]at hf;cases hf
  unfold kF at hfb;simp only[zLD,decide_eq_true_eq]at hfb;obtain⟨⟨f1,f2⟩,f3,f4⟩:=hfb;have hn:p.2.1.length≤16:=by
   unfold ckP at hck;split at hck
   ·cases hck
   ·rename_i h;omega
  have hcat:(zY [cuts,touches]).val=some (cuts++touches,()):=by
   have:=K0 (z:=([]:Cell)) (xs:=[cuts,touches]) (by simp;unfold LIM;omega) (by simp)
   simp only[List.flatten_cons,List.flatten_nil,List.append_nil]at this;exact this
  rw[zA,hcat,zLB,zA,w6 (by simp;omega),zLB]
  by_cases he:gk (cuts++touches)=0
  ·rw[if_neg (by rw[zf];simp[he]),if_pos he]
   have hadd:zJ .i64 (zF x.2.2.1) (zF cuts)=((x.2.2.1.length+cuts.length:Nat):Int):=by rw[zC,zC,yh (by omega)];omega
   by_cases h24:24<x.2.2.1.length+cuts.length
   ·rw[if_pos (by rw[yd,hadd];omega),if_pos h24,Comp.zB];rfl
   ·rw[if_neg (by rw[yd,hadd];omega),if_neg h24]
    have hcell:∀c∈x.2.2.1++cuts,c.length≤1000000:=by
     intro c hc;have:chk c=0:=by
      rcases zLM.1 hc with h|h
      ·exact je.1 f4 c h
      ·exact je.1 he c (List.mem_append_left _ h)
     have:=(Z4 this).1;omega
    have hcat2:(zY [x.2.2.1,cuts]).val=some (x.2.2.1++cuts,()):=by
     have:=K0 (z:=([]:Cell)) (xs:=[x.2.2.1,cuts]) (by simp;unfold LIM;omega) (by simp)
     simp only[List.flatten_cons,List.flatten_nil,List.append_nil]at this;exact this
    have hc1:(zp x.1).val=some (x.1,()):=YV (by unfold LIM;omega)
    have hc2:(zp x.2.1).val=some (x.2.1,()):=YV (by unfold LIM;omega)
    rw[zA,hc1,zLB,zA,hc2,zLB,zA,hcat2,zLB,zA,Dj (by simp;omega) hcell,zLB]
    simp only;generalize hall:x.2.2.1++cuts=all;have hal:all.length≤24:=by rw[←hall];simp;omega
    have hSl:(apS all p.2.1 x.1).length=x.1.length:=by unfold apS;rw[List.length_zipWith];omega
    have hTl:(apT cuts touches p.2.1 x.2.1).length=x.2.1.length:=by unfold apT;rw[List.length_zipWith];omega
    have key:∀(m k:Nat),k+m=p.2.1.length→(Comp.loop
              (fun (x_3 :
                 Int×(List Bool×List Bool×List (List (Pln))×Unit)×List Bool×List Bool×List (List (Pln))×Unit) =>
               if ltI x_3.1 (zF p.2.1)=true then
                jn
                 (fun (x :
                    (List Bool×List Bool×List (List (Pln))×Unit)×List Bool×List Bool×List (List (Pln))×Unit) =>
                  Comp.pure (Comp.Step.next (zJ .i64 x_3.1 1,x.1,x.2.1,x.2.2.1,x.2.2.2.1,())))
                 fun (j :
                   (List Bool×List Bool×List (List (Pln))×Unit)×List Bool×List Bool×List (List (Pln))×Unit→Comp
                     (Comp.Step
                      (Int×(List Bool×List Bool×List (List (Pln))×Unit)×List Bool×List Bool×List (List (Pln))×Unit)
                      ((List Bool×List Bool×List (List (Pln))×Unit)×List Bool×List Bool×List (List (Pln))×Unit ⊕
                       Int×List Bool×List Bool×List (List (Pln))×Unit))) =>
                 (idx p.2.1 x_3.1).bind fun x_4=>(idx x_3.2.2.2.1 x_3.1).bind fun x_5=>(Comp.gd (ntB x_5) (Go.F.yU x_4 cuts) (false,())).bind fun x_6=>(Comp.gd (ntB (sel x_5 true (ntB x_6.1))) (Go.F.yU x_4 touches) (false,())).bind fun x_7=>(inb x_3.2.2.2.1.length x_3.1).bind fun x_8=>(idx x_3.2.2.1 x_3.1).bind fun x_9=>if x_9=true then
                        j
                         (x_3.2.1,x_3.2.2.1,jZ x_3.2.2.2.1 x_3.1 (sel (sel x_5 true (ntB x_6.1)) true (ntB x_7.1)),x_3.2.2.2.2.1,
                          ())
                       else
                        (Go.F.ym x_3.2.2.2.2.1 fun (z:Int×List (Pln)×Unit)=>Go.F.vb z.1 z.2.1 x_4).bind fun y=>(Go.F.gY y.1 x_4).bind fun x=>if neI x.2.1 0=true then Comp.pure (Comp.Step.done (Sum.inr (x.2.1,[],[],[],())))
                          else
                           (inb x_3.2.2.1.length x_3.1).bind fun x_10=>j
                             (x_3.2.1,jZ x_3.2.2.1 x_3.1 x.1,
                              jZ x_3.2.2.2.1 x_3.1 (sel (sel x_5 true (ntB x_6.1)) true (ntB x_7.1)),x_3.2.2.2.2.1,())
               else Comp.pure (Comp.Step.done (Sum.inl (x_3.2.1,x_3.2.2.1,x_3.2.2.2.1,x_3.2.2.2.2.1,()))))
              ((k:Int),zP,(apS all p.2.1 x.1).take k++x.1.drop k,(apT cuts touches p.2.1 x.2.1).take k++x.2.1.drop k,all,())).val =
      some (if apE all (p.2.1.drop k) (x.1.drop k)=0 then .inl (zP,apS all p.2.1 x.1,apT cuts touches p.2.1 x.2.1,all,()) else .inr (apE all (p.2.1.drop k) (x.1.drop k),zP)):=by
     intro m
     induction m with
     |zero =>
      intro k hk;have hk':k=p.2.1.length:=by omega
      rw[zN,if_neg (by rw[zH,zC];show ¬((k:Int)<_);omega),Comp.zB,zLB]
      rw[List.drop_eq_nil_of_le (show p.2.1.length≤k by omega),List.drop_eq_nil_of_le (show x.1.length≤k by omega),List.drop_eq_nil_of_le (show x.2.1.length≤k by omega),List.take_of_length_le (by omega),List.take_of_length_le (by omega),List.append_nil,List.append_nil]
      rfl
     |succ m ih =>
      intro k hk;obtain⟨c,hc⟩:=zK (xs:=p.2.1) (k:=k) (by omega)
      obtain⟨s,hs⟩:=zK (xs:=x.1) (k:=k) (by omega)
      obtain⟨t,ht⟩:=zK (xs:=x.2.1) (k:=k) (by omega)
      have gS:(apS all p.2.1 x.1)[k]?=some (sur all c s):=YP hc hs;have gT:(apT cuts touches p.2.1 x.2.1)[k]?=some (tch cuts touches c t):=YP hc ht
      have hT1:((apT cuts touches p.2.1 x.2.1).take k++x.2.1.drop k)[k]?=some t:=by rw[Ge hTl (by omega)];exact ht
      have hS1:((apS all p.2.1 x.1).take k++x.1.drop k)[k]?=some s:=by rw[Ge hSl (by omega)];exact hs
      have hTs:((apT cuts touches p.2.1 x.2.1).take k++x.2.1.drop k).set k (tch cuts touches c t)=(apT cuts touches p.2.1 x.2.1).take (k+1)++x.2.1.drop (k+1):=take_set gT (by omega) hTl
      have hin:(inb ((apT cuts touches p.2.1 x.2.1).take k++x.2.1.drop k).length (k:Int)).val=some ():=jT (by rw[Gc hTl (by omega)];omega)
      have hin2:(inb ((apS all p.2.1 x.1).take k++x.1.drop k).length (k:Int)).val=some ():=jT (by rw[Gc hSl (by omega)];omega)
      rw[zN,if_pos (by rw[zH,zC];show (k:Int)<_;omega),vZ,zA,zL hc,zLB,zA,zL hT1,zLB]
      have hE:apE all (p.2.1.drop k) (x.1.drop k)=bif s then apE all (p.2.1.drop (k+1)) (x.1.drop (k+1)) else if (cov (nr all c) c).2=0 then apE all (p.2.1.drop (k+1)) (x.1.drop (k+1)) else (cov (nr all c) c).2:=by
       rw[drop_cons hc,drop_cons hs];rfl
      refine(congrArg (fun o=>Option.bind o _) (E5 (gN c (s:=cuts) (by omega)) (gN c (s:=touches) (by omega)) (fun tt=>(inb ((apT cuts touches p.2.1 x.2.1).take k++x.2.1.drop k).length (k:Int)).bind fun x_8=>(idx ((apS all p.2.1 x.1).take k++x.1.drop k) (k:Int)).bind fun x_9=>if x_9=true then
                        (Comp.pure (Comp.Step.next (zJ .i64 (k:Int) 1,zP,(apS all p.2.1 x.1).take k++x.1.drop k,jZ ((apT cuts touches p.2.1 x.2.1).take k++x.2.1.drop k) (k:Int) tt,all,())):Comp (Comp.Step (Int×zZ×zZ) (zZ×zZ⊕Int×zZ)))
                       else
                        (Go.F.ym all fun (z:Int×List (Pln)×Unit)=>Go.F.vb z.1 z.2.1 c).bind fun y=>(Go.F.gY y.1 c).bind fun (x':Bool×Int×Unit)=>if neI x'.2.1 0=true then Comp.pure (Comp.Step.done (Sum.inr (x'.2.1,[],[],[],())))
                          else
                           (inb ((apS all p.2.1 x.1).take k++x.1.drop k).length (k:Int)).bind fun x_10=>(Comp.pure (Comp.Step.next (zJ .i64 (k:Int) 1,zP,jZ ((apS all p.2.1 x.1).take k++x.1.drop k) (k:Int) x'.1,
                              jZ ((apT cuts touches p.2.1 x.2.1).take k++x.2.1.drop k) (k:Int) tt,all,())):Comp (Comp.Step (Int×zZ×zZ) (zZ×zZ⊕Int×zZ)))))).trans ?_
      rw[zA,hin,zLB,zA,zL hS1,zLB,show jZ ((apT cuts touches p.2.1 x.2.1).take k++x.2.1.drop k) (k:Int) ((t || !sap c cuts) || !sap c touches)=(apT cuts touches p.2.1 x.2.1).take (k+1)++x.2.1.drop (k+1) from hTs]
      cases s with
      |true =>
       have hSS:(apS all p.2.1 x.1).take k++x.1.drop k=(apS all p.2.1 x.1).take (k+1)++x.1.drop (k+1):=Nn gS hs hSl;rw[if_pos rfl,Comp.zB,zLB,zM (by omega),hSS,hE]
       exact ih (k+1) (by omega)
      |false =>
       rw[if_neg (by simp),zA,NU c (by omega),zLB,zA,tq,zLB,hE]
       by_cases he0:(cov (nr all c) c).2=0
       ·have hSs:((apS all p.2.1 x.1).take k++x.1.drop k).set k (cov (nr all c) c).1=(apS all p.2.1 x.1).take (k+1)++x.1.drop (k+1):=take_set gS (by omega) hSl
        rw[if_neg (by rw[zf];simp[he0]),zA,hin2,zLB,Comp.zB,zLB,zM (by omega)]
        rw[show jZ ((apS all p.2.1 x.1).take k++x.1.drop k) (k:Int) (cov (nr all c) c).1=(apS all p.2.1 x.1).take (k+1)++x.1.drop (k+1) from hSs]
        rw[cond_false,if_pos he0];exact ih (k+1) (by omega)
       ·rw[if_pos (by rw[zf];exact he0),Comp.zB,zLB,cond_false,if_neg he0,if_neg he0]
        rfl
    have h0:=key p.2.1.length 0 (by omega)
    simp only[List.take_zero,List.nil_append,List.drop_zero]at h0;rw[zA];refine(congrArg (fun o=>Option.bind o _) h0).trans ?_
    rw[zLB];by_cases hE0:apE all p.2.1 x.1=0
    ·rw[if_pos hE0,if_pos hE0];exact Comp.zB _
    ·rw[if_neg hE0,if_neg hE0];exact Comp.zB _
  ·rw[if_pos (by rw[zf];exact he),if_neg he,Comp.zB];rfl
 ·rw[if_pos (by rw[zf];exact hf),if_neg hf,Comp.zB];rfl
theorem XG{p:Part}{x:zZ}(hf:fit p x=0):ckP p=0∧kF p x=true∧x.1.length=p.2.1.length∧x.2.1.length=p.2.1.length∧x.2.2.1.length≤24∧gk x.2.2.1=0∧p.2.1.length≤16∧p.2.2.1.length=p.2.1.length:=by
 have hck:ckP p=0:=by
  unfold fit at hf;split at hf
  ·assumption
  ·exact hf
 have hfb:kF p x=true:=by
  unfold fit at hf;rw[if_pos hck]at hf
  cases h:kF p x with
  |true=>rfl
  |false=>rw[h]at hf;cases hf
 have hfb':=hfb;unfold kF at hfb;simp only[zLD,decide_eq_true_eq]at hfb;obtain⟨⟨f1,f2⟩,f3,f4⟩:=hfb;have hck':=hck
 unfold ckP at hck;split at hck
 ·cases hck
 ·rename_i h
  split at hck
  ·cases hck
  ·rename_i h'
   exact⟨hck',hfb',f1,f2,f3,f4,by omega,by omega⟩
theorem tO{p:Part}{x:zZ}{cuts touches:List Cell}(hw:p.2.2.1.length<9223372036854775807)(hcl:cuts.length≤100000000)(htl:touches.length≤100000000):(yQ p x cuts touches).val=some ((apl p x cuts touches).1,(apl p x cuts touches).2,()):=by
 unfold yQ apl;rw[zA,XC hw,zLB];by_cases hck:ckP p=0
 ·rw[if_neg (by rw[zf];simp[hck]),zA,rl,zLB,yM]
  cases hfb:kF p x with
  |false =>
   have hf:fit p x=4:=by unfold fit;rw[if_pos hck,hfb];rfl
   rw[if_pos (by simp),if_neg (by rw[hf];decide),hf,Comp.zB];rfl
  |true =>
   have hf:fit p x=0:=by unfold fit;rw[if_pos hck,hfb];rfl
   obtain⟨_,_,f1,f2,f3,f4,hn,hwn⟩:=XG hf;rw[if_neg (by simp),if_pos hf,zA,XX (by omega),zLB,vZ]
   have hadd:zJ .i64 (zF x.2.2.1) (zF cuts)=((x.2.2.1.length+cuts.length:Nat):Int):=by rw[zC,zC,yh (by omega)];omega
   by_cases hc0:gk cuts=0
   ·rw[if_pos (by rw[yw];exact hc0),zA,XX (by omega),zLB]
    have hE:gk (cuts++touches)=gk touches:=by rw[Kd,if_pos hc0]
    rw[hE];show (if neI (gk touches) 0=true then _ else _:Comp (zZ×Int×Unit)).val=_
    by_cases he:gk touches=0
    ·rw[if_neg (by rw[zf];simp[he]),if_pos he]
     by_cases h24:24<x.2.2.1.length+cuts.length
     ·rw[if_pos (by rw[yd,hadd];omega),if_pos h24,Comp.zB];rfl
     ·rw[if_neg (by rw[yd,hadd];omega),if_neg h24]
      have hcellx:∀c∈x.2.2.1,c.length≤1000000:=fun c hc=>by have:=(Z4 (je.1 f4 c hc)).1;omega
      have hcellc:∀c∈cuts,c.length≤1000000:=fun c hc=>by have:=(Z4 (je.1 hc0 c hc)).1;omega
      rw[zA,rv (by omega) hcellx,zLB,zA,rv (by omega) hcellc,zLB,zA,yG (by show x.2.2.1.length+cuts.length≤_;unfold LIM;omega),zLB]
      simp only;generalize hall:x.2.2.1++cuts=all;have hal:all.length≤24:=by rw[←hall];simp;omega
      have hSl:(apS all p.2.1 x.1).length=x.1.length:=by unfold apS;rw[List.length_zipWith];omega
      have hTl:(apT cuts touches p.2.1 x.2.1).length=x.2.1.length:=by unfold apT;rw[List.length_zipWith];omega
      have key:∀(m k:Nat),k+m=p.2.1.length→(Comp.loop
                 (fun
                   (x_1 :
                    Int ×
                     (List Bool×List Bool×List (List (Pln))×Unit) ×
                      List Bool×List Bool×List (List (Pln))×Unit) =>
                  if ltI x_1.1 (zF p.2.1)=true then
                   (idx p.2.1 x_1.1).bind fun (x_2:List (Pln)) =>
                    (idx x.2.1 x_1.1).bind fun (x_3:Bool) =>
                     (Comp.gd (ntB x_3) (Go.F.yy x_2 cuts) (false,())).bind fun (x_4:Bool×Unit) =>
                      (Comp.gd (ntB (sel x_3 true (ntB x_4.1))) (Go.F.yy x_2 touches) (false,())).bind
                       fun (x_5:Bool×Unit) =>
                       (app x_1.2.2.2.1 [sel (sel x_3 true (ntB x_4.1)) true (ntB x_5.1)]).bind fun (zs:List Bool) =>
                        (idx x.1 x_1.1).bind fun (x_6:Bool) =>
                         jn
                          (fun (x_7:Bool×List Bool×List Bool×List (List (Pln))×Unit) =>
                           (app x_1.2.2.1 [x_7.1]).bind fun (zs_1:List Bool) =>
                            Comp.pure (Comp.Step.next (zJ .i64 x_1.1 1,x_7.2,zs_1,zs,x_1.2.2.2.2.1,())))
                          fun
                           (j :
                            Bool×List Bool×List Bool×List (List (Pln))×Unit →
                             Comp
                              (Comp.Step
                               (Int ×
                                (List Bool×List Bool×List (List (Pln))×Unit) ×
                                 List Bool×List Bool×List (List (Pln))×Unit)
                               ((List Bool×List Bool×List (List (Pln))×Unit) ×
                                 List Bool×List Bool×List (List (Pln))×Unit ⊕
                                Int×List Bool×List Bool×List (List (Pln))×Unit))) =>
                          if ntB x_6=true then
                           (Go.F.vg x_1.2.2.2.2.1 x_2).bind
                            fun (y:List (List (Pln))×Unit) =>
                            (Go.F.vF y.1 x_2).bind fun (x_7:Bool×Int×Unit) =>
                             if neI x_7.2.1 0=true then Comp.pure (Comp.Step.done (Sum.inr (x_7.2.1,[],[],[],())))
                             else j (x_7.1,x_1.2.1)
                          else j (x_6,x_1.2.1)
                  else Comp.pure (Comp.Step.done (Sum.inl (x_1.2.1,x_1.2.2.1,x_1.2.2.2.1,x_1.2.2.2.2.1,()))))
              ((k:Int),zP,(apS all p.2.1 x.1).take k,(apT cuts touches p.2.1 x.2.1).take k,all,())).val =
        some (if apE all (p.2.1.drop k) (x.1.drop k)=0 then .inl (zP,apS all p.2.1 x.1,apT cuts touches p.2.1 x.2.1,all,()) else .inr (apE all (p.2.1.drop k) (x.1.drop k),zP)):=by
       intro m
       induction m with
       |zero =>
        intro k hk;rw[zN,if_neg (by rw[zH,zC];show ¬((k:Int)<_);omega),Comp.zB,zLB]
        rw[List.drop_eq_nil_of_le (show p.2.1.length≤k by omega),List.drop_eq_nil_of_le (show x.1.length≤k by omega),List.take_of_length_le (by omega),List.take_of_length_le (by omega)]
        rfl
       |succ m ih =>
        intro k hk;obtain⟨c,hc⟩:=zK (xs:=p.2.1) (k:=k) (by omega)
        obtain⟨s,hs⟩:=zK (xs:=x.1) (k:=k) (by omega)
        obtain⟨t,ht⟩:=zK (xs:=x.2.1) (k:=k) (by omega)
        have gS:(apS all p.2.1 x.1)[k]?=some (sur all c s):=YP hc hs;have gT:(apT cuts touches p.2.1 x.2.1)[k]?=some (tch cuts touches c t):=YP hc ht
        have hT2:(apT cuts touches p.2.1 x.2.1).take k++[tch cuts touches c t]=(apT cuts touches p.2.1 x.2.1).take (k+1):=by rw[List.take_add_one,gT];rfl
        have hS2:∀v,sur all c s=v→(apS all p.2.1 x.1).take k++[v]=(apS all p.2.1 x.1).take (k+1):=fun v hv=>by rw[List.take_add_one,gS,hv];rfl
        have lT:((apT cuts touches p.2.1 x.2.1).take k).length≤16:=by rw[List.length_take];omega
        have lS:((apS all p.2.1 x.1).take k).length≤16:=by rw[List.length_take];omega
        rw[zN,if_pos (by rw[zH,zC];show (k:Int)<_;omega),zA,zL hc,zLB,zA,zL ht,zLB]
        have hE:apE all (p.2.1.drop k) (x.1.drop k)=bif s then apE all (p.2.1.drop (k+1)) (x.1.drop (k+1)) else if (cov (nr all c) c).2=0 then apE all (p.2.1.drop (k+1)) (x.1.drop (k+1)) else (cov (nr all c) c).2:=by
         rw[drop_cons hc,drop_cons hs];rfl
        have hj:∀v zs,((app ((apS all p.2.1 x.1).take k) [v]).bind fun (zs_1:List Bool) =>
                            (Comp.pure (Comp.Step.next (zJ .i64 (k:Int) 1,zP,zs_1,zs,all,())):Comp (Comp.Step (Int×zZ×zZ) (zZ×zZ⊕Int×zZ)))).val=some (.next (((k+1:Nat):Int),zP,(apS all p.2.1 x.1).take k++[v],zs,all,())):=fun v zs=>by
         rw[zA,yG (by simp only[zLG];unfold LIM;omega),zLB,Comp.zB,zM (by omega)]
        refine(congrArg (fun o=>Option.bind o _) (E5 (wa c (s:=cuts) (by omega)) (wa c (s:=touches) (by omega)) (fun tt =>
                       (app ((apT cuts touches p.2.1 x.2.1).take k) [tt]).bind fun (zs:List Bool) =>
                        (idx x.1 (k:Int)).bind fun (x_6:Bool) =>
                          if ntB x_6=true then
                           (Go.F.vg all c).bind
                            fun (y:List (List (Pln))×Unit) =>
                            (Go.F.vF y.1 c).bind fun (x_7:Bool×Int×Unit) =>
                             if neI x_7.2.1 0=true then Comp.pure (Comp.Step.done (Sum.inr (x_7.2.1,[],[],[],())))
                             else ((app ((apS all p.2.1 x.1).take k) [x_7.1]).bind fun (zs_1:List Bool) =>
                            (Comp.pure (Comp.Step.next (zJ .i64 (k:Int) 1,zP,zs_1,zs,all,())):Comp (Comp.Step (Int×zZ×zZ) (zZ×zZ⊕Int×zZ))))
                          else ((app ((apS all p.2.1 x.1).take k) [x_6]).bind fun (zs_1:List Bool) =>
                            (Comp.pure (Comp.Step.next (zJ .i64 (k:Int) 1,zP,zs_1,zs,all,())):Comp (Comp.Step (Int×zZ×zZ) (zZ×zZ⊕Int×zZ))))))).trans ?_
        rw[zA,yG (by simp only[zLG];unfold LIM;omega),zLB,show (apT cuts touches p.2.1 x.2.1).take k++[(t || !sap c cuts) || !sap c touches]=(apT cuts touches p.2.1 x.2.1).take (k+1) from hT2,zA,zL hs,zLB,yM]
        cases s with
        |true =>
         rw[if_neg (by simp),hj,zLB,hS2 true rfl,hE]
         exact ih (k+1) (by omega)
        |false =>
         rw[if_pos (by simp),zA,DI c (by omega),zLB,zA,l9,zLB,hE]
         by_cases he0:(cov (nr all c) c).2=0
         ·rw[if_neg (by rw[zf];simp[he0]),hj,zLB,hS2 (cov (nr all c) c).1 rfl,cond_false,if_pos he0]
          exact ih (k+1) (by omega)
         ·rw[if_pos (by rw[zf];exact he0),Comp.zB,zLB,cond_false,if_neg he0,if_neg he0]
          rfl
      have h0:=key p.2.1.length 0 (by omega)
      simp only[List.take_zero,List.drop_zero]at h0;rw[zA];refine(congrArg (fun o=>Option.bind o _) h0).trans ?_
      rw[zLB];by_cases hE0:apE all p.2.1 x.1=0
      ·rw[if_pos hE0,if_pos hE0];exact Comp.zB _
      ·rw[if_neg hE0,if_neg hE0];exact Comp.zB _
    ·rw[if_pos (by rw[zf];exact he),if_neg he,Comp.zB];rfl
   ·have hE:gk (cuts++touches)=gk cuts:=by rw[Kd,if_neg hc0]
    rw[if_neg (by rw[yw];exact hc0),hE,if_neg hc0]
    show (if neI (gk cuts) 0=true then _ else _:Comp (zZ×Int×Unit)).val=_
    rw[if_pos (by rw[zf];exact hc0),Comp.zB];rfl
 ·have hf:fit p x=ckP p:=by unfold fit;rw[if_neg hck]
  rw[if_pos (by rw[zf];exact hck),hf,if_neg hck,Comp.zB];rfl
def anyI(n:Nat)(g:Nat→Bool):Bool:=(List.range n).any g
theorem QY{body:Int→Comp (Comp.Step Int ε)}(n:Nat)(g:Nat→Bool){c d:ε}(hb:∀(i:Nat),i<n→(body (i:Int)).val=some (if g i=true then .done c else .next ((i+1:Nat):Int)))(he:(body (n:Int)).val=some (.done d)) :
  (Comp.loop body 0).val=some (bif anyI n g then c else d):=by
 have h1:=ZQ (List.range n) (fun k=>!g k) (c:=c) (d:=d) (body:=body)
  (fun i k hk=>by
   have hi:=zO hk;rw[List.length_range]at hi;rw[List.getElem?_range hi]at hk;cases hk;rw[hb i hi];cases g i<;>rfl)
  (by rw[List.length_range];exact he)
 rw[h1];have:((List.range n).all fun k=>!g k) = !anyI n g:=by unfold anyI;rw[List.all_eq_not_any_not];simp
 rw[this];cases anyI n g<;>rfl
def wt(p:Part)(k:Nat):Int:=p.2.2.1.getD k 0
def cl(p:Part)(k:Nat):Cell:=p.2.1.getD k []
def vS(p:Part)(x:zZ)(k:Nat):Bool:=decide (wt p k=1) && !sap (cl p k) x.2.2.1
def vT(p:Part)(x:zZ)(k:Nat):Bool:=decide (wt p k=1) && x.2.1.getD k false
def vL(p:Part)(x:zZ)(k:Nat):Bool:=decide (wt p k=2) && !x.1.getD k false
def vd(p:Part)(x:zZ):Int:=if fit p x=0 then bif anyI p.2.1.length (vS p x) then 35 else bif anyI p.2.1.length (vT p x) then 30 else bif anyI p.2.1.length (vL p x) then 34 else 0 else fit p x
theorem z7{xs:List α}{k:Nat}{z v:α}(h:xs[k]?=some v):xs.getD k z=v:=by rw[List.getD_eq_getElem?_getD,h];rfl
theorem DD{p:Part}{x:zZ}{k:Nat}(hk:k<p.2.1.length)(hw:p.2.2.1.length=p.2.1.length)(hc:x.2.2.1.length≤24):(yS (p,x,()) (k:Int)).val=some (vS p x k,()):=by
 obtain⟨w,hw'⟩:=zK (xs:=p.2.2.1) (k:=k) (by omega)
 obtain⟨c,hc'⟩:=zK (xs:=p.2.1) (k:=k) hk;unfold yS vS wt cl;rw[z7 hw',z7 hc',zA,zL hw',zLB,zA];have e:eqI w 1=decide (w=1):=rfl
 rw[e];by_cases h:w=1
 ·rw[decide_eq_true h]
  show Option.bind (idx p.2.1 (k:Int)).val _=_
  rw[zL hc',zLB,zA];show Option.bind (yU c x.2.2.1).val _=_
  rw[gN c (by omega),zLB,Comp.zB];rfl
 ·rw[decide_eq_false h]
  show Option.bind (Comp.pure _).val _=_
  rw[Comp.zB,zLB,zA];show Option.bind (Comp.pure _).val _=_
  rw[Comp.zB,zLB,Comp.zB];rfl
theorem Db{p:Part}{x:zZ}{k:Nat}(hk:k<p.2.1.length)(hw:p.2.2.1.length=p.2.1.length)(hc:x.2.1.length=p.2.1.length):(yT (p,x,()) (k:Int)).val=some (vT p x k,()):=by
 obtain⟨w,hw'⟩:=zK (xs:=p.2.2.1) (k:=k) (by omega)
 obtain⟨c,hc'⟩:=zK (xs:=x.2.1) (k:=k) (by omega)
 unfold yT vT wt;rw[z7 hw',z7 hc',zA,zL hw',zLB,zA];have e:eqI w 1=decide (w=1):=rfl
 rw[e];by_cases h:w=1
 ·rw[decide_eq_true h]
  show Option.bind (idx x.2.1 (k:Int)).val _=_
  rw[zL hc',zLB,Comp.zB];rfl
 ·rw[decide_eq_false h]
  show Option.bind (Comp.pure _).val _=_
  rw[Comp.zB,zLB,Comp.zB];rfl
theorem Nq{p:Part}{x:zZ}{k:Nat}(hk:k<p.2.1.length)(hw:p.2.2.1.length=p.2.1.length)(hc:x.1.length=p.2.1.length):(yq (p,x,()) (k:Int)).val=some (vL p x k,()):=by
 obtain⟨w,hw'⟩:=zK (xs:=p.2.2.1) (k:=k) (by omega)
 obtain⟨c,hc'⟩:=zK (xs:=x.1) (k:=k) (by omega)
 unfold yq vL wt;rw[z7 hw',z7 hc',zA,zL hw',zLB,zA];have e:eqI w 2=decide (w=2):=rfl
 rw[e];by_cases h:w=2
 ·rw[decide_eq_true h]
  show Option.bind (idx x.1 (k:Int)).val _=_
  rw[zL hc',zLB,Comp.zB];rfl
 ·rw[decide_eq_false h]
  show Option.bind (Comp.pure _).val _=_
  rw[Comp.zB,zLB,Comp.zB];rfl
theorem wW{p:Part}{x:zZ}(hw:p.2.2.1.length<9223372036854775807):(jV p x).val=some (vd p x,()):=by
 unfold jV vd;rw[zA,XB hw,zLB];by_cases hf:fit p x=0
 ·obtain⟨_,_,f1,f2,f3,f4,hn,hwn⟩:=XG hf
  rw[if_neg (by rw[zf];simp[hf]),if_pos hf]
  have inner:∀(f:Int×Unit→Comp (Bool×Unit)) (e:Int) (g:Nat→Bool),(∀k,k<p.2.1.length→(f ((k:Int),())).val=some (g k,()))→(Comp.loop
             (fun (x_2:Int)=>if ltI x_2 (zF p.2.1)=true then
               (f (x_2,())).bind fun x_3=>if x_3.1=true then Comp.pure (Comp.Step.done (Sum.inr e)) else Comp.pure (Comp.Step.next (zJ .i64 x_2 1))
              else Comp.pure (Comp.Step.done (Sum.inl ():Unit⊕Int)))
             0).val=some (bif anyI p.2.1.length g then .inr e else .inl ()):=by
   intro f e g hg;exact QY p.2.1.length g (c:=(Sum.inr e:Unit⊕Int)) (d:=Sum.inl ()) (body:=(fun (x_2:Int)=>if ltI x_2 (zF p.2.1)=true then
               (f (x_2,())).bind fun x_3=>if x_3.1=true then Comp.pure (Comp.Step.done (Sum.inr e)) else Comp.pure (Comp.Step.next (zJ .i64 x_2 1))
              else Comp.pure (Comp.Step.done (Sum.inl ():Unit⊕Int))))
    (fun k hk=>by
     rw[if_pos (by rw[zH,zC];omega),zA,hg k hk,zLB,zM (by omega)]
     cases g k<;>exact Comp.zB _)
    (by rw[if_neg (by rw[zH,zC];omega),Comp.zB])
  have i1:=inner (fun z=>yS (p,x,()) z.1) 35 (vS p x) (fun k hk=>DD hk hwn f3)
  have i2:=inner (fun z=>yT (p,x,()) z.1) 30 (vT p x) (fun k hk=>Db hk hwn f2)
  have i3:=inner (fun z=>yq (p,x,()) z.1) 34 (vL p x) (fun k hk=>Nq hk hwn f1)
  generalize hL:[(fun (z:Int×Unit)=>Go.F.yS (p,x,()) z.1,(35:Int),()),(fun (z:Int×Unit)=>Go.F.yT (p,x,()) z.1,30,()),(fun (z:Int×Unit)=>Go.F.yq (p,x,()) z.1,34,())]=L
  have l0:(idx L ((0:Nat):Int)).val=some (fun z=>yS (p,x,()) z.1,35,()):=zL (by rw[←hL];rfl)
  have l1:(idx L ((1:Nat):Int)).val=some (fun z=>yT (p,x,()) z.1,30,()):=zL (by rw[←hL];rfl)
  have l2:(idx L ((2:Nat):Int)).val=some (fun z=>yq (p,x,()) z.1,34,()):=zL (by rw[←hL];rfl)
  have hlen:zF L=3:=by rw[←hL];rfl
  have hloop:(Comp.loop
       (fun (x_1:Int)=>if ltI x_1 (zF L)=true then
         (idx L x_1).bind fun x=>(Comp.loop
             (fun (x_2:Int)=>if ltI x_2 (zF p.2.1)=true then
               (x.1 (x_2,())).bind fun x_3=>if x_3.1=true then Comp.pure (Comp.Step.done (Sum.inr x.2.1)) else Comp.pure (Comp.Step.next (zJ .i64 x_2 1))
              else Comp.pure (Comp.Step.done (Sum.inl ())))
             0).bind fun (x:Unit⊕Int)=>match x with
           |Sum.inl x=>Comp.pure (Comp.Step.next (zJ .i64 x_1 1))
           |Sum.inr x=>Comp.pure (Comp.Step.done (Sum.inr x))
        else Comp.pure (Comp.Step.done (Sum.inl ():Unit⊕Int)))
       ((0:Nat):Int)).val=some (bif anyI p.2.1.length (vS p x) then .inr 35 else bif anyI p.2.1.length (vT p x) then .inr 30 else bif anyI p.2.1.length (vL p x) then .inr 34 else .inl ()):=by
   rw[zN,if_pos (by rw[zH,hlen];decide),zA,l0,zLB,zA]
   refine(congrArg (fun o=>Option.bind (Option.bind o _) _) i1).trans ?_
   cases anyI p.2.1.length (vS p x) with
   |true=>rw[zLB];exact(congrArg (fun o=>Option.bind o _) (Comp.zB _)).trans rfl
   |false =>
    rw[zLB];refine(congrArg (fun o=>Option.bind o _) (Comp.zB _)).trans ?_
    rw[zLB];show (Comp.loop _ ((1:Nat):Int)).val=_
    rw[zN,if_pos (by rw[zH,hlen];decide),zA,l1,zLB,zA]
    refine(congrArg (fun o=>Option.bind (Option.bind o _) _) i2).trans ?_
    cases anyI p.2.1.length (vT p x) with
    |true=>rw[zLB];exact(congrArg (fun o=>Option.bind o _) (Comp.zB _)).trans rfl
    |false =>
     rw[zLB];refine(congrArg (fun o=>Option.bind o _) (Comp.zB _)).trans ?_
     rw[zLB];show (Comp.loop _ ((2:Nat):Int)).val=_
     rw[zN,if_pos (by rw[zH,hlen];decide),zA,l2,zLB,zA]
     refine(congrArg (fun o=>Option.bind (Option.bind o _) _) i3).trans ?_
     cases anyI p.2.1.length (vL p x) with
     |true=>rw[zLB];exact(congrArg (fun o=>Option.bind o _) (Comp.zB _)).trans rfl
     |false =>
      rw[zLB];refine(congrArg (fun o=>Option.bind o _) (Comp.zB _)).trans ?_
      rw[zLB];show (Comp.loop _ ((3:Nat):Int)).val=_
      rw[zN,if_neg (by rw[zH,hlen];decide),Comp.zB,zLB];rfl
  subst hL;rw[zA];refine(congrArg (fun o=>Option.bind o _) hloop).trans ?_
  rw[zLB];cases anyI p.2.1.length (vS p x)<;>cases anyI p.2.1.length (vT p x)<;>cases anyI p.2.1.length (vL p x)<;>exact Comp.zB _
 ·rw[if_pos (by rw[zf];exact hf),if_neg hf,Comp.zB]
def S4(a m:Nat)(g:Nat→Bool):Bool:=(List.range' a m).any g
theorem CC{body:Int→Comp (Comp.Step Int ε)}(g:Nat→Bool){c d:ε}:∀(m a:Nat),(∀(i:Nat),a≤i→i<a+m→(body (i:Int)).val=some (if g i=true then .done c else .next ((i+1:Nat):Int)))→(body ((a+m:Nat):Int)).val=some (.done d)→(Comp.loop body (a:Int)).val=some (bif S4 a m g then c else d)
 |0,a,hb,he=>by rw[zN];rw[Nat.add_zero]at he;rw[he];rfl
 |m+1,a,hb,he=>by
  have ih:=CC g m (a+1) (fun i h1 h2=>hb i (by omega) (by omega)) (by rw[show a+1+m=a+(m+1) by omega];exact he)
  rw[zN,hb a (zLF _) (by omega)]
  unfold S4;rw[List.range'_succ,List.any_cons]
  cases hg:g a with
  |true=>rfl
  |false=>exact ih
def mw(l:List Int):Bool:=!S4 1 (l.length-1) fun k=>decide (l.getD k 0≤l.getD (k-1) 0)
theorem Yc{l:List Int}(hl:l.length≤1000000):(j0 l).val=some (mw l,()):=by
 unfold j0 mw;have h1:=CC (fun k=>decide (l.getD k 0≤l.getD (k-1) 0)) (c:=(Sum.inr false:Unit⊕Bool)) (d:=Sum.inl ()) (body:=(fun (x:Int)=>if ltI x (zF l)=true then
       (idx l x).bind fun x_1=>(idx l (gi .i64 x 1)).bind fun x_2=>if leI x_1 x_2=true then Comp.pure (Comp.Step.done (Sum.inr false)) else Comp.pure (Comp.Step.next (zJ .i64 x 1))
      else Comp.pure (Comp.Step.done (Sum.inl ())))) (l.length-1) 1
  (fun k h1 h2=>by
   obtain⟨a,ha⟩:=zK (xs:=l) (k:=k) (by omega)
   obtain⟨b,hb⟩:=zK (xs:=l) (k:=k-1) (by omega)
   have hi:(idx l (gi .i64 (k:Int) 1)).val=some b:=by
    rw[YK (by omega),show (k:Int)-1=((k-1:Nat):Int) by omega];exact zL hb
   rw[if_pos (by rw[zH,zC];omega),zA,zL ha,zLB,zA,hi,zLB,z7 ha,z7 hb,zM (by omega)]
   by_cases h:a≤b
   ·rw[if_pos (by rw[Cj];exact h),if_pos (by simpa using h),Comp.zB]
   ·rw[if_neg (by rw[Cj];exact h),if_neg (by simpa using h),Comp.zB])
  (by rw[if_neg (by rw[zH,zC];omega),Comp.zB])
 rw[zA];refine(congrArg (fun o=>Option.bind o _) h1).trans ?_
 rw[zLB];cases S4 1 (l.length-1) fun k=>decide (l.getD k 0≤l.getD (k-1) 0)<;>exact Comp.zB _
theorem tB{l:List Int}(hl:l.length≤1000000):(ja l).val=some (mw l,()):=Yc hl
def uH(n k:Nat)(x:Int):Bool:=(decide (x<0) || decide ((n:Int)≤x)) || decide (x=(k:Int))
def eE(n k:Nat)(x:Eff):Int:=if gk (x.1++x.2.1)=0 then if x.2.2.1<1∨1048576<x.2.2.1 then 3 else bif x.2.2.2.1.any (uH n k) then 3 else bif mw x.2.2.2.1 then 0 else 7 else gk (x.1++x.2.1)
def SmE(x:Eff):Prop:=x.1.length≤100000∧x.2.1.length≤100000∧x.2.2.2.1.length≤100000
theorem Bg{s:List Cell}{body:Int→Comp (Comp.Step Int (Unit⊕Int))}(hb:∀(i:Nat) c,s[i]?=some c→(body (i:Int)).val=some (if chk c=0 then .next ((i+1:Nat):Int) else .done (.inr (chk c))))(he:(body (s.length:Int)).val=some (.done (.inl ()))) :
  (Comp.loop body 0).val=some (if gk s=0 then .inl () else .inr (gk s)):=by
 have key:∀(ys zs:List Cell),s=zs++ys→(Comp.loop body (zs.length:Int)).val=some (if gk ys=0 then .inl () else .inr (gk ys)):=by
  intro ys
  induction ys with
  |nil =>
   intro zs hx;rw[zN,show zs.length=s.length by rw[hx];simp,he];rfl
  |cons y ys ih =>
   intro zs hx;have hy:s[zs.length]?=some y:=by rw[hx];simp
   rw[Jb];by_cases h:chk y=0
   ·rw[if_pos h,zN,hb _ _ hy,if_pos h,zLB]
    simpa using ih (zs++[y]) (by rw[hx];simp)
   ·rw[if_neg h,if_neg h,zN,hb _ _ hy,if_neg h,zLB]
 exact key s [] rfl
theorem wx{n k:Nat}{x:Eff}(hs:SmE x)(hn:n≤100000){ln0:Int}(hl:ln0=(n:Int)){inc:List Int→Comp (Bool×Unit)}(hinc:∀l,l.length≤1000000→(inc l).val=some (mw l,())){body:Int→Comp (Comp.Step Int (Unit⊕Int))}
  (hb:∀(i:Nat) w,x.2.2.2.1[i]?=some w→(body (i:Int)).val=some (if uH n k w=true then .done (.inr 3) else .next ((i+1:Nat):Int))) (he:(body (x.2.2.2.1.length:Int)).val=some (.done (.inl ()))) :
  (if sel (ltI x.2.2.1 1) true (gtI x.2.2.1 1048576)=true then Comp.pure (3,())
      else
       (Comp.loop body 0).bind fun (x_3:Unit⊕Int)=>match x_3 with
        |Sum.inl x_4 =>
         (inc x.2.2.2.1).bind fun x=>if ntB x.1=true then Comp.pure (7,()) else (Comp.pure (0,()):Comp (Int×Unit))
        |Sum.inr x=>Comp.pure (x,())).val=some (if x.2.2.1<1∨1048576<x.2.2.1 then 3 else bif x.2.2.2.1.any (uH n k) then 3 else bif mw x.2.2.2.1 then 0 else 7,()):=by
 obtain⟨s1,s2,s3⟩:=hs;by_cases hc:x.2.2.1<1∨1048576<x.2.2.1
 ·rw[if_pos (by rw[gm,Bool.or_eq_true,zH,yd];exact hc),if_pos hc,Comp.zB]
 ·rw[if_neg (by rw[gm,Bool.or_eq_true,zH,yd];exact hc),if_neg hc,zA]
  have h1:=ZQ x.2.2.2.1 (fun w=>!uH n k w) (c:=(Sum.inr 3:Unit⊕Int)) (d:=Sum.inl ()) (body:=body)
   (fun i w hw=>by rw[hb i w hw];cases uH n k w<;>rfl) he
  have hall:(x.2.2.2.1.all fun w=>!uH n k w) = !x.2.2.2.1.any (uH n k):=by rw[List.all_eq_not_any_not];simp
  rw[hall]at h1;refine(congrArg (fun o=>Option.bind o _) h1).trans ?_
  rw[zLB]
  cases x.2.2.2.1.any (uH n k) with
  |true=>exact Comp.zB _
  |false =>
   show ((inc x.2.2.2.1).bind fun x=>if ntB x.1=true then Comp.pure (7,()) else (Comp.pure (0,()):Comp (Int×Unit))).val=_
   rw[zA,hinc _ (by omega),zLB]
   cases mw x.2.2.2.1<;>exact Comp.zB _
theorem Dg{L:List Eff}{k:Nat}{x:Eff}(hx:L[k]?=some x)(hs:SmE x)(hL:L.length≤100000):(Zo L (k:Int)).val=some (eE L.length k x,()):=by
 have hs':=hs;obtain⟨s1,s2,s3⟩:=hs;unfold Zo eE;have hcat:(zY [x.1,x.2.1]).val=some (x.1++x.2.1,()):=by
  have:=K0 (z:=([]:Cell)) (xs:=[x.1,x.2.1]) (by simp;unfold LIM;omega) (by simp)
  simp only[List.flatten_cons,List.flatten_nil,List.append_nil]at this;exact this
 rw[zA,zL hx,zLB,zA,hcat,zLB];simp only;generalize hall:x.1++x.2.1=all;have hal:all.length≤200000:=by rw[←hall];simp;omega
 have h2:=Bg (s:=all)
  (body:=(fun (x_1:Int)=>if ltI x_1 (zF all)=true then
         (idx all x_1).bind fun x=>(Go.F.vP x).bind fun x=>if neI x.1 0=true then Comp.pure (Comp.Step.done (Sum.inr x.1)) else Comp.pure (Comp.Step.next (zJ .i64 x_1 1))
        else Comp.pure (Comp.Step.done (Sum.inl ()))))
  (fun i c hc=>by
   have hlt:=zO hc;rw[if_pos (by rw[zH,zC];omega),zA,zL hc,zLB,zA,gI,zLB,zM (by omega)]
   by_cases h:chk c=0
   ·rw[if_neg (by rw[zf];simp[h]),if_pos h,Comp.zB]
   ·rw[if_pos (by rw[zf];exact h),if_neg h,Comp.zB])
  (by rw[if_neg (by rw[zH,zC];omega),Comp.zB])
 rw[zA];refine(congrArg (fun o=>Option.bind o _) h2).trans ?_
 rw[zLB];by_cases h0:gk all=0
 ·rw[if_pos h0,if_pos h0]
  refine wx (n:=L.length) (k:=k) hs' hL (ln0:=zF L) rfl (fun l hl=>Yc hl) (fun i w hw=>?_) ?_
  ·have hlt:=zO hw
   rw[if_pos (by rw[zH,zC];omega),zA,zL hw,zLB,zM (by omega)]
   have e:sel (sel (ltI w 0) true (geI w (zF L))) true (eqI w (k:Int))=uH L.length k w:=by rw[gm,gm];rfl
   rw[e];cases uH L.length k w<;>exact Comp.zB _
  ·rw[if_neg (by rw[zH,zC];omega),Comp.zB]
 ·rw[if_neg h0,if_neg h0];exact Comp.zB _
theorem l8{L:List Eff}{k:Nat}{x:Eff}(hx:L[k]?=some x)(hs:SmE x)(hL:L.length≤100000):(gD L (k:Int)).val=some (eE L.length k x,()):=by
 have hs':=hs;obtain⟨s1,s2,s3⟩:=hs;unfold gD eE;rw[zA,zL hx,zLB,zA,yG (by simp;unfold LIM;omega),zLB,zA,yG (by simp;unfold LIM;omega),zLB]
 simp only[List.nil_append];generalize hall:x.1++x.2.1=all;have hal:all.length≤200000:=by rw[←hall];simp;omega
 have h2:=Bg (s:=all)
  (body:=(fun (x_1:Int)=>if ltI x_1 (zF all)=true then
         (idx all x_1).bind fun x=>(Go.F.zd x).bind fun x=>if neI x.1 0=true then Comp.pure (Comp.Step.done (Sum.inr x.1)) else Comp.pure (Comp.Step.next (zJ .i64 x_1 1))
        else Comp.pure (Comp.Step.done (Sum.inl ()))))
  (fun i c hc=>by
   have hlt:=zO hc;rw[if_pos (by rw[zH,zC];omega),zA,zL hc,zLB,zA,j5,zLB,zM (by omega)]
   by_cases h:chk c=0
   ·rw[if_neg (by rw[zf];simp[h]),if_pos h,Comp.zB]
   ·rw[if_pos (by rw[zf];exact h),if_neg h,Comp.zB])
  (by rw[if_neg (by rw[zH,zC];omega),Comp.zB])
 rw[zA];refine(congrArg (fun o=>Option.bind o _) h2).trans ?_
 rw[zLB];by_cases h0:gk all=0
 ·rw[if_pos h0,if_pos h0]
  refine wx (n:=L.length) (k:=k) hs' hL (ln0:=zF L) rfl (fun l hl=>tB hl) (fun i w hw=>?_) ?_
  ·have hlt:=zO hw
   rw[if_pos (by rw[zH,zC];omega),zA,zL hw,zLB,zM (by omega)]
   have e:uH L.length k w=((ltI w 0 || geI w (zF L)) || eqI w (k:Int)):=rfl
   rw[e]
   cases h1:ltI w 0 with
   |true =>
    rw[zA];show Option.bind (Comp.pure _).val _=_
    rw[Comp.zB,zLB,zA];show Option.bind (Comp.pure _).val _=_
    rw[Comp.zB,zLB];exact Comp.zB _
   |false =>
    rw[zA];show Option.bind (idx x.2.2.2.1 (i:Int)).val _=_
    rw[zL hw,zLB,zA]
    cases h2:geI w (zF L) with
    |true =>
     show Option.bind (Comp.pure _).val _=_
     rw[Comp.zB,zLB];exact Comp.zB _
    |false =>
     show Option.bind (idx x.2.2.2.1 (i:Int)).val _=_
     rw[zL hw,zLB];cases eqI w (k:Int)<;>exact Comp.zB _
  ·rw[if_neg (by rw[zH,zC];omega),Comp.zB]
 ·rw[if_neg h0,if_neg h0];exact Comp.zB _
def efs(n:Nat):List Eff→Nat→Int
 | [],_=>0
 |x::l,k=>if eE n k x=0 then efs n l (k+1) else eE n k x
def Xo(L:List Eff):Nat:=(L.map fun x=>x.1.length).sum
def ckJ(j:Job):Int:=if fit j.1 j.2.1=0 then if 8<j.2.2.1.length then 2 else if efs j.2.2.1.length j.2.2.1 0=0 then if 24<j.2.1.2.2.1.length+Xo j.2.2.1 then 2 else 0 else efs j.2.2.1.length j.2.2.1 0 else fit j.1 j.2.1
theorem ZC{j:Job}(hw:j.1.2.2.1.length<9223372036854775807)(hs:∀x∈j.2.2.1,SmE x):(kf j).val=some (ckJ j,()):=by
 unfold kf ckJ;rw[zA,kR hw,zLB];by_cases hck:ckP j.1=0
 ·rw[if_neg (by rw[zf];simp[hck]),zA,rL,zLB,yM]
  cases hfb:kF j.1 j.2.1 with
  |false =>
   have hf:fit j.1 j.2.1=4:=by unfold fit;rw[if_pos hck,hfb];rfl
   rw[if_pos (by simp),if_neg (by rw[hf];decide),hf,Comp.zB]
  |true =>
   have hf:fit j.1 j.2.1=0:=by unfold fit;rw[if_pos hck,hfb];rfl
   obtain⟨_,_,f1,f2,f3,f4,hn,hwn⟩:=XG hf;rw[if_neg (by simp),if_pos hf]
   by_cases h8:8<j.2.2.1.length
   ·rw[if_pos (by rw[yd,zC];omega),if_pos h8,Comp.zB]
   ·rw[if_neg (by rw[yd,zC];omega),if_neg h8]
    generalize hL:j.2.2.1=L at h8 hs;have key:∀(ys zs:List Eff) (c:Nat),L=zs++ys→c+ys.length * 100000≤10000000→(Comp.loop
          (fun (x:Int×Int)=>if ltI x.2 (zF L)=true then
            (idx L x.2).bind fun (x_1 :
               List (List (Pln))×List (List (Pln))×Int×List Int×Unit) =>
             (Go.F.Zo L x.2).bind fun x_2=>if neI x_2.1 0=true then Comp.pure (Comp.Step.done (Sum.inr x_2.1))
              else Comp.pure (Comp.Step.next (zJ .i64 x.1 (zF x_1.1),zJ .i64 x.2 1))
           else Comp.pure (Comp.Step.done (Sum.inl x.1:Int⊕Int))) ((c:Int),(zs.length:Int))).val=some (if efs L.length ys zs.length=0 then .inl ((c+Xo ys:Nat):Int) else .inr (efs L.length ys zs.length)):=by
     intro ys
     induction ys with
     |nil =>
      intro zs c hx _;rw[zN,if_neg (by rw[zH,zC,hx];simp),Comp.zB];rfl
     |cons y ys ih =>
      intro zs c hx hc;have hy:L[zs.length]?=some y:=by rw[hx];simp
      have hlt:=zO hy;have hsy:=hs y (zLI hy)
      have hcy:=hsy.1;simp only[zLL]at hc;rw[zN,if_pos (by rw[zH,zC];show (zs.length:Int)<_;omega),zA,zL hy,zLB,zA,Dg hy hsy (by omega),zLB]
      show _=some (if (if eE L.length zs.length y=0 then efs L.length ys (zs.length+1) else eE L.length zs.length y)=0 then _ else Sum.inr (if eE L.length zs.length y=0 then efs L.length ys (zs.length+1) else eE L.length zs.length y))
      by_cases he:eE L.length zs.length y=0
      ·rw[if_neg (by rw[zf];simp[he]),if_pos he,Comp.zB,zLB,zM (by omega)]
       have hadd:zJ .i64 (c:Int) (zF y.1)=((c+y.1.length:Nat):Int):=by rw[zC,yh (by omega)];omega
       rw[hadd];have:=ih (zs++[y]) (c+y.1.length) (by rw[hx];simp) (by omega)
       rw[show (zs++[y]).length=zs.length+1 by simp]at this
       rw[show c+Xo (y::ys)=c+y.1.length+Xo ys by unfold Xo;rw[List.map_cons,List.sum_cons];omega]
       exact this
      ·rw[if_pos (by rw[zf];exact he),if_neg he,if_neg he,Comp.zB,zLB]
    have h0:=key L [] j.2.1.2.2.1.length rfl (by omega)
    rw[zA];refine(congrArg (fun o=>Option.bind o _) h0).trans ?_
    rw[zLB];simp only[List.length_nil];by_cases he:efs L.length L 0=0
    ·rw[if_pos he,if_pos he]
     show (if gtI ((j.2.1.2.2.1.length+Xo L:Nat):Int) 24=true then _ else _:Comp (Int×Unit)).val=_
     by_cases h24:24<j.2.1.2.2.1.length+Xo L
     ·rw[if_pos (by rw[yd];omega),if_pos h24,Comp.zB]
     ·rw[if_neg (by rw[yd];omega),if_neg h24,Comp.zB]
    ·rw[if_neg he,if_neg he];exact Comp.zB _
 ·have hf:fit j.1 j.2.1=ckP j.1:=by unfold fit;rw[if_neg hck]
  rw[if_pos (by rw[zf];exact hck),hf,if_neg hck,Comp.zB]
theorem uJ{j:Job}(hw:j.1.2.2.1.length<9223372036854775807)(hs:∀x∈j.2.2.1,SmE x):(gR j).val=some (ckJ j,()):=by
 unfold gR ckJ;rw[zA,XC hw,zLB];by_cases hck:ckP j.1=0
 ·rw[if_neg (by rw[zf];simp[hck]),zA,rl,zLB,yM]
  cases hfb:kF j.1 j.2.1 with
  |false =>
   have hf:fit j.1 j.2.1=4:=by unfold fit;rw[if_pos hck,hfb];rfl
   rw[if_pos (by simp),if_neg (by rw[hf];decide),hf,Comp.zB]
  |true =>
   have hf:fit j.1 j.2.1=0:=by unfold fit;rw[if_pos hck,hfb];rfl
   obtain⟨_,_,f1,f2,f3,f4,hn,hwn⟩:=XG hf;rw[if_neg (by simp),if_pos hf]
   by_cases h8:8<j.2.2.1.length
   ·rw[if_pos (by rw[yd,zC];omega),if_pos h8,Comp.zB]
   ·rw[if_neg (by rw[yd,zC];omega),if_neg h8]
    generalize hL:j.2.2.1=L at h8 hs;have key:∀(ys zs:List Eff) (c:Nat),L=zs++ys→c+ys.length * 100000≤10000000→(Comp.loop
          (fun (x:Int×Int)=>if ltI x.2 (zF L)=true then
            (Go.F.gD L x.2).bind fun x_1=>if neI x_1.1 0=true then Comp.pure (Comp.Step.done (Sum.inr x_1.1))
             else
              (idx L x.2).bind fun (x_2 :
                 List (List (Pln))×List (List (Pln))×Int×List Int×Unit) =>
               Comp.pure (Comp.Step.next (zJ .i64 x.1 (zF x_2.1),zJ .i64 x.2 1))
           else Comp.pure (Comp.Step.done (Sum.inl x.1:Int⊕Int))) ((c:Int),(zs.length:Int))).val=some (if efs L.length ys zs.length=0 then .inl ((c+Xo ys:Nat):Int) else .inr (efs L.length ys zs.length)):=by
     intro ys
     induction ys with
     |nil =>
      intro zs c hx _;rw[zN,if_neg (by rw[zH,zC,hx];simp),Comp.zB];rfl
     |cons y ys ih =>
      intro zs c hx hc;have hy:L[zs.length]?=some y:=by rw[hx];simp
      have hlt:=zO hy;have hsy:=hs y (zLI hy)
      have hcy:=hsy.1;simp only[zLL]at hc;rw[zN,if_pos (by rw[zH,zC];show (zs.length:Int)<_;omega),zA,l8 hy hsy (by omega),zLB]
      show _=some (if (if eE L.length zs.length y=0 then efs L.length ys (zs.length+1) else eE L.length zs.length y)=0 then _ else Sum.inr (if eE L.length zs.length y=0 then efs L.length ys (zs.length+1) else eE L.length zs.length y))
      by_cases he:eE L.length zs.length y=0
      ·rw[if_neg (by rw[zf];simp[he]),if_pos he,zA,zL hy,zLB,Comp.zB,zLB,zM (by omega)]
       have hadd:zJ .i64 (c:Int) (zF y.1)=((c+y.1.length:Nat):Int):=by rw[zC,yh (by omega)];omega
       rw[hadd];have:=ih (zs++[y]) (c+y.1.length) (by rw[hx];simp) (by omega)
       rw[show (zs++[y]).length=zs.length+1 by simp]at this
       rw[show c+Xo (y::ys)=c+y.1.length+Xo ys by unfold Xo;rw[List.map_cons,List.sum_cons];omega]
       exact this
      ·rw[if_pos (by rw[zf];exact he),if_neg he,if_neg he,Comp.zB,zLB]
    have h0:=key L [] j.2.1.2.2.1.length rfl (by omega)
    rw[zA];refine(congrArg (fun o=>Option.bind o _) h0).trans ?_
    rw[zLB];simp only[List.length_nil];by_cases he:efs L.length L 0=0
    ·rw[if_pos he,if_pos he]
     show (if gtI ((j.2.1.2.2.1.length+Xo L:Nat):Int) 24=true then _ else _:Comp (Int×Unit)).val=_
     by_cases h24:24<j.2.1.2.2.1.length+Xo L
     ·rw[if_pos (by rw[yd];omega),if_pos h24,Comp.zB]
     ·rw[if_neg (by rw[yd];omega),if_neg h24,Comp.zB]
    ·rw[if_neg he,if_neg he];exact Comp.zB _
 ·have hf:fit j.1 j.2.1=ckP j.1:=by unfold fit;rw[if_neg hck]
  rw[if_pos (by rw[zf];exact hck),hf,if_neg hck,Comp.zB]
def opn(L:List Eff)(k:Int):Eff:=L.getD k.toNat ([],[],0,[],())
theorem zAu{L:List Eff}(hs:∀x∈L,SmE x)(k:Int):SmE (opn L k):=by
 unfold opn;rw[List.getD_eq_getElem?_getD]
 cases h:L[k.toNat]? with
 |none=>exact⟨by simp,by simp,by simp⟩
 |some x=>exact hs x (zLI h)
theorem Jm{L:List Eff}{k:Int}(h:0≤k∧k<L.length):(idx L k).val=some (opn L k):=by
 obtain⟨x,hx⟩:=zK (xs:=L) (k:=k.toNat) (by omega)
 rw[Kc h.1 hx];unfold opn;rw[z7 hx]
structure SmJ(j:Job):Prop where
 w:j.1.2.2.1.length<9223372036854775807
 e:∀x∈j.2.2.1,SmE x
 n:j.2.2.1.length≤1000000
abbrev Drw:=List Int×Int×Unit
def DOk(n:Int)(d:Drw):Prop:=0≤d.2.1∧d.2.1≤n
theorem zDF{n m:Int}(hm:1≤m∧m≤1000000):Ok (kV n m) fun r=>0≤r.1∧r.1<m:=by
 unfold kV;rw[if_neg (by rw[zH];omega),Ok.bind,Ok.rem (by omega),Ok.bind]
 have h1 : -m<n.tmod m∧n.tmod m<m:=by
  have:=Int.tmod_lt_of_pos n (show 0<m by omega)
  have h2 : -m<n.tmod m:=by
   rcases Int.le_total 0 n with hn|hn
   ·have:=Int.tmod_nonneg m hn;omega
   ·have h3:=Int.tmod_lt_of_pos (-n) (show 0<m by omega)
    rw[Int.neg_tmod]at h3;omega
  exact⟨h2,this⟩
 rw[yh (by omega),Ok.rem (by omega),Ok.pure]
 have h3:0≤n.tmod m+m:=by omega
 refine⟨?_,?_⟩
 ·show 0≤(n.tmod m+m).tmod m
  exact Int.tmod_nonneg m h3
 ·show (n.tmod m+m).tmod m<m
  exact Int.tmod_lt_of_pos _ (by omega)
theorem VL{d:Drw}{m k:Int}(hm:1≤m∧m≤1000000)(hk:0≤k∧k≤1000000000)(hd:DOk k d):Ok (zI d m) fun r=>DOk (k+1) r.1.1∧(0≤r.2.1∧r.2.1<m):=by
 obtain⟨h1,h2⟩:=hd;unfold zI;by_cases h:(zF d.1)≤d.2.1
 ·rw[if_pos (by rw[XK];exact h),Ok.pure]
  refine⟨⟨h1,?_⟩,?_⟩
  ·show d.2.1≤k+1;omega
  ·show 0≤(0:Int)∧(0:Int)<m;omega
 ·rw[zC]at h
  rw[if_neg (by rw[XK,zC];exact h),yh (by omega),YK (by omega),show d.2.1+1-1=d.2.1 by omega,Ok.bind]
  obtain⟨x,hx⟩:=zK (xs:=d.1) (k:=d.2.1.toNat) (by omega)
  rw[Ok.idx h1 hx,Ok.bind];refine(zDF hm).mono fun r hr=>?_
  rw[Ok.pure];refine⟨⟨?_,?_⟩,hr⟩
  ·show 0≤d.2.1+1;omega
  ·show d.2.1+1≤k+1;omega
theorem zDe(a b:V3):Ok (zw a b) fun r=>r.1.length=6:=by
 unfold zw;rw[Ok.pure];rfl
def kK(b n:Nat)(C:List Cell):Prop:=C.length≤n∧∀c∈C,c≠[]∧c.length≤b
abbrev tA:=kK 10
theorem kK.snoc{b n:Nat}{C:List Cell}{c:Cell}(h:kK b n C)(hc:c≠[]∧c.length≤b):kK b (n+1) (C++[c]) :=
by
  refine⟨?_,fun d hd=>?_⟩
  · rw[zLE,zLG];have:=h.1;omega
  · rcases zLM.1 hd with hd|hd
    · exact h.2 d hd
    · rw[List.mem_singleton.1 hd];exact hc
theorem kK.mono{b n m:Nat}{C:List Cell}(h:kK b n C)(hnm:n≤m):kK b m C:=⟨zLK h.1 hnm,h.2⟩
theorem kK.wide{b d n:Nat}{C:List Cell}(h:kK b n C)(hbd:b≤d):kK d n C:=⟨h.1,fun c hc=>⟨(h.2 c hc).1,zLK (h.2 c hc).2 hbd⟩⟩
theorem Ql{c:Cell}(h:c.length=6):c≠[]∧c.length≤6:=by
 refine⟨fun e=>?_,?_⟩
 ·rw[e]at h;cases h
 ·omega
theorem yu{d:Drw}{m k:Int}{f:((Drw×Unit)×Int×Unit)→Comp α}{P:α→Prop}(hd:DOk k d)(hm:1≤m∧m≤1000000)(hk:0≤k∧k≤1000000000)
  (h:∀d' v,DOk (k+1) d'→0≤v→v<m→Ok (f ((d',()),v,())) P):Ok ((zI d m).bind f) P:=by
 rw[Ok.bind];exact(VL hm hk hd).mono fun r hr=>h r.1.1 r.2.1 hr.1 hr.2.1 hr.2.2
theorem jR{k:α→Comp β}{b:(α→Comp β)→Comp β}{P:β→Prop}(I:α→Prop)(hb:∀j,(∀x,I x→Ok (j x) P)→Ok (b j) P)(hk:∀x,I x→Ok (k x) P):Ok (jn k b) P:=hb k hk
theorem d0(x:List Int):DOk 0 (x,0,()):=by unfold DOk;show (0:Int)≤0∧(0:Int)≤0;omega
theorem XH{xs:List β}{i:Int}{f:β→Comp α}{P:α→Prop}(h0:0≤i)(h1:i<xs.length)(h:∀x,x∈xs→Ok (f x) P):Ok ((idx xs i).bind f) P:=by
 obtain⟨x,hx⟩:=zK (xs:=xs) (k:=i.toNat) (by omega)
 rw[Ok.bind,Ok.idx h0 hx];exact h x (zLI hx)
theorem uE:1000000≤LIM:=by decide
theorem vt{xs ys:List β}{f:List β→Comp α}{P:α→Prop}(hl:xs.length+ys.length≤1000000)(h:Ok (f (xs++ys)) P):Ok ((app xs ys).bind f) P:=by
 rw[Ok.bind,Ok.app (by have:=uE;omega)];exact h
theorem zDl{a b:V3}{f:Cell×Unit→Comp α}{P:α→Prop}(h:∀c:Cell,c.length=6→Ok (f (c,())) P):Ok ((zw a b).bind f) P:=by
 rw[Ok.bind];exact(zDe a b).mono fun r hr=>h r.1 hr
theorem WC{ys:Cell}{f:Cell→Comp α}{P:α→Prop}(hn:ys≠[])(hl:ys.length≤1000000)(h:Ok (f ys) P):Ok ((Wk ys).bind f) P:=by
 cases ys with
 |nil=>exact(hn rfl).elim
 |cons y ys =>
  show Ok ((app [] (y::ys)).bind f) P
  exact vt (by simpa using hl) h
theorem CU{a b:Bool}(h:sel a b false=true):a=true∧b=true:=by cases a<;>cases b<;>simp_all [sel]
def ZS(p:Part):Prop:=tA 12 p.2.1∧p.2.1≠[]∧p.2.2.1.length=p.2.1.length
theorem Vk{x0:List (List Int)}{p:Part}(hp:ZS p):Ok (vH x0 p) fun r=>r.1.length≤4:=by
 unfold vH;rw[Ok.bind];have hq:∀n:Nat,n<9223372036854775807→True:=fun _ _=>trivial
 refine(Ok.loop (fun s:List Cell×Int=>0≤s.2∧s.2≤4∧(s.1.length:Int)=s.2) (fun s=>(4-s.2).toNat) (P:=fun r=>r.length≤4) ?_ ?_).mono fun r hr=>?_
 ·exact⟨by show (0:Int)≤0;omega,by show (0:Int)≤4;omega,rfl⟩
 ·rintro⟨C,i⟩ ⟨h1,h2,h3⟩
  dsimp only at h1 h2 h3 ⊢
  have hl:0<p.2.1.length:=by cases hc:p.2.1 with
   |nil=>exact(hp.2.1 hc).elim
   |cons _ _=>simp
  have hl2:=hp.1.1;split
  ·rename_i hc
   obtain⟨c1,c2⟩:=CU hc;rw[zH]at c1 c2;rw[zC]at c1;refine XH h1 c1 fun d hd=>?_
   refine yu (d0 d) (by decide) (by decide) fun d1 v1 e1 g1 g1'=>?_
   refine yu e1 (by rw[zC];omega) (by decide) fun d2 v2 e2 g2 g2'=>?_
   rw[zC]at g2';refine XH g2 g2' fun c hc=>?_
   obtain⟨k1,k2⟩:=hp.1.2 c hc;refine WC k1 (by omega) ?_
   refine jR (fun x=>DOk 4 x.2) (fun j hj=>?_) fun x hx=>?_
   ·dsimp only
    split
    ·refine yu e2 (by decide) (by decide) fun d3 v3 e3 g3 g3'=>?_
     refine yu e3 (by decide) (by decide) fun d4 v4 e4 g4 g4'=>?_
     refine vt (by simp;omega) ?_
     exact hj _ e4
    ·exact hj _ ⟨e2.1,by have:=e2.2;show d2.2.1≤4;omega⟩
   ·refine jR (fun _=>True) (fun j hj=>?_) fun y _=>?_
    ·dsimp only
     split
     ·refine yu hx (by decide) (by decide) fun d3 v3 e3 g3 g3'=>?_
      refine yu e3 (by decide) (by decide) fun d4 v4 e4 g4 g4'=>?_
      refine yu e4 (by decide) (by decide) fun d5 v5 e5 g5 g5'=>?_
      refine yu e5 (by decide) (by decide) fun d6 v6 e6 g6 g6'=>?_
      refine yu e6 (by decide) (by decide) fun d7 v7 e7 g7 g7'=>?_
      refine yu e7 (by decide) (by decide) fun d8 v8 e8 g8 g8'=>?_
      exact zDl fun c _=>hj _ trivial
     ·exact hj _ trivial
    ·refine vt (by simp;omega) ?_
     rw[Ok.pure];dsimp only;rw[yh (by omega)]
     refine⟨⟨by omega,by omega,by rw[zLE,zLG];omega⟩,by omega⟩
  ·rw[Ok.pure];dsimp only;omega
 ·rw[Ok.pure];exact hr
def box(a b c d e f:Int):Cell:=[((1,0,0,()),d,()),((-1,0,0,()),-a,()),((0,1,0,()),e,()),((0,-1,0,()),-b,()),((0,0,1,()),f,()),((0,0,-1,()),-c,())]
theorem HD{a b c d e f:Int}(h:((-1000≤a∧a≤1000) ∧ -1000≤b∧b≤1000) ∧ -1000≤c∧c≤1000):(zw (a,b,c,()) (d,e,f,())).val=some (box a b c d e f,()):=by
 unfold zw;rw[Comp.zB];have hn:∀x:Int, -1000≤x∧x≤1000→Yl .i64 x = -x:=fun x hx=>Jg (by omega)
 simp only[hn a h.1.1,hn b h.1.2,hn c h.2];rfl
theorem zGA{p q r:Pln}(hp:okB p)(hq:okB q)(hr:okB r){x:Pnt}(h:mt p q r=some x):Bd 300000000000000 (x.1,x.2.1,x.2.2.1,())∧0≤x.2.2.2.1∧x.2.2.2.1≤600000000000:=by
 have hd:=Em hp hq hr;obtain⟨n1,n2,n3⟩:=Ed hp hq hr;unfold mt at h;split at h
 ·cases h
 ·rename_i hne
  cases h
  generalize det p q r=w at hd hne;generalize num p q r=v at n1 n2 n3;have hg:(0:Int)≤((Z9 v w:Nat):Int):=Int.natCast_nonneg _
  have t:∀ {a k:Int}, -k≤a∧a≤k → -k≤a.tdiv ((Z9 v w:Nat):Int)∧a.tdiv ((Z9 v w:Nat):Int)≤k:=fun {a k} ha=>by
   have:=E4 (a:=a) (b:=((Z9 v w:Nat):Int));omega
  unfold mkP Bd;dsimp only;by_cases hw:w<0
  ·rw[if_pos hw]
   refine⟨⟨t (by omega),t (by omega),t (by omega)⟩,Int.tdiv_nonneg (by omega) hg,(t (a := -w) (k:=600000000000) (by omega)).2⟩
  ·rw[if_neg hw]
   exact⟨⟨t n1,t n2,t n3⟩,Int.tdiv_nonneg (by omega) hg,(t (a:=w) hd).2⟩
def Sep(a b:Cell):Prop:=∃p∈a,∃q∈b,(p.1.1+q.1.1=0∧p.1.2.1+q.1.2.1=0∧p.1.2.2.1+q.1.2.2.1=0)∧p.2.1+q.2.1≤0
theorem Sep.symm{a b:Cell}(h:Sep a b):Sep b a:=by
 obtain⟨p,hp,q,hq,h1,h2⟩:=h;exact⟨q,hq,p,hp,by omega,by omega⟩
theorem Sep.more{a b a' b':Cell}(h:Sep a b)(ha:∀p∈a,p∈a')(hb:∀p∈b,p∈b'):Sep a' b':=by
 obtain⟨p,hp,q,hq,h1⟩:=h;exact⟨p,ha p hp,q,hb q hq,h1⟩
theorem zAj{r:List Pln}(hr:∀p∈r,okB p){p q:Pln}(hp:p∈r)(hq:q∈r)(h:(p.1.1+q.1.1=0∧p.1.2.1+q.1.2.1=0∧p.1.2.2.1+q.1.2.2.1=0)∧p.2.1+q.2.1≤0):full r=false:=by
 unfold full;rw[List.all_eq_false];refine⟨p,hp,?_⟩;rw[Bool.not_eq_true,List.any_eq_false];intro x hx hpos;rw[u4]at hx;obtain⟨hi,t,ht,hm⟩:=hx;obtain⟨t1,t2,t3⟩:=nk ht;obtain⟨⟨b1,b2,b3⟩,d1,d2⟩:=zGA (hr _ t1) (hr _ t2) (hr _ t3) hm;unfold ins at hi;rw[List.all_eq_true]at hi;have hq0:=hi q hq
 simp only[decide_eq_true_eq]at hq0 hpos;obtain⟨⟨p1,p2,p3⟩,pB⟩:=hr p hp;obtain⟨⟨q1,q2,q3⟩,qB⟩:=hr q hq;have m1:=vr p1 b1;have m2:=vr p2 b2;have m3:=vr p3 b3
 have m4:=vr (A:=2097152) (B:=600000000000) pB (b:=x.2.2.2.1) (by omega)
 have m5:=vr (A:=2097152) (B:=600000000000) qB (b:=x.2.2.2.1) (by omega)
 dsimp only at m1 m2 m3;have e1:q.1.1 * x.1 = -(p.1.1 * x.1):=by rw[show q.1.1 = -p.1.1 by omega,Int.neg_mul]
 have e2:q.1.2.1 * x.2.1 = -(p.1.2.1 * x.2.1):=by rw[show q.1.2.1 = -p.1.2.1 by omega,Int.neg_mul]
 have e3:q.1.2.2.1 * x.2.2.1 = -(p.1.2.2.1 * x.2.2.1):=by rw[show q.1.2.2.1 = -p.1.2.2.1 by omega,Int.neg_mul]
 have e4:(p.2.1+q.2.1) * x.2.2.2.1≤0:=Int.mul_nonpos_of_nonpos_of_nonneg (by omega) d1
 rw[Int.add_mul]at e4;unfold rm dt at hq0 hpos;dsimp only at hq0 hpos;rw[Dx (by omega)]at hpos
 rw[e1,e2,e3,Dx (by omega)]at hq0
 omega
theorem V2{a b:Cell}(h:Sep a b):apa a b=true:=by
 unfold apa;by_cases ha:chk a=0
 ·by_cases hb:chk b=0
  ·obtain⟨p,hp,q,hq,h1⟩:=h
   rw[zAj (r:=a++b++bx0) (fun z hz=>?_) (by simp[hp]) (by simp[hq]) h1]
   ·simp
   ·rcases zLM.1 hz with hz|hz
    ·rcases zLM.1 hz with hz|hz
     ·exact(Z4 ha).2 z hz
     ·exact(Z4 hb).2 z hz
    ·exact rH z hz
  ·simp[hb]
 ·simp[ha]
theorem Vv{a b c d e f:Int}(h1:(-100≤a∧a≤100) ∧ -100≤b∧b≤100)(h2:(-100≤c∧c≤100) ∧ -100≤d∧d≤100)(h3:(-100≤e∧e≤100) ∧ -100≤f∧f≤100):chk (box a b c d e f)=0:=by
 rw[Rp];refine⟨by unfold box;simp,?_⟩
 have hv:∀x:Int, -100≤x∧x≤100→okv 2097152 x=true:=fun x hx=>by unfold okv;simp;omega
 have ax:∀v∈([(1,0,0,()),(-1,0,0,()),(0,1,0,()),(0, -1,0,()),(0,0,1,()),(0,0, -1,())]:List V3),okN v=true∧J4 v=1:=by decide +kernel
 rw[List.all_eq_true];intro p hp;have hp1:p.1∈([(1,0,0,()),(-1,0,0,()),(0,1,0,()),(0, -1,0,()),(0,0,1,()),(0,0, -1,())]:List V3)∧okv 2097152 p.2.1=true:=by
  unfold box at hp;simp only[zLH,List.not_mem_nil,or_false]at hp;rcases hp with rfl|rfl|rfl|rfl|rfl|rfl<;>exact⟨by simp,hv _ (by simp only;omega)⟩
 obtain⟨g1,g2⟩:=ax _ hp1.1;unfold okP;rw[g1,g2,hp1.2];rfl
theorem Vu{a b c d e f:Int}(h1:(-20≤a∧a<d)∧d≤20)(h2:(-20≤b∧b<e)∧e≤20)(h3:(-20≤c∧c<f)∧f≤20):ful (box a b c d e f)=true:=by
 unfold ful;rw[Vv (by omega) (by omega) (by omega),decide_eq_true rfl,Bool.true_and]
 have hw:∀n:Int, -1000≤n∧n≤1000→W n=n:=fun n hn=>Dx (by omega)
 have k0:(a,b,c,1,())∈crn (box a b c d e f++bx0):=by
  rw[u4];refine⟨?_,(((-1,0,0,()),-a,()),((0,-1,0,()),-b,()),((0,0,-1,()),-c,())),by simp[box,tri,prs],?_⟩
  ·simp only[ins,box,bx0,List.cons_append,List.nil_append,List.all_cons,List.all_nil,Bool.and_true,zLD,decide_eq_true_eq]
   simp only[rm,dt];refine⟨?_,?_,?_,?_,?_,?_,?_,?_,?_,?_,?_,?_⟩<;>(rw[hw _ (by omega)];omega)
  ·have e1:det ((-1,0,0,()),-a,()) ((0,-1,0,()),-b,()) ((0,0,-1,()),-c,()) = -1:=by simp[det,cr,dt]
   have e2:num ((-1,0,0,()),-a,()) ((0,-1,0,()),-b,()) ((0,0,-1,()),-c,())=(-a, -b, -c,()):=by simp[num,cr,sc,ad]
   unfold mt;rw[e1,e2,if_neg (by decide)]
   simp[mkP,Z9]
 have k1:(d,e,f,1,())∈crn (box a b c d e f++bx0):=by
  rw[u4];refine⟨?_,(((1,0,0,()),d,()),((0,1,0,()),e,()),((0,0,1,()),f,())),by simp[box,tri,prs],?_⟩
  ·simp only[ins,box,bx0,List.cons_append,List.nil_append,List.all_cons,List.all_nil,Bool.and_true,zLD,decide_eq_true_eq]
   simp only[rm,dt];refine⟨?_,?_,?_,?_,?_,?_,?_,?_,?_,?_,?_,?_⟩<;>(rw[hw _ (by omega)];omega)
  ·have e1:det ((1,0,0,()),d,()) ((0,1,0,()),e,()) ((0,0,1,()),f,())=1:=by simp[det,cr,dt]
   have e2:num ((1,0,0,()),d,()) ((0,1,0,()),e,()) ((0,0,1,()),f,())=(d,e,f,()):=by simp[num,cr,sc,ad]
   unfold mt;rw[e1,e2,if_neg (by decide)]
   simp[mkP,Z9]
 unfold full;rw[List.all_eq_true];intro p hp;rw[List.any_eq_true];unfold box bx0 at hp;simp only[List.cons_append,List.nil_append,zLH,List.not_mem_nil,or_false]at hp;rcases hp with rfl|rfl|rfl|rfl|rfl|rfl|rfl|rfl|rfl|rfl|rfl|rfl
 case inl|inr.inr.inl|inr.inr.inr.inr.inl=>exact⟨_,k0,by rw[decide_eq_true_eq];simp only[rm,dt];rw[hw _ (by omega)];omega⟩
 case inr.inl|inr.inr.inr.inl|inr.inr.inr.inr.inr.inl=>exact⟨_,k1,by rw[decide_eq_true_eq];simp only[rm,dt];rw[hw _ (by omega)];omega⟩
 all_goals exact⟨_,k0,by rw[decide_eq_true_eq];simp only[rm,dt];rw[hw _ (by omega)];omega⟩
structure Pws(C:List Cell):Prop where
 f:∀c∈C,ful c=true
 s:∀(i k:Nat) (c d:Cell),i≠k→C[i]?=some c→C[k]?=some d→Sep c d
theorem Pws.nil:Pws []:=⟨fun _ h=>(nomatch h),fun i k c d _ h=>by simp at h⟩
theorem Pws.snoc{C:List Cell}{c:Cell}(h:Pws C)(hc:ful c=true)(hs:∀d∈C,Sep d c):Pws (C++[c]):=by
 refine⟨fun d hd=>?_,fun i k x y hik hx hy=>?_⟩
 ·rcases zLM.1 hd with hd|hd
  ·exact h.f d hd
  ·rw[List.mem_singleton.1 hd];exact hc
 ·rw[List.getElem?_append]at hx hy
  split at hx
  ·split at hy
   ·exact h.s i k x y hik hx hy
   ·have hk:y=c:=by
     cases he:k-C.length with
     |zero=>rw[he]at hy;simpa using hy.symm
     |succ m=>rw[he]at hy;simp at hy
    subst hk;exact hs x (zLI hx)
  ·have hk:i=C.length∧x=c:=by
    cases he:i-C.length with
    |zero=>rw[he]at hx;exact⟨by omega,by simpa using hx.symm⟩
    |succ m=>rw[he]at hx;simp at hx
   obtain⟨hi,rfl⟩:=hk;split at hy
   ·exact(hs y (zLI hy)).symm
   ·cases he:k-C.length with
    |zero=>omega
    |succ m=>rw[he]at hy;simp at hy
theorem Pws.part{C:List Cell}{k:Nat}{c a b:Cell}(h:Pws C)(hk:C[k]?=some c)(ha:∀p∈c,p∈a)(hb:∀p∈c,p∈b)(fa:ful a=true)(fb:ful b=true)(hs:Sep a b):Pws (C.set k a++[b]):=by
 have hset:Pws (C.set k a):=by
  refine⟨fun d hd=>?_,fun i m x y him hx hy=>?_⟩
  ·obtain⟨i,hi⟩:=List.mem_iff_getElem?.1 hd
   rw[List.getElem?_set]at hi;split at hi
   ·split at hi
    ·cases hi;exact fa
    ·cases hi
   ·exact h.f d (zLI hi)
  ·rw[List.getElem?_set]at hx hy
   by_cases h1:k=i
   ·subst h1
    rw[if_pos rfl]at hx;rw[if_neg him]at hy;split at hx
    ·cases hx;exact(h.s k m c y him hk hy).more ha fun _ hp=>hp
    ·cases hx
   ·rw[if_neg h1]at hx
    by_cases h2:k=m
    ·subst h2
     rw[if_pos rfl]at hy;split at hy
     ·cases hy;exact(h.s i k x c him hx hk).more (fun _ hp=>hp) ha
     ·cases hy
    ·rw[if_neg h2]at hy;exact h.s i m x y him hx hy
 refine hset.snoc fb fun d hd=>?_
 obtain⟨i,hi⟩:=List.mem_iff_getElem?.1 hd;rw[List.getElem?_set]at hi;split at hi
 ·split at hi
  ·cases hi;exact hs
  ·cases hi
 ·rename_i hne
  exact(h.s i k d c (fun e=>hne e.symm) hi hk).more (fun _ hp=>hp) hb
theorem Pws.all{C:List Cell}(h:Pws C):X7 [] C=true:=by
 have key:∀(l seen:List Cell),seen++l=C→X7 seen l=true:=by
  intro l
  induction l with
  |nil=>intro seen _;rfl
  |cons c l ih =>
   intro seen hC;have hc:C[seen.length]?=some c:=by rw[←hC];simp
   unfold X7;rw[h.f c (zLI hc),ih (seen++[c]) (by rw[←hC];simp)]
   have:sap c seen=true:=by
    unfold sap;rw[List.all_eq_true];intro d hd;obtain⟨i,hi⟩:=List.mem_iff_getElem?.1 hd;have hlt:=zO hi
    exact V2 (h.s seen.length i c d (by omega) hc (by rw[←hC,zLR hlt];exact hi))
   rw[this];rfl
 exact key C [] rfl
theorem DOk.up{k n:Int}{d:Drw}(h:DOk k d)(hk:k≤n):DOk n d:=⟨h.1,by have:=h.2;omega⟩
theorem kK.set{b n:Nat}{C:List Cell}{c:Cell}(h:kK b n C)(hc:c≠[]∧c.length≤b)(i:Int):kK b n (jZ C i c):=by
 unfold jZ;refine⟨by rw[List.length_set];exact h.1,fun d hd=>?_⟩
 rcases List.mem_or_eq_of_mem_set hd with hd|hd
 ·exact h.2 d hd
 ·rw[hd];exact hc
theorem N0{b:Int}(h : -1000≤b∧b≤1000):(vK ((0,1,1,()),b,())).val=some (((0, -1, -1,()), -b,()),()):=by
 unfold vK;have hs:(YB (0,0,0,()) (0,1,1,())).val=some ((0, -1, -1,()),()):=Zu (n:=5) (by kernel_rfl)
 rw[zA,hs,zLB,Comp.zB];have e:Yl .i64 b = -b:=Jg (by omega)
 rw[e]
def Lft(X:Int)(C:List Cell):Prop:=∀c∈C,∃B,((1,0,0,()),B,())∈c∧B≤X
theorem NQ(x0:List (List Int)):Ok (kB x0) fun r=>ZS r.1∧ckP r.1=0:=by
 unfold kB;rw[Ok.bind];refine(Ok.loop (fun s:Int×List (List Int)=>0≤s.1∧s.1≤2∧s.2.length=2) (fun s=>(2-s.1).toNat) (P:=fun r=>r.length=2) ?_ ?_).mono fun L hL=>?_
 ·exact⟨by show (0:Int)≤0;omega,by show (0:Int)≤2;omega,rfl⟩
 ·rintro⟨i,L⟩ ⟨h1,h2,h3⟩
  dsimp only at h1 h2 h3 ⊢;split
  ·rename_i hc
   obtain⟨c1,c2⟩:=CU hc;rw[zH]at c1 c2;rw[zC]at c1;refine XH h1 c1 fun d hd=>?_
   rw[Ok.ze (jT ⟨h1,by omega⟩),Ok.pure]
   dsimp only;rw[yh (by omega)]
   refine⟨⟨by omega,by omega,by unfold jZ;rw[List.length_set];exact h3⟩,by omega⟩
  ·rw[Ok.pure];exact h3
 refine XH (by decide) (by rw[hL];decide) fun l0 _=>?_
 refine yu (d0 l0) (by decide) (by decide) fun d1 v1 e1 g1 g1'=>?_
 refine jR (fun x=>DOk 2 x.2) (fun j hj=>?_) fun x hx=>?_
 ·dsimp only
  refine yu e1 (by decide) (by decide) fun d2 v2 e2 g2 g2'=>?_
  dsimp only;split
  ·exact hj _ e2
  ·exact hj _ e2
 dsimp only;refine yu hx (by decide) (by decide) fun d2 v2 e2 g2 g2'=>?_
 refine yu e2 (by decide) (by decide) fun d3 v3 e3 g3 g3'=>?_
 dsimp only at e3 ⊢;have hg1:v1<3:=g1'
 have hg2:v2<3:=g2';have hg3:v3<3:=g3'
 rw[Ok.bind];refine(Ok.loop (fun s:Int×Int×Part×Drw=>(Pws s.2.2.1.2.1∧Lft s.1 s.2.2.1.2.1 ∧ -6≤s.1∧s.1 ≤ -4+4 * s.2.1)∧0≤s.2.1∧s.2.1≤2+v1∧kK 6 (2 * s.2.1).toNat s.2.2.1.2.1∧s.2.1≤s.2.2.1.2.1.length∧s.2.2.1.2.2.1=[]∧DOk (4+s.2.1) s.2.2.2) (fun s=>(2+v1-s.2.1).toNat)
  (P:=fun r=>Pws r.1.2.1∧kK 6 8 r.1.2.1∧2≤r.1.2.1.length∧r.1.2.2.1=[]∧DOk 8 r.2) ?_ ?_).mono fun R hR=>?_
 ·refine⟨⟨Pws.nil,fun _ h=>(nomatch h),by dsimp only;rw[yh (by omega)];omega,by dsimp only;rw[yh (by omega)];omega⟩,by show (0:Int)≤0;omega,by show (0:Int)≤2+v1;omega,⟨Nat.zero_le _,fun _ h=>by cases h⟩,by show (0:Int)≤(0:Nat);omega,rfl,e3.up (by show (2:Int)+1+1≤4+0;omega)⟩
 ·rintro⟨X,i,⟨nm,C,w,u⟩,d⟩ ⟨⟨w1,w2,w3,w4⟩,h1,h2,h3,h4,h5,h6⟩
  dsimp only at w1 w2 w3 w4 h1 h2 h3 h4 h5 h6 ⊢;rw[yh (m:=2) (n:=v1) (by omega)]
  split
  ·rename_i hc
   rw[zH]at hc;refine yu h6 (by decide) (by omega) fun d4 v4 e4 g4 g4'=>?_
   dsimp only;have hg4:v4<4:=g4'
   rw[yh (m:=1) (n:=v4) (by omega),yh (m:=X) (by omega),yh (m:=2) (n:=v3) (by omega),Ok.ze (HD (by omega))]
   have hl:=h3.1;have fb:∀y y',(-20≤y∧y<y')∧y'≤20→ful (box X y 0 (X+(1+v4)) y' (2+v3))=true:=fun y y' h=>Vu (by omega) h (by omega)
   have sb:∀y y',∀d∈C,Sep d (box X y 0 (X+(1+v4)) y' (2+v3)):=fun y y' d hd=>by
    obtain⟨B,b1,b2⟩:=w2 d hd;exact⟨_,b1,((-1,0,0,()), -X,()),by simp[box],by simp,by show B + -X≤0;omega⟩
   have lb:∀ {D:List Cell} y y',Lft (X+(1+v4)) D→Lft (X+(1+v4)) (D++[box X y 0 (X+(1+v4)) y' (2+v3)]):=fun y y' hD d hd=>by
    rcases zLM.1 hd with hd|hd
    ·exact hD d hd
    ·rw[List.mem_singleton.1 hd];exact⟨X+(1+v4),by simp[box],Int.le_refl _⟩
   have l0:Lft (X+(1+v4)) C:=fun d hd=>by
    obtain⟨B,b1,b2⟩:=w2 d hd;exact⟨B,b1,by omega⟩
   have w5:=w1.snoc (fb 0 3 (by omega)) (sb 0 3)
   refine vt (by simp;omega) ?_
   refine jR (fun y=>(Pws y.2.1∧Lft (X+(1+v4)) y.2.1)∧kK 6 (2 * (i+1)).toNat y.2.1∧i+1≤y.2.1.length∧y.2.2.1=[]) (fun j hj=>?_) fun y hy=>?_
   ·dsimp only
    have s1:kK 6 ((2 * i).toNat+1) (C++[box X 0 0 (X+(1+v4)) 3 (2+v3)]):=h3.snoc (Ql rfl);split
    ·rw[Ok.ze (HD (by omega))]
     refine vt (by simp;omega) ?_
     refine hj _ ⟨⟨w5.snoc (fb 3 6 (by omega)) fun d hd=>?_,lb 3 6 (lb 0 3 l0)⟩,(s1.snoc (Ql rfl)).mono (by omega),?_,h5⟩
     ·rcases zLM.1 hd with hd|hd
      ·exact sb 3 6 d hd
      ·rw[List.mem_singleton.1 hd]
       exact⟨((0,1,0,()),3,()),by simp[box],((0, -1,0,()), -3,()),by simp[box],by simp,by decide⟩
     dsimp only;rw[zLE,zLE,zLG];omega
    ·refine hj _ ⟨⟨w5,lb 0 3 l0⟩,s1.mono (by omega),?_,h5⟩
     dsimp only;rw[zLE,zLG];omega
   ·rw[Ok.pure]
    dsimp only;rw[yh (m:=i) (n:=1) (by omega)]
    obtain⟨⟨y1,y2⟩,y3⟩:=hy;exact⟨⟨⟨y1,y2,by omega,by omega⟩,by omega,by omega,y3.1,y3.2.1,y3.2.2,e4.up (by omega)⟩,by omega⟩
  ·rename_i hc
   rw[zH]at hc;rw[Ok.pure];exact⟨w1,h3.mono (by omega),by dsimp only;omega,h5,h6.up (by omega)⟩
 obtain⟨q0,q1,q2,q3,q4⟩:=hR;obtain⟨⟨nm,C,w,u⟩,d⟩:=R;dsimp only at q0 q1 q2 q3 q4 ⊢;refine jR (fun x=>DOk 9 x.2) (fun j hj=>?_) fun x hx=>?_
 ·skip
  refine yu q4 (by decide) (by decide) fun d4 v4 e4 g4 g4'=>?_
  dsimp only;split
  ·exact hj _ e4
  ·exact hj _ e4
 skip
 refine jR (fun y=>Pws y.2.1∧tA 9 y.2.1∧2≤y.2.1.length∧y.2.2.1=[]) (fun j hj=>?_) fun y hy=>?_
 ·skip
  have k0:∀nm u,(fun y:Part=>Pws y.2.1∧tA 9 y.2.1∧2≤y.2.1.length∧y.2.2.1=[]) (nm,C,w,u):=fun _ _=>⟨q0,(q1.wide (by decide)).mono (by omega),q2,q3⟩
  split
  ·have hl:=q1.1
   refine yu hx (by rw[zC];omega) (by decide) fun d4 v4 e4 g4 g4'=>?_
   refine yu e4 (by decide) (by decide) fun d5 v5 e5 g5 g5'=>?_
   rw[zC]at g4';dsimp only;obtain⟨c,hcg⟩:=zK (xs:=C) (k:=v4.toNat) (by omega)
   obtain⟨m1,m2⟩:=q1.2 c (zLI hcg);rw[Ok.bind,Ok.idx g4 hcg];refine vt (by simp;omega) ?_
   refine vt (by simp;omega) ?_
   rw[Ok.bind,Ok.idx g4 hcg];refine vt (by simp;omega) ?_
   have hg5:v5<4:=g5';rw[yh (by omega),Ok.ze (N0 (by omega))]
   refine vt (by simp;omega) ?_
   rw[Ok.ze (YX _),Ok.bind];dsimp only;have hg:Ok (Comp.gd (ful (([]++c)++[((0,1,1,()),2+v5,())])) (yA (([]++c)++[((0, -1, -1,()), -(2+v5),())])) (false,())) fun b=>sel (ful (([]++c)++[((0,1,1,()),2+v5,())])) b.1 false=true→ful (c++[((0,1,1,()),2+v5,())])=true∧ful (c++[((0, -1, -1,()), -(2+v5),())])=true:=by
    rw[List.nil_append];refine Ok.Jr (fun h1=>(Ok.yv (YX _)).2 fun h2=>⟨h1,?_⟩) (fun h1 h2=>?_)
    ·rw[h1]at h2;exact h2
    ·rw[h1]at h2;cases h2
   refine hg.mono fun b hb=>?_
   refine jR (fun y=>Pws y.2.1∧tA 9 y.2.1∧2≤y.2.1.length∧y.2.2.1=[]) (fun j' hj'=>?_) fun y hy=>hj _ hy
   split
   ·rename_i hs
    obtain⟨f1,f2⟩:=hb hs;rw[Ok.ze (jT ⟨g4,g4'⟩)];have t3:∀z:Cell,(jZ C v4 z).length=C.length:=fun z=>by unfold jZ;rw[List.length_set]
    refine vt (by rw[zLG,t3];omega) ?_
    refine hj' _ ⟨?_,((q1.wide (by decide)).set (by simp;omega) v4).snoc (by simp;omega),?_,q3⟩
    ·dsimp only
     rw[List.nil_append];exact q0.part hcg (fun p hp=>by simp[hp]) (fun p hp=>by simp[hp]) f1 f2 ⟨((0,1,1,()),2+v5,()),by simp,((0, -1, -1,()), -(2+v5),()),by simp,by simp,by show 2+v5 + -(2+v5)≤0;omega⟩
    ·dsimp only
     rw[zLE,zLG,t3];omega
   ·exact hj' _ ⟨q0,(q1.wide (by decide)).mono (by omega),q2,q3⟩
  ·exact hj _ (k0 _ _)
 skip
 refine XH (by decide) (by rw[hL];decide) fun l1 _=>?_
 obtain⟨nm2,C2,w2,u2⟩:=y;obtain⟨y0,y1,y2,y3⟩:=hy;dsimp only at y0 y1 y2 y3 ⊢;subst y3;rw[Ok.bind];refine(Ok.loop (fun s:Int×Part×Drw=>0≤s.1∧s.1≤C2.length∧s.2.1.2.1=C2∧(s.2.1.2.2.1.length:Int)=s.1∧s.2.1.2.2.1.any y5=false∧DOk s.1 s.2.2) (fun s=>(C2.length-s.1).toNat)
  (P:=fun r=>ZS r∧ckP r=0) ?_ ?_).mono fun R hR=>?_
 ·exact⟨by show (0:Int)≤0;omega,by show (0:Int)≤C2.length;omega,rfl,rfl,rfl,d0 l1⟩
 ·rintro⟨i,⟨nm3,C3,w3,u3⟩,d⟩ ⟨h1,h2,h3,h4,h0,h5⟩
  dsimp only at h1 h2 h3 h4 h0 h5 ⊢;subst h3;have hl:=y1.1
  split
  ·rename_i hc
   rw[zH,zC]at hc;refine yu h5 (by decide) (by omega) fun d4 v4 e4 g4 g4'=>?_
   dsimp only;refine XH g4 g4' fun z hz=>?_
   refine vt (by simp;omega) ?_
   rw[Ok.pure];dsimp only;rw[yh (m:=i) (n:=1) (by omega)]
   refine⟨⟨by omega,by omega,rfl,by rw[zLE,zLG];omega,?_,e4⟩,by omega⟩
   rw[List.any_append,h0];simp only[zLH,List.not_mem_nil,or_false]at hz;rcases hz with rfl|rfl|rfl|rfl<;>decide
  ·rename_i hc
   rw[zH,zC]at hc;rw[Ok.pure];refine⟨⟨y1.mono (by omega),fun e=>?_,by dsimp only;omega⟩,?_⟩
   ·dsimp only at e
    rw[e]at y2;simp at y2
   ·unfold ckP
    dsimp only;rw[if_neg (by omega),if_neg (by rw[h0];simp;omega),y0.all];rfl
 ·rw[Ok.pure];exact hR
theorem VM{p:Part}(hp:ZS p):Ok (jP p) fun r=>r.1=(List.replicate p.2.1.length false,List.replicate p.2.1.length false,[],()):=by
 unfold jP;have h1:=hp.1.1
 have:=uE;rw[Ok.bind,Ok.mk (by rw[zC];omega),Ok.bind,Ok.mk (by rw[zC];omega),Ok.pure,zC];rfl
theorem CI:∀ {l seen:List Cell},X7 seen l=true→∀c∈l,ful c=true
 | [],_,_,c,hc=>by cases hc
 |d::l,seen,h,c,hc=>by
  unfold X7 at h;simp only[zLD]at h;rcases zLH.1 hc with e|e
  ·subst e;exact h.1
  ·exact CI h.2.2 c e
theorem u5{p:Part}(h:ckP p=0):(1≤p.2.1.length∧p.2.1.length≤16)∧(p.2.2.1.length=p.2.1.length∧p.2.2.1.any y5=false)∧X7 [] p.2.1=true:=by
 unfold ckP at h;split at h
 ·cases h
 ·split at h
  ·cases h
  ·rename_i h1 h2
   cases hb:X7 [] p.2.1 with
   |true =>
    refine⟨by omega,⟨by omega,?_⟩,rfl⟩
    cases hs:p.2.2.1.any y5 with
    |false=>rfl
    |true=>exact absurd (.inr hs) h2
   |false=>rw[hb]at h;cases h
structure PcV(p:Part)(x:zZ):Prop where
 c:ckP p=0
 f:kF p x=true
 s:∀i,i<p.2.1.length→x.1.getD i false=false→(cov (nr x.2.2.1 (cl p i)) (cl p i)).1=false
theorem Rn{p:Part}{i:Nat}(h:i<p.2.1.length):cl p i∈p.2.1:=by
 obtain⟨c,hc⟩:=zK h;unfold cl;rw[z7 hc];exact zLI hc
theorem PcV.new{p:Part}(h:ckP p=0):PcV p (List.replicate p.2.1.length false,List.replicate p.2.1.length false,[],()):=by
 refine⟨h,by simp[kF,gk],fun i hi _=>?_⟩
 have hf:=CI (u5 h).2.2 _ (Rn hi);have hf2:=hf
 unfold ful at hf2;simp only[zLD,decide_eq_true_eq]at hf2;show (cov [] (cl p i)).1=false
 unfold cov mns;rw[if_pos hf2.1,if_pos (by decide),if_pos hf];rfl
theorem N1{p:Part}{x:zZ}(h:kF p x=true):x.1.length=p.2.1.length∧x.2.1.length=p.2.1.length∧x.2.2.1.length≤24∧gk x.2.2.1=0:=by
 unfold kF at h;simp only[zLD,decide_eq_true_eq]at h;exact⟨h.1.1,h.1.2,h.2.1,h.2.2⟩
theorem lg{p:Part}{x:zZ}{C T:List Cell}(h:(apl p x C T).2=0):PcV p (apl p x C T).1∧(fit p x=0∧gk (C++T)=0)∧(apl p x C T).1=(apS (x.2.2.1++C) p.2.1 x.1,apT C T p.2.1 x.2.1,x.2.2.1++C,()):=by
 unfold apl at h ⊢;split at h
 ·rename_i hf
  obtain⟨k1,k2,f1,f2,f3,f4,f5,f6⟩:=XG hf;split at h
  ·rename_i hfs
   split at h
   ·cases h
   ·rename_i hm
    split at h
    ·rename_i he
     rw[if_pos hf,if_pos hfs,if_neg hm,if_pos he];refine⟨⟨k1,?_,fun i hi hs=>?_⟩,⟨hf,hfs⟩,rfl⟩
     ·have e1:(apS (x.2.2.1++C) p.2.1 x.1).length=p.2.1.length:=by unfold apS;rw[List.length_zipWith,f1,Nat.min_self]
      have e2:(apT C T p.2.1 x.2.1).length=p.2.1.length:=by unfold apT;rw[List.length_zipWith,f2,Nat.min_self]
      have e3:gk (x.2.2.1++C)=0:=by
       rw[Kd,if_pos f4];rw[Kd]at hfs;split at hfs
       ·rename_i h0;exact h0
       ·exact hfs
      unfold kF;simp only[zLD,decide_eq_true_eq,zLE];exact⟨⟨e1,e2⟩,by omega,e3⟩
     ·obtain⟨c,hc⟩:=zK hi
      obtain⟨v,hv⟩:=zK (xs:=x.1) (k:=i) (by omega)
      have hz:(apS (x.2.2.1++C) p.2.1 x.1)[i]?=some (sur (x.2.2.1++C) c v):=YP hc hv;dsimp only at hs;rw[z7 hz]at hs;have ec:cl p i=c:=z7 hc
      rw[ec];unfold sur at hs
      cases v with
      |true=>cases hs
      |false=>exact hs
    ·rename_i he;exact absurd h he
  ·rename_i hfs;exact absurd h hfs
 ·rename_i hf;exact absurd h hf
def nX(x:Eff):Prop:=x.1.length≤50∧x.2.1.length≤50∧x.2.2.2.1.length≤50
theorem uD{xs:List β}{l h:Int}{f:List β→Comp α}{P:α→Prop}(hr:0≤l∧l≤h∧h≤xs.length)(k:∀ys,ys.length=(h-l).toNat→Ok (f ys) P):Ok ((sub xs l h).bind f) P:=by
 rw[Ok.bind,Ok.sub hr];exact k _ (by rw[List.length_drop,List.length_take];omega)
theorem ml{x0:List (List Int)}{p:Part}{f:List Cell×Unit→Comp α}{P:α→Prop}(hp:ZS p)(k:∀C:List Cell,C.length≤4→Ok (f (C,())) P):Ok ((vH x0 p).bind f) P:=by
 rw[Ok.bind];exact(Vk hp).mono fun r hr=>k r.1 hr
theorem kM(m n:Int):Dq m n=min m n:=rfl
theorem I4{p:Part}{x1:List Int}{x2:Int}(hp:ZS p):Ok (vE p x1 x2) fun r=>nX r.1:=by
 unfold vE;have hl:=hp.1.1
 refine yu (d0 x1) (by decide) (by decide) fun d1 v1 e1 g1 g1'=>?_
 refine jR (fun x=>DOk 2 x.2) (fun j hj=>?_) fun x hx=>?_
 ·dsimp only
  split
  ·refine yu e1 (by decide) (by decide) fun d2 v2 e2 g2 g2'=>?_
   exact hj _ e2
  ·exact hj _ (e1.up (by decide))
 refine jR (fun x:Eff=>x.1=[]∧x.2.1=[]∧x.2.2.2.1.length≤50) (fun j hj=>?_) fun y hy=>?_
 ·dsimp only
  split
  ·exact hj _ ⟨rfl,rfl,by show 1≤50;omega⟩
  ·exact hj _ ⟨rfl,rfl,by show 0≤50;omega⟩
 refine yu hx (by decide) (by decide) fun d2 v2 e2 g2 g2'=>?_
 rw[Ok.bind];refine(Ok.loop (fun s:Int×Eff×Drw=>0≤s.1∧s.1≤p.2.1.length∧(s.2.1.1.length≤s.1∧s.2.1.2.1=[]∧s.2.1.2.2.2.1.length≤50)∧DOk (4+2 * s.1) s.2.2) (fun s=>(p.2.1.length-s.1).toNat)
  (P:=fun r:Eff=>r.1.length≤12∧r.2.1=[]∧r.2.2.2.1.length≤50) ?_ ?_).mono fun R hR=>?_
 ·exact⟨by show (0:Int)≤0;omega,by show (0:Int)≤p.2.1.length;omega,⟨by show ((y.1.length:Nat):Int)≤0;rw[hy.1];decide,hy.2.1,hy.2.2⟩,e2.up (by show (2:Int)+1≤4+2 * 0;omega)⟩
 ·rintro⟨i,⟨cu,to,co,ne,u⟩,d⟩ ⟨h1,h2,⟨h3,h4,h5⟩,h6⟩
  dsimp only at h1 h2 h3 h4 h5 h6 ⊢;split
  ·rename_i hc
   rw[zH,zC]at hc;refine yu h6 (by decide) (by omega) fun d4 v4 e4 g4 g4'=>?_
   dsimp only;refine XH h1 (by rw[hp.2.2];exact hc) fun z _=>?_
   refine jR (fun x=>DOk (4+2 * (i+1)) x.2) (fun j hj=>?_) fun x hx=>?_
   ·skip
    split
    ·refine jR (fun x=>DOk (4+2 * (i+1)) x.2) (fun j' hj'=>?_) fun x hx=>hj _ hx
     skip
     split
     ·refine yu e4 (by decide) (by omega) fun d5 v5 e5 g5 g5'=>?_
      exact hj' _ (e5.up (by omega))
     ·exact hj' _ (e4.up (by omega))
    ·exact hj _ (e4.up (by omega))
   ·refine jR (fun x:Eff=>x.1.length≤i+1∧x.2.1=[]∧x.2.2.2.1.length≤50) (fun j hj=>?_) fun y hy=>?_
    ·skip
     split
     ·refine XH h1 hc fun c hcc=>?_
      obtain⟨m1,m2⟩:=hp.1.2 c hcc;refine vt (by simp;omega) ?_
      refine vt (by simp;omega) ?_
      refine hj _ ⟨?_,h4,h5⟩;dsimp only;rw[zLE,zLG];omega
     ·exact hj _ ⟨by dsimp only;omega,h4,h5⟩
    ·rw[Ok.pure]
     dsimp only;rw[yh (m:=i) (n:=1) (by omega)]
     exact⟨⟨by omega,by omega,hy,hx⟩,by omega⟩
  ·rename_i hc
   rw[zH,zC]at hc;rw[Ok.pure];exact⟨by dsimp only;omega,h4,h5⟩
 refine jR (fun x:Eff=>x.1.length≤50∧x.2.1.length≤50∧x.2.2.2.1.length≤50) (fun j hj=>?_) fun y hy=>?_
 ·dsimp only
  split
  ·refine uD ⟨by rw[kM,zC];omega,by rw[kM];omega,by rw[zC];omega⟩ fun ys hys=>?_
   refine ml hp fun C hC=>?_
   have hr1:=hR.1;refine vt (by dsimp only;omega) ?_
   refine hj _ ⟨?_,?_,hR.2.2⟩
   ·dsimp only;rw[zLE];omega
   ·dsimp only;rw[hR.2.1];exact Nat.zero_le _
  ·refine hj _ ⟨by have:=hR.1;dsimp only;omega,?_,hR.2.2⟩
   dsimp only;rw[hR.2.1];exact Nat.zero_le _
 refine jR (fun x:Eff=>x.1.length≤50∧x.2.1.length≤50∧x.2.2.2.1.length≤50) (fun j hj=>?_) fun y hy=>?_
 ·dsimp only
  split
  ·refine uD ⟨by rw[kM,zC];omega,by rw[kM];omega,by rw[zC];omega⟩ fun ys hys=>?_
   refine ml hp fun C hC=>?_
   exact hj _ ⟨hy.1,by dsimp only;omega,hy.2.2⟩
  ·exact hj _ hy
 rw[Ok.pure];exact hy
theorem pb{p:Part}{x1:List Int}{x2:Int}{f:Eff×Unit→Comp α}{P:α→Prop}(hp:ZS p)(k:∀e:Eff,nX e→Ok (f (e,())) P):Ok ((vE p x1 x2).bind f) P:=by
 rw[Ok.bind];exact(I4 hp).mono fun r hr=>k r.1 hr
structure JobOk(j:Job):Prop where
 p:ZS j.1
 e:∀x∈j.2.2.1,nX x
 n:j.2.2.1.length≤8
 v:PcV j.1 j.2.1
theorem nX.sm{x:Eff}(h:nX x):SmE x:=⟨zLK h.1 (by decide),zLK h.2.1 (by decide),zLK h.2.2 (by decide)⟩
theorem ZS.w{p:Part}(h:ZS p):p.2.2.1.length<9223372036854775807:=by rw[h.2.2];have:=h.1.1;omega
theorem MF{j:Job}{P:Int×Unit→Prop}(hj:JobOk j)(k:P (ckJ j,())):Ok (gR j) P:=(Ok.yv (uJ hj.p.w fun x hx=>(hj.e x hx).sm)).2 k
theorem VX(x0:List (List Int)):Ok (j9 x0) fun r=>JobOk r.1∧1≤r.1.2.2.1.length:=by
 unfold j9;refine uD ⟨by decide,by rw[kM,zC];omega,by rw[kM,zC];omega⟩ fun x hx=>?_
 rw[Ok.bind];refine(NQ x).mono ?_;rintro⟨p,u⟩ ⟨hp,hpv⟩;rw[Ok.bind];refine(VM hp).mono ?_;rintro⟨pc,u'⟩ hpc;dsimp only at hp hpv hpc ⊢;subst hpc;have hp0:=And.intro hp (PcV.new hpv)
 refine jR (fun y:Job=>(ZS y.1∧PcV y.1 y.2.1)∧y.2.2.1=[]) (fun j hj=>?_) fun y hy=>?_
 ·skip
  split
  ·rename_i hc
   rw[yd,zC]at hc;refine XH (by decide) (by omega) fun d hd=>?_
   refine yu (d0 d) (by decide) (by decide) fun d1 v1 e1 g1 g1'=>?_
   refine jR (fun y:Job=>(ZS y.1∧PcV y.1 y.2.1)∧y.2.2.1=[]) (fun j' hj'=>?_) fun y hy=>hj _ hy
   dsimp only;split
   ·obtain⟨d2,hd2⟩:=zK (xs:=x0) (k:=2) (by omega)
    rw[Ok.bind,Ok.idx (by decide) hd2,Ok.bind,Ok.idx (by decide) hd2]
    refine uD ⟨by rw[kM,zC];omega,by rw[kM];omega,by rw[zC];omega⟩ fun ys hys=>?_
    refine ml hp fun C hC=>?_
    rw[Ok.ze (tO hp.w (by dsimp only;omega) (by decide))]
    refine jR (fun y:Job=>(ZS y.1∧PcV y.1 y.2.1)∧y.2.2.1=[]) (fun j'' hj''=>?_) fun y hy=>hj' _ hy
    split
    ·rename_i he
     exact hj'' _ ⟨⟨hp,(lg (by rw[yw]at he;exact he)).1⟩,rfl⟩
    ·exact hj'' _ ⟨hp0,rfl⟩
   ·exact hj' _ ⟨hp0,rfl⟩
  ·exact hj _ ⟨hp0,rfl⟩
 rw[Ok.bind];refine(Ok.loop (fun s:Int×Job=>3≤s.1∧s.1≤7∧(ZS s.2.1∧PcV s.2.1 s.2.2.1)∧(∀x∈s.2.2.2.1,nX x)∧(s.2.2.2.1.length:Int)=s.1-3) (fun s=>(7-s.1).toNat)
  (P:=fun r:Job=>JobOk r∧r.2.2.1.length≤4) ?_ ?_).mono fun R hR=>?_
 ·exact⟨by show (3:Int)≤3;omega,by show (3:Int)≤7;omega,hy.1,fun x (hx:x∈y.2.2.1)=>(by rw[hy.2]at hx;cases hx),by show ((y.2.2.1.length:Nat):Int)=3-3;rw[hy.2];rfl⟩
 ·rintro⟨i,p',pc',es,u''⟩ ⟨h1,h2,h3,h4,h5⟩
  dsimp only at h1 h2 h3 h4 h5 ⊢;split
  ·rename_i hc
   obtain⟨c1,c2⟩:=CU hc;rw[zH]at c1 c2;rw[zC]at c1;refine XH (by omega) c1 fun d hd=>?_
   refine pb hp fun e he=>?_
   refine vt (by simp;omega) ?_
   rw[Ok.pure];dsimp only;rw[yh (by omega)]
   refine⟨⟨by omega,by omega,h3,fun x hx=>?_,by rw[zLE,zLG];omega⟩,by omega⟩
   rcases zLM.1 hx with hx|hx
   ·exact h4 x hx
   ·rw[List.mem_singleton.1 hx];exact he
  ·rw[Ok.pure]
   exact⟨⟨h3.1,h4,by dsimp only;omega,h3.2⟩,by dsimp only;omega⟩
 refine jR (fun y:Job=>JobOk y∧1≤y.2.2.1.length) (fun j hj=>?_) fun y hy=>?_
 ·skip
  split
  ·refine pb hp fun e he=>?_
   have:=hR.2;refine vt (by simp;omega) ?_
   refine hj _ ⟨⟨hR.1.p,fun x hx=>?_,?_,hR.1.v⟩,?_⟩
   ·rcases zLM.1 hx with hx|hx
    ·exact hR.1.e x hx
    ·rw[List.mem_singleton.1 hx];exact he
   ·dsimp only;rw[zLE,zLG];omega
   ·dsimp only;rw[zLE,zLG];omega
  ·rename_i hc
   rw[yw,zC]at hc;exact hj _ ⟨⟨hR.1.p,hR.1.e,hR.1.n,hR.1.v⟩,by dsimp only;omega⟩
 rw[Ok.bind];refine(Ok.loop (fun s:Job=>JobOk s∧1≤s.2.2.1.length) (fun s=>s.2.2.1.length)
  (P:=fun r:Job=>JobOk r∧1≤r.2.2.1.length) hy ?_).mono fun R hR=>?_
 ·rintro⟨p',pc',es,u''⟩ ⟨hs,hs1⟩
  have hn:=hs.n;dsimp only at hs hs1 hn ⊢;rw[Ok.bind];have fin:∀x7:Int×Unit,Ok (if sel (gtI (zF es) 1) (eqI x7.1 2) false=true then jn (fun x:Job=>Comp.pure (Comp.Step.next (x.1,x.2.1,x.2.2.1,()))) fun j=>(sub es 0 (gi .i64 (zF es) 1)).bind fun ys=>j (p',pc',ys,()) else Comp.pure (Comp.Step.done (p',pc',es,())))
    (fun t:Comp.Step Job Job=>match t with|.next s'=>(JobOk s'∧1≤s'.2.2.1.length)∧s'.2.2.1.length<es.length|.done r=>JobOk r∧1≤r.2.2.1.length):=by
   intro x7;split
   ·rename_i hc
    obtain⟨c1,c2⟩:=CU hc;rw[yd,zC]at c1;rw[zC,YK (by omega)]
    refine jR (fun y:Job=>(JobOk y∧1≤y.2.2.1.length)∧y.2.2.1.length<es.length) (fun j hj=>?_) fun y hy=>?_
    ·show Ok ((sub es 0 ((es.length:Int)-1)).bind fun ys=>j (p',pc',ys,())) _
     rw[Ok.bind,Ok.sub (by omega)]
     refine hj _ ⟨⟨⟨hs.p,fun x hx=>hs.e x (List.mem_of_mem_take (List.mem_of_mem_drop hx)),?_,hs.v⟩,?_⟩,?_⟩
     ·dsimp only;rw[List.length_drop,List.length_take];omega
     ·dsimp only;rw[List.length_drop,List.length_take];omega
     ·dsimp only;rw[List.length_drop,List.length_take];omega
    ·rw[Ok.pure];exact hy
   ·rw[Ok.pure];exact⟨hs,hs1⟩
  refine Ok.Jr (fun _=>MF ⟨hs.p,hs.e,hs.n,hs.v⟩ ?_) (fun _=>?_)
  ·refine(fin _).mono fun t ht=>?_
   cases t<;>exact ht
  ·refine(fin _).mono fun t ht=>?_
   cases t<;>exact ht
 ·rw[Ok.pure];exact hR
theorem JobOk.sm{j:Job}(h:JobOk j):SmJ j:=⟨h.p.w,fun x hx=>(h.e x hx).sm,zLK h.n (by decide)⟩
theorem Rk{n:Nat}:∀ {L:List Eff} {k:Nat},efs n L k=0→∀x∈L,1≤x.2.2.1∧x.2.2.1≤1048576
 | [],_,_,x,hx=>by cases hx
 |y::L,k,h,x,hx=>by
  unfold efs at h;split at h
  ·rename_i h1
   rcases zLH.1 hx with e|e
   ·subst e
    unfold eE at h1;split at h1
    ·split at h1
     ·cases h1
     ·rename_i h2;omega
    ·rename_i h2;exact absurd h1 h2
   ·exact Rk h x e
  ·rename_i h1;exact absurd h h1
theorem QM{j:Job}(h:ckJ j=0):∀x∈j.2.2.1,1≤x.2.2.1∧x.2.2.1≤1048576:=by
 unfold ckJ at h;split at h
 ·split at h
  ·cases h
  ·split at h
   ·rename_i h1;exact Rk h1
   ·rename_i h1;exact absurd h h1
 ·rename_i h1;exact absurd h h1
def z8:List Bool:=[false,false,false,false,false,false,false,false]
def B8(s:List Bool)(k:Nat):Bool:=s.getD k false
def m8(g:Nat→Bool):List Bool:=(List.range 8).map g
theorem Zs(g:Nat→Bool):(m8 g).length=8:=by simp[m8]
theorem zDJ{g:Nat→Bool}{k:Nat}(h:k<8):(m8 g)[k]?=some (g k):=by simp[m8,h]
theorem uG{g:Nat→Bool}{k:Nat}(h:k<8):B8 (m8 g) k=g k:=by unfold B8;exact z7 (zDJ h)
theorem Xz{s:List Bool}(hs:s.length=8){k:Nat}(h:k<8):s[k]?=some (B8 s k):=by
 have:s[k]?=some s[k]:=zLT (by omega)
 unfold B8;rw[z7 this];exact this
theorem uO{s:List Bool}(hs:s.length=8){k:Nat}(h:8≤k):B8 s k=false:=by
 unfold B8;rw[List.getD_eq_getElem?_getD,List.getElem?_eq_none (by omega)];rfl
theorem Sy{s t:List Bool}(hs:s.length=8)(ht:t.length=8)(h:∀k,k<8→B8 s k=B8 t k):s=t:=by
 refine List.ext_getElem? fun k=>?_
 by_cases hk:k<8
 ·rw[Xz hs hk,Xz ht hk,h k hk]
 ·rw[List.getElem?_eq_none (by omega),List.getElem?_eq_none (by omega)]
theorem KK{s:List Bool}(hs:s.length=8){i:Nat}(hi:i<8)(v:Bool)(k:Nat):B8 (s.set i v) k=if k=i then v else B8 s k:=by
 unfold B8;rw[List.getD_eq_getElem?_getD,List.getD_eq_getElem?_getD,List.getElem?_set];by_cases h:i=k
 ·subst h;simp[hs,hi]
 ·rw[if_neg h,if_neg (Ne.symm h)]
theorem Ef{g:Nat→Bool}{i:Nat}(hi:i<8):(m8 fun k=>decide (k<i) && g k).set i (g i)=m8 fun k=>decide (k<i+1) && g k:=by
 refine Sy (by simp[Zs]) (Zs _) fun k hk=>?_
 rw[KK (Zs _) hi,uG hk,uG hk];by_cases h:k=i
 ·subst h;simp
 ·rw[if_neg h]
  have:decide (k<i)=decide (k<i+1):=by rw[decide_eq_decide];omega
  rw[this]
theorem Rz{g:Nat→Bool}:z8=m8 fun k=>decide (k<0) && g k:=rfl
theorem ZM(xs:List α)(k:Nat)(v:α):jZ xs (k:Int) v=xs.set k v:=rfl
theorem mY{xs ys:List Bool}:(eqA (fun a b=>eqB a b) xs ys=true)↔xs=ys:=by
 induction xs generalizing ys with
 |nil=>cases ys<;>simp[eqA]
 |cons x xs ih =>
  cases ys with
  |nil=>simp[eqA]
  |cons y ys =>
   simp only[eqA,List.cons.injEq];rw[←ih];cases x<;>cases y<;>simp[eqB,adB]
def sl(s:List Bool):List Nat:=(List.range 8).filter (B8 s)
def slI(s:List Bool):List Int:=(sl s).map fun k:Nat=>(k:Int)
theorem YM{s:List Bool}{k:Nat}:k∈sl s↔k<8∧B8 s k=true:=by simp[sl]
theorem lC(s:List Bool):(sl s).length≤8:=by
 have:=List.length_filter_le (B8 s) (List.range 8);simpa[sl] using this
theorem Jj(s:List Bool):(slI s).length≤8:=by simpa[slI] using lC s
theorem Ue{s:List Bool}{i:Nat}{x:Int}(h:(slI s)[i]?=some x):∃k:Nat,x=(k:Int)∧k<8∧B8 s k=true:=by
 have:=zLI h;obtain⟨k,hk,rfl⟩:=List.mem_map.1 this;exact⟨k,rfl,YM.1 hk⟩
theorem JL{s:List Bool}(hs:s.length=8):(vz s).val=some (slI s,()):=by
 unfold vz;refine Ok.val ?_;rw[Ok.bind];refine(Ok.count 8 (fun i (x:List Int×Int)=>x.2=(i:Int)∧x.1=((List.range i).filter (B8 s)).map fun k:Nat=>(k:Int)) (P:=fun r=>r=slI s) ⟨rfl,rfl⟩ ?_ ?_).mono fun r hr=>by rw[Ok.pure,hr]
 ·rintro i ⟨l,n⟩ hi ⟨h1,h2⟩
  dsimp only at h1 h2;subst h1 h2;have hle:=List.length_filter_le (B8 s) (List.range i)
  rw[List.length_range]at hle;rw[if_pos (by rw[zH];omega),Ok.bind,Ok.Yu (Xz hs hi)]
  refine jR (fun y=>y=((List.range (i+1)).filter (B8 s)).map fun k:Nat=>(k:Int)) (fun j hj=>?_) fun y hy=>?_
  ·split
   ·rename_i hb
    refine vt (by simp;omega) (hj _ ?_)
    rw[List.range_succ,List.filter_append,List.map_append];simp[hb]
   ·rename_i hb
    refine hj _ ?_;rw[List.range_succ,List.filter_append,List.map_append];simp[hb]
  ·rw[Ok.pure]
   exact⟨zM (by omega),hy⟩
 ·rintro⟨l,n⟩ ⟨h1,h2⟩
  dsimp only at h1 h2;subst h1 h2;rw[if_neg (by rw[zH];show ¬((8:Nat):Int)<8;omega),Ok.pure]
  rfl
def cst(L:List Eff)(l:List Nat):Int:=(l.map fun k:Nat=>(opn L (k:Int)).2.2.1).sum
theorem Vn(L:List Eff)(l m:List Nat):cst L (l++m)=cst L l+cst L m:=by simp[cst]
theorem Eo{L:List Eff}{m:Int}:∀ {l:List Nat},(∀k∈l,1≤(opn L (k:Int)).2.2.1∧(opn L (k:Int)).2.2.1≤m)→0≤cst L l∧cst L l≤l.length * m
 | [],_=>by simp[cst]
 |k::l,h=>by
  have h1:=Eo (l:=l) fun j hj=>h j (by simp[hj])
  have h2:=h k (by simp)
  have:cst L (k::l)=(opn L (k:Int)).2.2.1+cst L l:=by simp[cst]
  rw[this,zLL];have:((l.length+1:Nat):Int) * m=l.length * m+m:=by rw[Int.natCast_add,Int.add_mul];simp
  omega
def zHk(L:List Eff):Prop:=∀k:Nat,k<L.length→1≤(opn L (k:Int)).2.2.1∧(opn L (k:Int)).2.2.1≤1048576
theorem Bw{j:Job}{sp s:List Bool}(hs:s.length=8)(hin:∀k,B8 s k=true→k<j.2.2.1.length)(hc:zHk j.2.2.1):(jE (j,sp,()) s).val=some (cst j.2.2.1 (sl s),()):=by
 unfold jE;refine Ok.val ?_;rw[Ok.ze (JL hs)];dsimp only;rw[Ok.bind];have hln:=Jj s
 refine(Ok.count (slI s).length (fun i (x:Int×Int)=>x.2=(i:Int)∧x.1=cst j.2.2.1 ((sl s).take i)) (P:=fun r=>r=cst j.2.2.1 (sl s)) ⟨rfl,by simp[cst]⟩ ?_ ?_).mono fun r hr=>by rw[Ok.pure,hr]
 ·rintro i ⟨c,n⟩ hi ⟨h1,h2⟩
  dsimp only at h1 h2;subst h1 h2;obtain⟨k,hk⟩:=zK (xs:=sl s) (k:=i) (by simpa[slI] using hi)
  have hk2:(slI s)[i]?=some (k:Int):=by simp[slI,hk]
  have hkm:=YM.1 (zLI hk);have hkl:=hin k hkm.2
  rw[if_pos (by rw[zH,zC];omega),Ok.bind,Ok.Yu hk2,Ok.bind,Ok.yv (Jm ⟨by omega,by omega⟩),Ok.pure]
  refine⟨zM (by omega),?_⟩
  have ht:(sl s).take (i+1)=(sl s).take i++[k]:=by rw[List.take_add_one,hk];rfl
  have hb:=Eo (L:=j.2.2.1) (m:=1048576) (l:=(sl s).take i) fun q hq=>hc q (hin q (YM.1 (List.mem_of_mem_take hq)).2)
  have hlt:((sl s).take i).length≤8:=by have:=lC s;rw[List.length_take];omega
  have hck:=hc k hkl;rw[ht,Vn];show zJ .i64 _ _=_
  have e1:cst j.2.2.1 [k]=(opn j.2.2.1 (k:Int)).2.2.1:=by simp[cst]
  rw[e1,yh (by omega)]
 ·rintro⟨c,n⟩ ⟨h1,h2⟩
  dsimp only at h1 h2;subst h1 h2;rw[if_neg (by rw[zH,zC];omega),Ok.pure]
  have:(sl s).take (slI s).length=sl s:=List.take_of_length_le (by simp[slI])
  rw[this]
def rs(n:Nat)(sp out:List Bool):List Bool:=m8 fun k=>decide (k<n) && (!B8 out k && !B8 sp k)
def Wo(L:List Eff):Prop:=∀k:Nat,∀q∈(opn L (k:Int)).2.2.2.1,0≤q∧q<L.length
def KJ(L:List Eff)(s:List Bool):Prop:=∀k:Nat,B8 s k=true→∀q∈(opn L (k:Int)).2.2.2.1,B8 s q.toNat=true
def YO(s t:List Bool):Prop:=∀k,B8 s k=true→B8 t k=true
theorem YO.refl(s:List Bool):YO s s:=fun _ h=>h
theorem YO.trans{s t u:List Bool}(h:YO s t)(k:YO t u):YO s u:=fun i hi=>k i (h i hi)
theorem YO.eq{s t:List Bool}(hs:s.length=8)(ht:t.length=8)(h:YO s t)(k:YO t s):s=t:=Sy hs ht fun i _=>by rw[Bool.eq_iff_iff];exact⟨h i,k i⟩
theorem zAh{s t:List Bool}(h:YO s t):sl s=(sl t).filter (B8 s):=by
 unfold sl;rw[List.filter_filter];refine List.filter_congr fun i _=>?_
 cases hs:B8 s i with
 |true=>rw[h i hs];rfl
 |false=>rfl
theorem Ud{s t:List Bool}(hs:s.length=8)(ht:t.length=8)(h:YO s t)(hne:s≠t):(sl s).length<(sl t).length:=by
 rw[zAh h,List.length_filter_lt_length_iff_exists];by_cases he:∃x∈sl t,¬B8 s x=true
 ·exact he
 ·refine absurd (YO.eq hs ht h fun k hk=>?_) hne
  cases hb:B8 s k with
  |true=>rfl
  |false =>
   refine absurd ⟨k,YM.2 ⟨?_,hk⟩,by rw[hb];simp⟩ he
   by_cases h8:k<8
   ·exact h8
   ·rw[uO ht (by omega)]at hk;cases hk
theorem SM{n:Nat}{sp out:List Bool}{k:Nat}(h:B8 (rs n sp out) k=true):k<n∧B8 out k=false∧B8 sp k=false:=by
 by_cases h8:k<8
 ·unfold rs at h
  rw[uG h8]at h;simpa using h
 ·rw[uO (show (rs n sp out).length=8 from Zs _) (by omega)]at h;cases h
theorem zEp{n:Nat}{sp out:List Bool}{k:Nat}(hn:n≤8)(h:k<n∧B8 out k=false∧B8 sp k=false):B8 (rs n sp out) k=true:=by
 unfold rs;rw[uG (by omega)]
 simp[h.1,h.2.1,h.2.2]
structure RestOk(L:List Eff)(sp out s:List Bool):Prop where
 len:s.length=8
 sub:YO s (rs L.length sp out)
 cl:KJ L s
 most:∀t,YO t (rs L.length sp out)→KJ L t→YO t s
theorem GK{j:Job}{sp out:List Bool}(hsp:sp.length=8)(ho:out.length=8)(hn:j.2.2.1.length≤8)(hnd:Wo j.2.2.1)(hsm:∀k:Nat,(opn j.2.2.1 (k:Int)).2.2.2.1.length<9223372036854775807):Ok (jz (j,sp,()) out) fun r=>RestOk j.2.2.1 sp out r.1:=by
 unfold jz;dsimp only;rw[Ok.bind];refine(Ok.count j.2.2.1.length (fun i (x:Int×List Bool)=>x.1=(i:Int)∧x.2=m8 fun k=>decide (k<i) && (!B8 out k && !B8 sp k)) (P:=fun r=>r=rs j.2.2.1.length sp out) ⟨rfl,rfl⟩ ?_ ?_).mono fun r hr=>?_
 ·rintro i ⟨n,s⟩ hi ⟨h1,h2⟩
  dsimp only at h1 h2;subst h1 h2;rw[if_pos (by rw[zH,zC];omega),Ok.bind,Ok.Yu (Xz ho (by omega)),Ok.bind]
  have hg:Ok (Comp.gd (ntB (B8 out i)) (idx sp (i:Int)) false) fun b=>sel (ntB (B8 out i)) (ntB b) false=(!B8 out i && !B8 sp i):=by
   cases hb:B8 out i with
   |true=>exact Ok.Jr (fun h=>nomatch h) fun _=>rfl
   |false=>exact Ok.Jr (fun _=>(Ok.Yu (Xz hsp (by omega))).2 (by cases B8 sp i<;>rfl)) fun h=>nomatch h
  refine hg.mono fun b hb=>?_
  rw[Ok.ze (jT ⟨by omega,by omega⟩),Ok.pure]
  refine⟨zM (by omega),?_⟩
  dsimp only;rw[hb,ZM];exact Ef (g:=fun k=>!B8 out k && !B8 sp k) (by omega)
 ·rintro⟨n,s⟩ ⟨h1,h2⟩
  dsimp only at h1 h2;subst h1 h2;rw[if_neg (by rw[zH,zC];omega),Ok.pure];rfl
 ·subst hr
  rw[Ok.bind];have hl:(rs j.2.2.1.length sp out).length=8:=Zs _
  have hin:∀k,B8 (rs j.2.2.1.length sp out) k=true→k<j.2.2.1.length:=fun k hk=>(SM hk).1
  generalize hrs:rs j.2.2.1.length sp out=s0 at hl hin;refine(Ok.loop (fun x:List Bool×List Bool=>x.2.length=8∧YO x.2 s0∧(∀t,YO t s0→KJ j.2.2.1 t→YO t x.2)∧(x.1=x.2→KJ j.2.2.1 x.2)) (fun x=>2 * (sl x.2).length+if x.1=x.2 then 0 else 1) (P:=fun r=>RestOk j.2.2.1 sp out r) ⟨hl,YO.refl _,fun t h _=>h,fun h=>?_⟩ ?_).mono fun r hr=>by rw[Ok.pure];exact hr
  ·intro k hk
   have hz:B8 z8 k=true:=by rw[show z8=s0 from h];exact hk
   exfalso;by_cases h8:k<8
   ·rw[Rz (g:=fun _=>true),uG h8]at hz;simp at hz
   ·rw[uO rfl (by omega)]at hz;cases hz
  rintro⟨l,s⟩ ⟨h1,h2,h3,h4⟩;dsimp only at h1 h2 h3 h4;by_cases he:l=s
  ·subst he
   rw[if_neg (by rw[yM,mY.2 rfl];simp),Ok.pure]
   exact⟨h1,by rw[hrs];exact h2,h4 rfl,fun t ht hc=>h3 t (by rw[←hrs];exact ht) hc⟩
  ·rw[if_pos (by rw[yM];cases h:eqA (fun a b=>eqB a b) l s with|true=>exact absurd (mY.1 h) he|false=>rfl),Ok.ze (JL h1)]
   dsimp only;rw[Ok.bind]
   have hpass:Ok (Comp.loop (fun (x_2:Int×List Bool)=>if ltI x_2.1 (zF (slI s))=true then (idx (slI s) x_2.1).bind fun x=>(idx j.2.2.1 x).bind fun x_3=>(zn x_3.2.2.2.1 fun (z:Int×Unit)=>yx z.1 x_2.2).bind fun x_4=>(inb 8 x).bind fun x_5=>.pure (.next (zJ .i64 x_2.1 1,jZ x_2.2 x (ntB x_4.1))) else .pure (.done x_2.2)) (0,s)) fun r=>r.length=8∧YO r s∧(∀t,YO t s→KJ j.2.2.1 t→YO t r)∧∀k,B8 s k=true→B8 r k=true→∀q∈(opn j.2.2.1 (k:Int)).2.2.2.1,B8 s q.toNat=true:=by
    have hln:=Jj s;refine Ok.count (slI s).length (fun i (x:Int×List Bool)=>x.1=(i:Int)∧x.2.length=8∧YO x.2 s∧(∀t,YO t s→KJ j.2.2.1 t→YO t x.2)∧∀k,k∈(sl s).take i→B8 x.2 k=true→∀q∈(opn j.2.2.1 (k:Int)).2.2.2.1,B8 s q.toNat=true) ⟨rfl,h1,YO.refl _,fun t h _=>h,fun k hk=>by simp at hk⟩ ?_ ?_
    ·rintro i ⟨n,t⟩ hi ⟨q1,q2,q3,q4,q5⟩
     dsimp only at q1 q2 q3 q4 q5;subst q1;obtain⟨k,hk⟩:=zK (xs:=sl s) (k:=i) (by simpa[slI] using hi)
     have hk2:(slI s)[i]?=some (k:Int):=by simp[slI,hk]
     have hkm:=YM.1 (zLI hk);have hkl:=hin k (h2 k hkm.2)
     rw[if_pos (by rw[zH,zC];omega),Ok.bind,Ok.Yu hk2,Ok.bind,Ok.yv (Jm ⟨by omega,by omega⟩)]
     have hc:(zn (opn j.2.2.1 (k:Int)).2.2.2.1 fun (z:Int×Unit)=>yx z.1 t).val=some ((opn j.2.2.1 (k:Int)).2.2.2.1.any fun q=>!B8 t q.toNat,()):=by
      refine ZP (xs:=(opn j.2.2.1 (k:Int)).2.2.2.1) (f:=fun z=>yx z.1 t) (p:=fun q=>!B8 t q.toNat) (hsm k) fun q hq=>?_
      have:=hnd k q hq;show (yx q t).val=_
      unfold yx;rw[zA,Kc this.1 (Xz q2 (by omega)),zLB,Comp.zB,yM]
     rw[Ok.ze hc,Ok.ze (jT ⟨by omega,by omega⟩),Ok.pure]
     have hany:∀ {v:Bool},(!((opn j.2.2.1 (k:Int)).2.2.2.1.any fun q=>!B8 t q.toNat))=true↔∀q∈(opn j.2.2.1 (k:Int)).2.2.2.1,B8 t q.toNat=true:=by
      simp
     refine⟨zM (by omega),by dsimp only;rw[ZM,List.length_set];exact q2,?_,?_,?_⟩
     ·intro p hp
      dsimp only at hp;rw[ZM,KK q2 hkm.1]at hp;split at hp
      ·rename_i e;rw[e];exact hkm.2
      ·exact q3 p hp
     ·intro u hu hcl p hp
      dsimp only;rw[ZM,KK q2 hkm.1];split
      ·rename_i e
       subst e;rw[yM];exact(hany (v:=true)).2 fun q hq=>q4 u hu hcl _ (hcl p hp q hq)
      ·exact q4 u hu hcl p hp
     ·intro p hp hb q hq
      dsimp only at hb;rw[ZM,KK q2 hkm.1]at hb;split at hb
      ·rename_i e
       subst e;rw[yM]at hb;exact q3 _ ((hany (v:=true)).1 hb q hq)
      ·rename_i e
       rw[List.take_add_one,hk]at hp;rcases zLM.1 hp with hp|hp
       ·exact q5 p hp hb q hq
       ·exact absurd (by simpa using hp) e
    ·rintro⟨n,t⟩ ⟨q1,q2,q3,q4,q5⟩
     dsimp only at q1 q2 q3 q4 q5;subst q1;rw[if_neg (by rw[zH,zC];omega),Ok.pure]
     refine⟨q2,q3,q4,fun k hk hb=>q5 k ?_ hb⟩
     rw[List.take_of_length_le (by simp[slI])]
     refine YM.2 ⟨?_,hk⟩;by_cases h8:k<8
     ·exact h8
     ·rw[uO h1 (by omega)]at hk;cases hk
   refine hpass.mono ?_;rintro r ⟨r1,r2,r3,r4⟩;rw[Ok.pure];refine⟨⟨r1,r2.trans h2,fun t ht hc=>r3 t (h3 t ht hc) hc,fun e k hk=>?_⟩,?_⟩
   ·dsimp only at e hk ⊢
    subst e;exact r4 k hk hk
   ·dsimp only
    rw[if_neg he];by_cases e:s=r
    ·subst e;rw[if_pos rfl];omega
    ·rw[if_neg e]
     have:=Ud r1 h1 r2 (fun h=>e h.symm)
     omega
def alw(L:List Eff)(sp s:List Bool):Bool:=(List.range 8).all fun k=>!B8 s k || ((decide (k<L.length) && !B8 sp k) && (opn L (k:Int)).2.2.2.1.all fun q=>B8 s q.toNat)
theorem HL{L:List Eff}{sp s:List Bool}(hs:s.length=8):alw L sp s=true↔(∀k,B8 s k=true→k<L.length∧B8 sp k=false)∧KJ L s:=by
 unfold alw;rw[List.all_eq_true];refine⟨fun h=>?_,fun h k _=>?_⟩
 ·have key:∀k,B8 s k=true→(k<L.length∧B8 sp k=false)∧∀q∈(opn L (k:Int)).2.2.2.1,B8 s q.toNat=true:=fun k hk=>by
   by_cases h8:k<8
   ·have:=h k (List.mem_range.2 h8)
    rw[hk]at this;simpa using this
   ·rw[uO hs (by omega)]at hk;cases hk
  exact⟨fun k hk=>(key k hk).1,fun k hk=>(key k hk).2⟩
 ·cases hb:B8 s k with
  |false=>rfl
  |true =>
   obtain⟨h1,h2⟩:=h.1 k hb;have h3:=h.2 k hb
   simp only[Bool.not_true,Bool.false_or,zLD,decide_eq_true_eq,List.all_eq_true];exact⟨⟨h1,by rw[h2];rfl⟩,h3⟩
theorem w7{j:Job}{sp s:List Bool}(hsp:sp.length=8)(hs:s.length=8)(hn:j.2.2.1.length≤8)(hnd:Wo j.2.2.1)(hsm:∀k:Nat,(opn j.2.2.1 (k:Int)).2.2.2.1.length<9223372036854775807):(vf (j,sp,()) s).val=some (alw j.2.2.1 sp s,()):=by
 unfold vf;dsimp only;refine Ok.val ?_;rw[Ok.bind];refine(Ok.count j.2.2.1.length (fun i (x:Int×List Bool)=>x.1=(i:Int)∧x.2=m8 fun k=>decide (k<i) && !B8 s k) (P:=fun r=>r=m8 fun k=>decide (k<j.2.2.1.length) && !B8 s k) ⟨rfl,rfl⟩ ?_ ?_).mono fun r hr=>?_
 ·rintro i ⟨n,t⟩ hi ⟨h1,h2⟩
  dsimp only at h1 h2;subst h1 h2;rw[if_pos (by rw[zH,zC];omega),Ok.bind,Ok.Yu (Xz hs (by omega)),Ok.ze (jT ⟨by omega,by omega⟩),Ok.pure]
  refine⟨zM (by omega),?_⟩
  dsimp only;rw[ZM];exact Ef (g:=fun k=>!B8 s k) (by omega)
 ·rintro⟨n,t⟩ ⟨h1,h2⟩
  dsimp only at h1 h2;subst h1 h2;rw[if_neg (by rw[zH,zC];omega),Ok.pure]
 ·subst hr
  rw[Ok.bind];refine(GK hsp (Zs _) hn hnd hsm).mono ?_;rintro⟨r,u⟩ hr;rw[Ok.pure];refine Prod.ext ?_ rfl;dsimp only at hr ⊢;have hin:∀k,B8 (rs j.2.2.1.length sp (m8 fun k=>decide (k<j.2.2.1.length) && !B8 s k)) k=true↔k<j.2.2.1.length∧B8 s k=true∧B8 sp k=false:=fun k=>by
   constructor
   ·intro h
    obtain⟨g1,g2,g3⟩:=SM h;rw[uG (by omega)]at g2
    simp[g1]at g2;exact⟨g1,g2,g3⟩
   ·rintro⟨g1,g2,g3⟩
    refine zEp hn ⟨g1,?_,g3⟩;rw[uG (by omega)];simp[g2]
  rw[Bool.eq_iff_iff,mY,HL hs];constructor
  ·intro h
   subst h;exact⟨fun k hk=>by obtain⟨g1,_,g3⟩:=(hin k).1 (hr.sub k hk);exact⟨g1,g3⟩,hr.cl⟩
  ·rintro⟨h1,h2⟩
   refine YO.eq hr.len hs (fun k hk=>((hin k).1 (hr.sub k hk)).2.1) (hr.most s (fun k hk=>(hin k).2 ⟨(h1 k hk).1,hk,(h1 k hk).2⟩) h2)
def enR(p:Part)(x:zZ)(cuts:List Cell):Nat→Nat→Bool×Int
 |_,0=>(true,0)
 |i,m+1=>if wt p i≠2∨x.1.getD i false=true then enR p x cuts (i+1) m else if (cov (nr cuts (cl p i)) (cl p i)).1=true then enR p x cuts (i+1) m else (false,(cov (nr cuts (cl p i)) (cl p i)).2)
def ctS(j:Job)(s:List Bool):List Cell:=j.2.1.2.2.1++(sl s).flatMap fun k:Nat=>(opn j.2.2.1 (k:Int)).1
def enq(j:Job)(s:List Bool):Bool×Int:=enR j.1 j.2.1 (ctS j s) 0 j.1.2.1.length
def enO:Bool×Int→Unit⊕Bool×Int
 |(true,_)=>.inl ()
 |(false,e)=>.inr (false,e)
theorem Ek{p:Part}{x:zZ}{cuts:List Cell}:∀ {m i:Nat},(enR p x cuts i m).1=true→(enR p x cuts i m).2=0
 |0,_,_=>rfl
 |m+1,i,h=>by
  unfold enR at h ⊢;split
  ·rename_i h1;rw[if_pos h1]at h;exact Ek h
  ·rename_i h1
   rw[if_neg h1]at h;split
   ·rename_i h2;rw[if_pos h2]at h;exact Ek h
   ·rename_i h2;rw[if_neg h2]at h;cases h
def scan(g:Nat→Option ε)(d:ε):Nat→Nat→ε
 |_,0=>d
 |a,m+1=>match g a with
  |some e=>e
  |none=>scan g d (a+1) m
def scS(o:Option ε)(i:Nat):Comp.Step Int ε:=match o with
 |some e=>.done e
 |none=>.next ((i+1:Nat):Int)
theorem As{body:Int→Comp (Comp.Step Int ε)}(g:Nat→Option ε){d:ε}:∀(m a:Nat),(∀(i:Nat),a≤i→i<a+m→(body (i:Int)).val=some (scS (g i) i))→(body ((a+m:Nat):Int)).val=some (.done d)→(Comp.loop body (a:Int)).val=some (scan g d a m)
 |0,a,hb,he=>by rw[zN];rw[Nat.add_zero]at he;rw[he];rfl
 |m+1,a,hb,he=>by
  have ih:=As g m (a+1) (fun i h1 h2=>hb i (by omega) (by omega)) (by rw[show a+1+m=a+(m+1) by omega];exact he)
  rw[zN,hb a (zLF _) (by omega)]
  unfold scan
  cases hg:g a with
  |some e=>rfl
  |none=>exact ih
def enG(p:Part)(x:zZ)(cuts:List Cell)(i:Nat):Option (Unit⊕Bool×Int):=if wt p i≠2∨x.1.getD i false=true then none else if (cov (nr cuts (cl p i)) (cl p i)).1=true then none else some (.inr (false,(cov (nr cuts (cl p i)) (cl p i)).2))
theorem Br{p:Part}{x:zZ}{cuts:List Cell}:∀ {m i:Nat},enO (enR p x cuts i m)=scan (enG p x cuts) (.inl ()) i m
 |0,_=>rfl
 |m+1,i=>by
  have ih:=Br (p:=p) (x:=x) (cuts:=cuts) (m:=m) (i:=i+1);unfold scan enR enG;split
  ·exact ih
  ·split
   ·exact ih
   ·rfl
theorem Dd{j:Job}{sp s:List Bool}(hs:s.length=8)(hin:∀k,B8 s k=true→k<j.2.2.1.length)(hw:j.1.2.2.1.length=j.1.2.1.length)(hx:j.2.1.1.length=j.1.2.1.length)(hpc:j.2.1.2.2.1.length≤1000)(hsm:∀x∈j.2.2.1,x.1.length≤100000)(hcl:j.1.2.1.length≤1000) :
  (vG (j,sp,()) s).val=some ((enq j s).1,(enq j s).2,()):=by
 unfold vG;dsimp only;refine Ok.val ?_;have hLIM:=uE
 have hcl0:∀ {c:List Cell},c.length≤1000000→(zl c).val=some (c,()):=fun {c} h=>YV (zLK h hLIM)
 rw[Ok.ze (hcl0 (by omega)),Ok.ze (JL hs)]
 dsimp only;rw[Ok.bind];have hln:=Jj s
 have hol:∀k:Nat,((opn j.2.2.1 (k:Int)).1).length≤100000:=fun k=>by
  unfold opn;rw[List.getD_eq_getElem?_getD]
  cases h:j.2.2.1[((k:Int)).toNat]? with
  |none=>simp
  |some x=>exact hsm x (zLI h)
 have hbd:∀l:List Nat,(l.flatMap fun k:Nat=>(opn j.2.2.1 (k:Int)).1).length≤l.length * 100000:=by
  intro l
  induction l with
  |nil=>simp
  |cons k l ih=>have:=hol k;simp only[List.flatMap_cons,zLE,zLL];omega
 refine(Ok.count (slI s).length (fun i (x:List Cell×Int)=>x.2=(i:Int)∧x.1=j.2.1.2.2.1++((sl s).take i).flatMap fun k:Nat=>(opn j.2.2.1 (k:Int)).1) (P:=fun r=>r=ctS j s) ⟨rfl,by simp⟩ ?_ ?_).mono fun r hr=>?_
 ·rintro i ⟨c,n⟩ hi ⟨h1,h2⟩
  dsimp only at h1 h2;subst h1 h2;obtain⟨k,hk⟩:=zK (xs:=sl s) (k:=i) (by simpa[slI] using hi)
  have hk2:(slI s)[i]?=some (k:Int):=by simp[slI,hk]
  have hkm:=YM.1 (zLI hk);have hkl:=hin k hkm.2
  rw[if_pos (by rw[zH,zC];omega),Ok.bind,Ok.Yu hk2,Ok.bind,Ok.yv (Jm ⟨by omega,by omega⟩)]
  have hb:=hbd ((sl s).take i);have hlt:((sl s).take i).length≤8:=by have:=lC s;rw[List.length_take];omega
  have ho:=hol k;refine vt (by rw[zLE];omega) ?_
  rw[Ok.pure];refine⟨zM (by omega),?_⟩
  have ht:(sl s).take (i+1)=(sl s).take i++[k]:=by rw[List.take_add_one,hk];rfl
  rw[ht,List.flatMap_append,←List.append_assoc];simp
 ·rintro⟨c,n⟩ ⟨h1,h2⟩
  dsimp only at h1 h2;subst h1 h2;rw[if_neg (by rw[zH,zC];omega),Ok.pure]
  have:(sl s).take (slI s).length=sl s:=List.take_of_length_le (by simp[slI])
  rw[this];rfl
 ·subst hr
  have hcs:(ctS j s).length≤900000:=by
   have:=hbd (sl s);have:=lC s
   unfold ctS;rw[zLE];omega
  generalize hC:ctS j s=C at hcs;rw[Ok.bind]
  have h2:∀i:Nat,i<j.1.2.1.length→(if ltI (i:Int) (zF j.1.2.1)=true then jn (fun (x:Unit)=>Comp.pure (Comp.Step.next (zJ .i64 (i:Int) 1))) fun (j':Unit→Comp (Comp.Step Int (Unit⊕Bool×Int)))=>(idx j.1.2.1 (i:Int)).bind fun x_2=>(idx j.1.2.2.1 (i:Int)).bind fun x_3=>(Comp.gd (ntB (neI x_3 2)) (idx j.2.1.1 (i:Int)) false).bind fun x_4=>if sel (neI x_3 2) true x_4=true then j' () else (zl C).bind fun y=>(zq y.1 fun (z:Cell×Unit)=>ya z.1 x_2).bind fun ys=>(gY ys x_2).bind fun x=>if ntB x.1=true then Comp.pure (Comp.Step.done (Sum.inr (false,x.2.1))) else j' () else Comp.pure (Comp.Step.done (Sum.inl ()))).val=some (scS (enG j.1 j.2.1 C i) i):=by
   intro i hi;obtain⟨c,hc⟩:=zK (xs:=j.1.2.1) (k:=i) (by omega)
   obtain⟨wv,hwv⟩:=zK (xs:=j.1.2.2.1) (k:=i) (by omega)
   obtain⟨sv,hsv⟩:=zK (xs:=j.2.1.1) (k:=i) (by omega)
   have ew:wt j.1 i=wv:=by unfold wt;exact z7 hwv
   have ec:cl j.1 i=c:=by unfold cl;exact z7 hc
   have es:j.2.1.1.getD i false=sv:=z7 hsv;have hnx:zJ .i64 (i:Int) 1=((i+1:Nat):Int):=zM (by omega)
   rw[if_pos (by rw[zH,zC];omega),vZ,zA,zL hc,zLB,zA,zL hwv,zLB,zA,hnx]
   unfold enG;rw[ew,ec,es];by_cases hw2:wv=2
   ·have e1:neI wv 2=false:=by rw[hw2];rfl
    rw[e1];show Option.bind (idx j.2.1.1 (i:Int)).val _=_
    rw[zL hsv,zLB]
    cases sv with
    |true=>rw[if_pos (by rfl),Comp.zB,if_pos (.inr rfl)];rfl
    |false =>
     rw[if_neg (by simp[sel]),if_neg (by simp[hw2]),zA,hcl0 (by omega),zLB,zA]
     have hd:(zq C fun (z:Cell×Unit)=>ya z.1 c).val=some (nr C c) :=
      G4 (z:=([]:Cell)) (f:=fun z=>ya z.1 c) (p:=fun q=>apa q c) (by omega) fun q _=>by
       show (ya q c).val=_
       unfold ya;rw[zA,jG,zLB,Comp.zB]
     rw[hd,zLB,zA,tq,zLB];dsimp only
     cases hcv:(cov (nr C c) c).1 with
     |true=>rw[if_neg (by simp[ntB]),Comp.zB,if_pos rfl];rfl
     |false=>rw[if_pos (by rfl),Comp.zB,if_neg (by simp)];rfl
   ·have e1:neI wv 2=true:=by rw[zf];exact hw2
    rw[e1];show Option.bind (Comp.pure false).val _=_
    rw[Comp.zB,zLB,if_pos (by rfl),Comp.zB,if_pos (.inl hw2)];rfl
  refine⟨enO (enq j s),?_,?_⟩
  ·have e:enO (enq j s)=scan (enG j.1 j.2.1 C) (.inl ()) 0 j.1.2.1.length:=by unfold enq;rw[hC];exact Br
   rw[e];show (Comp.loop _ ((0:Nat):Int)).val=_
   refine As _ _ _ (fun i _ hi=>h2 i (by omega)) ?_
   rw[if_neg (by rw[zH,zC];omega),Comp.zB]
  ·cases hq:enq j s with
   |mk b e =>
    have:=@Ek j.1 j.2.1 (ctS j s) j.1.2.1.length 0
    change (enq j s).1=true→(enq j s).2=0 at this
    rw[hq]at this
    cases b with
    |true=>have he:e=0:=this rfl;subst he;exact(Ok.pure (P:=fun x=>x=(true,(0:Int),()))).2 rfl
    |false=>exact(Ok.pure (P:=fun x=>x=(false,e,()))).2 rfl
def kp(p:Part):List Cell:=((List.range p.2.1.length).filter fun i=>decide (wt p i=1)).map (cl p)
def spk(K:List Cell)(e:Eff):Bool:=(e.1.any fun c=>!sap c K) || e.2.1.any fun c=>!sap c K
def bgn(j:Job):List Bool:=m8 fun k=>decide (k<j.2.2.1.length) && spk (kp j.1) (opn j.2.2.1 (k:Int))
theorem pZ{j:Job}(hw:j.1.2.2.1.length=j.1.2.1.length)(hcl:j.1.2.1.length≤1000)(hn:j.2.2.1.length≤8)(hsm:∀x∈j.2.2.1,x.1.length≤100000∧x.2.1.length≤100000):(ZZ j).val=some ((j,bgn j,()),()):=by
 unfold ZZ;refine Ok.val ?_;rw[Ok.bind];refine(Ok.count j.1.2.1.length (fun i (x:Int×List Cell)=>x.1=(i:Int)∧x.2=((List.range i).filter fun i=>decide (wt j.1 i=1)).map (cl j.1)) (P:=fun r=>r=kp j.1) ⟨rfl,rfl⟩ ?_ ?_).mono fun K hK=>?_
 ·rintro i ⟨n,s⟩ hi ⟨h1,h2⟩
  dsimp only at h1 h2;subst h1 h2;obtain⟨c,hc⟩:=zK (xs:=j.1.2.1) (k:=i) hi;obtain⟨wv,hwv⟩:=zK (xs:=j.1.2.2.1) (k:=i) (by omega)
  have ew:wt j.1 i=wv:=by unfold wt;exact z7 hwv
  have ec:cl j.1 i=c:=by unfold cl;exact z7 hc
  have hle:=List.length_filter_le (fun i=>decide (wt j.1 i=1)) (List.range i)
  rw[List.length_range]at hle;have hr:((List.range (i+1)).filter fun i=>decide (wt j.1 i=1)).map (cl j.1)=((List.range i).filter fun i=>decide (wt j.1 i=1)).map (cl j.1)++if wv=1 then [c] else []:=by
   rw[List.range_succ,List.filter_append,List.map_append];by_cases h:wv=1
   ·simp[ew,h,ec]
   ·simp[ew,h]
  rw[if_pos (by rw[zH,zC];omega),Ok.bind,Ok.Yu hc,Ok.bind,Ok.Yu hwv]
  refine jR (fun y=>y=((List.range (i+1)).filter fun i=>decide (wt j.1 i=1)).map (cl j.1)) (fun j' hj=>?_) fun y hy=>?_
  ·split
   ·rename_i hb
    rw[yw]at hb;refine vt (by simp;omega) (hj _ ?_)
    rw[hr,if_pos hb]
   ·rename_i hb
    rw[yw]at hb;refine hj _ ?_;rw[hr,if_neg hb,List.append_nil]
  ·rw[Ok.pure]
   exact⟨zM (by omega),hy⟩
 ·rintro⟨n,s⟩ ⟨h1,h2⟩
  dsimp only at h1 h2;subst h1 h2;rw[if_neg (by rw[zH,zC];omega),Ok.pure];rfl
 ·subst hK
  have hkl:(kp j.1).length≤1000:=by
   have:=List.length_filter_le (fun i=>decide (wt j.1 i=1)) (List.range j.1.2.1.length)
   rw[List.length_range]at this;unfold kp;rw[List.length_map];omega
  have hm:∀c:Cell,(gA c (kp j.1)).val=some (!sap c (kp j.1),()):=fun c=>by
   unfold gA;rw[zA,gN c (by omega),zLB,Comp.zB];rfl
  have hcf:∀l:List Cell,l.length≤100000→(zG l fun (z:Cell×Unit)=>gA z.1 (kp j.1)).val=some (l.any fun c=>!sap c (kp j.1),()):=fun l hl=>ZP (xs:=l) (f:=fun z=>gA z.1 (kp j.1)) (p:=fun c=>!sap c (kp j.1)) (by omega) fun c _=>hm c
  rw[Ok.bind];refine(Ok.count j.2.2.1.length (fun i (x:Int×Job×List Bool×Unit)=>x=((i:Int),j,(m8 fun k=>decide (k<i) && spk (kp j.1) (opn j.2.2.1 (k:Int))),())) (P:=fun r=>r=(j,bgn j,())) rfl ?_ ?_).mono fun r hr=>by rw[Ok.pure,hr]
  ·rintro i x hi rfl
   dsimp only;obtain⟨e,he⟩:=zK (xs:=j.2.2.1) (k:=i) hi;have heo:opn j.2.2.1 (i:Int)=e:=by unfold opn;exact z7 he
   obtain⟨s1,s2⟩:=hsm e (zLI he);rw[if_pos (by rw[zH,zC];omega),Ok.bind,Ok.Yu he,Ok.ze (hcf e.1 s1),Ok.bind]
   dsimp only;have hg:Ok (Comp.gd (ntB (e.1.any fun c=>!sap c (kp j.1))) (zG e.2.1 fun (z:Cell×Unit)=>gA z.1 (kp j.1)) (false,())) fun b=>sel (e.1.any fun c=>!sap c (kp j.1)) true b.1=spk (kp j.1) e:=by
    unfold spk
    cases hb:(e.1.any fun c=>!sap c (kp j.1)) with
    |true=>exact Ok.Jr (fun h=>nomatch h) fun _=>rfl
    |false=>exact Ok.Jr (fun _=>(Ok.yv (hcf e.2.1 s2)).2 rfl) fun h=>nomatch h
   refine hg.mono fun b hb=>?_
   rw[Ok.ze (jT ⟨by omega,by omega⟩),Ok.pure]
   show _=_
   rw[hb,ZM,←heo,Ef (g:=fun k=>spk (kp j.1) (opn j.2.2.1 (k:Int))) (by omega),zM (by omega)]
  ·rintro x rfl
   dsimp only;rw[if_neg (by rw[zH,zC];omega),Ok.pure];rfl
structure PlOk(j:Job):Prop where
 w:j.1.2.2.1.length=j.1.2.1.length
 x:j.2.1.1.length=j.1.2.1.length
 pc:j.2.1.2.2.1.length≤1000
 sm:∀x∈j.2.2.1,x.1.length≤100000∧x.2.1.length≤100000
 cl:j.1.2.1.length≤1000
 n:j.2.2.1.length≤8
 nd:Wo j.2.2.1
 ns:∀k:Nat,(opn j.2.2.1 (k:Int)).2.2.2.1.length<9223372036854775807
 cs:zHk j.2.2.1
def Bel(s:List Bool)(k:Nat):Prop:=s.length=8∧∀i,B8 s i=true→i<k
theorem Bel.set{s:List Bool}{k:Nat}(h:Bel s k)(hk:k<8):Bel (s.set k true) (k+1):=⟨by simp[h.1],fun i hi=>by
 rw[KK h.1 hk]at hi;split at hi
 ·omega
 ·have:=h.2 i hi;omega⟩
theorem Bel.le{s:List Bool}{k m:Nat}(h:Bel s k)(hm:k≤m):Bel s m:=⟨h.1,fun i hi=>zLQ (h.2 i hi) hm⟩
theorem RestOk.bel{L:List Eff}{sp out s:List Bool}(h:RestOk L sp out s):Bel s L.length:=⟨h.len,fun i hi=>(SM (h.sub i hi)).1⟩
def tz:Nat→Nat
 |0=>1
 |d+1=>2 * tz d+1
theorem zAa:∀d,1≤tz d
 |0=>zLF _
 |d+1=>by unfold tz;omega
theorem D0:Bel z8 0:=⟨rfl,fun i hi=>by
 by_cases h8:i<8
 ·rw[Rz (g:=fun _=>true),uG h8]at hi;simp at hi
 ·rw[uO rfl (by omega)]at hi;cases hi⟩
section
variable {j:Job} (hj:PlOk j)
include hj
theorem PlOk.Ej{sp s:List Bool}(hs:Bel s j.2.2.1.length):(vG (j,sp,()) s).val=some ((enq j s).1,(enq j s).2,()) :=
 Dd hs.1 hs.2 hj.w hj.x hj.pc (fun x hx=>(hj.sm x hx).1) hj.cl
theorem PlOk.short{sp inn out:List Bool}(hsp:sp.length=8)(hi:inn.length=8)(ho:out.length=8):Ok (jO (j,sp,()) inn out) fun _=>True:=by
 unfold jO;rw[Ok.bind];refine(GK hsp ho hj.n hj.nd hj.ns).mono ?_;rintro⟨r,u⟩ hr;rw[Ok.ze (JL hi)];dsimp only at hr ⊢;rw[Ok.bind];have hln:=Jj inn
 refine(Ok.count (slI inn).length (fun i (x:Int)=>x=(i:Int)) (P:=fun _=>True) rfl ?_ ?_).mono fun r _=>?_
 ·rintro i x hi' rfl
  obtain⟨y,hy⟩:=zK hi';obtain⟨k,rfl,hk8,hkb⟩:=Ue hy;rw[if_pos (by rw[zH,zC];omega),Ok.bind,Ok.Yu hy,Ok.bind,Ok.Yu (Xz hr.len hk8)]
  split
  ·rw[Ok.pure];trivial
  ·rw[Ok.pure];exact zM (by omega)
 ·rintro x rfl
  rw[if_neg (by rw[zH,zC];omega),Ok.pure];trivial
 ·cases r with
  |inl u=>dsimp only;rw[Ok.ze (hj.Ej hr.bel),Ok.pure];trivial
  |inr b=>dsimp only;rw[Ok.pure];trivial
theorem PlOk.tree{sp:List Bool}(hsp:sp.length=8){lim:Int}:∀(m:Nat) (k:Nat) (inn out:List Bool) (y:List (Int×Int×Unit)),j.2.2.1.length-k<m→k≤j.2.2.1.length→Bel inn k→Bel out k→y.length+tz (j.2.2.1.length-k)≤1000→Ok (ji m (k:Int) inn out lim (j,sp,()) y) fun r=>∃y',r=.inr (y',())∧y'.length≤y.length+tz (j.2.2.1.length-k):=by
 intro m
 induction m with
 |zero=>intro k inn out y h;omega
 |succ m ih =>
  intro k inn out y hm hk hi ho hy;show Ok (kH (ji m) (k:Int) inn out lim (j,sp,()) y) _
  have hn:=hj.n;have htp:=zAa (j.2.2.1.length-k)
  unfold kH;rw[Ok.bind];have hcost:Ok (Comp.gd (gtI lim 0) (jE (j,sp,()) inn) (0,())) fun _=>True:=Ok.Jr (fun _=>(Ok.yv (Bw hi.1 (fun i h=>zLQ (hi.2 i h) hk) hj.cs)).2 trivial) fun _=>trivial
  refine hcost.mono fun c _=>?_
  refine jR (fun y'=>y'.length≤y.length+tz (j.2.2.1.length-k)) (fun j' hj'=>?_) fun y' hy'=>by rw[Ok.pure];exact⟨y',rfl,hy'⟩
  split
  ·exact vt (by simp;omega) (hj' _ (by simp;omega))
  ·rw[Ok.bind]
   have hsh:Ok (Comp.gd (ntB (geI (k:Int) (zF (j,sp,()).1.2.2.1))) (jO (j,sp,()) inn out) (false,())) fun _=>True:=Ok.Jr (fun _=>hj.short hsp hi.1 ho.1) fun _=>trivial
   refine hsh.mono fun b _=>?_
   refine jR (fun y'=>y'.length≤y.length+tz (j.2.2.1.length-k)) (fun j2 hj2=>?_) fun y' hy'=>hj' _ hy'
   split
   ·exact vt (by simp;omega) (hj2 _ (by simp;omega))
   ·rename_i hns
    have hlt:k<j.2.2.1.length:=by
     by_cases h:k<j.2.2.1.length
     ·exact h
     ·exfalso
      refine hns ?_;have:geI (k:Int) (zF (j,sp,()).1.2.2.1)=true:=by rw[XK];show (j.2.2.1.length:Int)≤(k:Int);omega
      rw[this];rfl
    have hd:j.2.2.1.length-k=(j.2.2.1.length-(k+1))+1:=by omega
    have htz:tz (j.2.2.1.length-k)=2 * tz (j.2.2.1.length-(k+1))+1:=by rw[hd];rfl
    refine vt (by simp;omega) ?_
    rw[Ok.ze (jT ⟨by omega,by omega⟩),Ok.ze (jT ⟨by omega,by omega⟩),zM (by omega),ZM,ZM,Ok.bind]
    have e1:(y++[(1,(k:Int),())]).length=y.length+1:=by simp
    refine(ih (k+1) (inn.set k true) out _ (by omega) (by omega) (hi.set (by omega)) (ho.le (by omega)) (by rw[e1];omega)).mono ?_
    rintro r ⟨y1,rfl,hy1⟩;dsimp only;rw[Ok.bind];refine(ih (k+1) inn (out.set k true) y1 (by omega) (by omega) (hi.le (by omega)) (ho.set (by omega)) (by rw[e1]at hy1;omega)).mono ?_
    rintro r ⟨y2,rfl,hy2⟩;refine hj2 _ ?_;dsimp only;rw[e1]at hy1;omega
theorem PlOk.Ws{sp:List Bool}(hsp:sp.length=8)(lim:Int):Ok (jy (j,sp,()) lim) fun _=>True:=by
 unfold jy;rw[Ok.bind];have hn:=hj.n
 have htz:∀d,d≤8→tz d≤511:=fun d hd=>by
  match d,hd with
  |0,_|1,_|2,_|3,_|4,_|5,_|6,_|7,_|8,_=>decide
 refine(hj.tree hsp 40 0 z8 z8 [] (by omega) (by omega) D0 D0 (by have:=htz j.2.2.1.length hn;simp;omega)).mono ?_
 rintro r ⟨y,rfl,_⟩;dsimp only;rw[Ok.pure];trivial
end
theorem lp{k:α→Comp β}{b:(α→Comp β)→Comp β}{P:β→Prop}(h:Ok (b k) P):Ok (jn k b) P:=h
def Fnd(j:Job)(sp:List Bool)(b:Int)(f:List Bool):Prop:=b = -1∨(Bel f j.2.2.1.length∧alw j.2.2.1 sp f=true∧(enq j f).1=true∧b=cst j.2.2.1 (sl f))
def Bst(j:Job)(sp:List Bool)(b:Int)(T:List Bool→Prop):Prop:=∀t,Bel t j.2.2.1.length→alw j.2.2.1 sp t=true→T t→(enq j t).2=0∧((enq j t).1=true→0≤b∧b≤cst j.2.2.1 (sl t))
def Sn(j:Job)(sp:List Bool)(e:Int):Prop:=e≠0∧∃t,Bel t j.2.2.1.length∧alw j.2.2.1 sp t=true∧e=(enq j t).2
def Agr(s t:List Bool)(k:Nat):Prop:=∀i,i<k→B8 t i=B8 s i
structure Vst(j:Job)(sp:List Bool)(b:Int)(T:List Bool→Prop)(b':Int)(f':List Bool):Prop where
 fnd:Fnd j sp b' f'
 dn:0≤b→0≤b'∧b'≤b
 bst:Bst j sp b' T
section
variable {j:Job} (hj:PlOk j)
include hj
theorem PlOk.zKp{s:List Bool}(hs:Bel s j.2.2.1.length):0≤cst j.2.2.1 (sl s):=(Eo (m:=1048576) fun k hk=>hj.cs k (hs.2 k (YM.1 hk).2)).1
theorem PlOk.visit{sp:List Bool}(hsp:sp.length=8):∀(m k:Nat) (s:List Bool) (b:Int) (f:List Bool),j.2.2.1.length-k<m→k≤j.2.2.1.length→Bel s k→Fnd j sp b f→Ok (YI m (k:Int) s (j,sp,()) b f) fun r=>match r with|.inl e=>Sn j sp e|.inr y=>Vst j sp b (fun t=>Agr s t k) y.1 y.2.1:=by
 intro m
 induction m with
 |zero=>intro k s b f h;omega
 |succ m ih =>
  intro k s b f hm hk hs hf;show Ok (Yb (YI m) (k:Int) s (j,sp,()) b f) _
  have hn:=hj.n;have hsn:=hs.le hk
  unfold Yb;rw[Ok.ze (w7 hsp hs.1 hj.n hj.nd hj.ns)];dsimp only;refine jR (fun x:Int×List Bool=>Vst j sp b (fun t=>t=s) x.1 x.2) (fun j' hj'=>?_) ?_
  ·by_cases ha:alw j.2.2.1 sp s=true
   ·rw[if_pos ha,Ok.ze (hj.Ej hsn)]
    dsimp only;by_cases he:(enq j s).2=0
    ·rw[if_neg (by rw[zf];simp[he]),Ok.ze (Bw hs.1 (fun i h=>hsn.2 i h) hj.cs)]
     dsimp only;have h0:=hj.zKp hsn
     refine jR (fun x:Int×List Bool=>Vst j sp b (fun t=>t=s) x.1 x.2) (fun j2 hj2=>?_) fun x hx=>hj' _ hx
     cases hq:(enq j s).1 with
     |false =>
      rw[if_neg (by simp[sel])]
      exact hj2 _ ⟨hf,fun h=>⟨h,Int.le_refl _⟩,fun t _ _ ht=>by subst ht;exact⟨he,fun h=>by rw[hq]at h;cases h⟩⟩
     |true =>
      by_cases hlt:b<0∨cst j.2.2.1 (sl s)<b
      ·rw[if_pos (by
        show sel true (sel (ltI b 0) true (ltI (cst j.2.2.1 (sl s)) b)) false=true
        cases h:ltI b 0 with
        |true=>rfl
        |false =>
         show ltI (cst j.2.2.1 (sl s)) b=true
         rw[zH];rcases hlt with h2|h2
         ·rw[←zH,h]at h2;cases h2
         ·exact h2)]
       exact hj2 _ ⟨.inr ⟨hsn,ha,hq,rfl⟩,fun h=>⟨h0,by omega⟩,fun t _ _ ht=>by subst ht;exact⟨he,fun _=>⟨h0,Int.le_refl _⟩⟩⟩
      ·rw[if_neg (by
        show ¬sel true (sel (ltI b 0) true (ltI (cst j.2.2.1 (sl s)) b)) false=true
        cases h:ltI b 0 with
        |true=>rw[zH]at h;exact absurd (.inl h) hlt
        |false =>
         show ¬ltI (cst j.2.2.1 (sl s)) b=true
         rw[zH];exact fun h2=>hlt (.inr h2))]
       exact hj2 _ ⟨hf,fun h=>⟨h,Int.le_refl _⟩,fun t _ _ ht=>by subst ht;exact⟨he,fun _=>by omega⟩⟩
    ·rw[if_pos (by rw[zf];exact he),Ok.pure];exact⟨he,s,hsn,ha,rfl⟩
   ·rw[if_neg ha]
    exact hj' _ ⟨hf,fun h=>⟨h,Int.le_refl _⟩,fun t _ h2 ht=>by subst ht;exact absurd h2 ha⟩
  ·rintro⟨b1,f1⟩ h1
   dsimp only at h1;rw[Ok.bind];refine(Ok.count (j.2.2.1.length-k) (fun i (x:Int×Int×List Bool)=>x.1=((k+i:Nat):Int)∧Vst j sp b (fun t=>t=s∨Agr s t k∧∃q,k≤q∧q<k+i∧B8 t q=true) x.2.1 x.2.2) (P:=fun r:Int×List Bool⊕Int=>match r with|.inl y=>Vst j sp b (fun t=>Agr s t k) y.1 y.2|.inr e=>Sn j sp e) ?_ ?_ ?_).mono ?_
   ·refine⟨by simp,h1.fnd,h1.dn,fun t g1 g2 g3=>h1.bst t g1 g2 ?_⟩
    rcases g3 with g|⟨_,q,q1,q2,_⟩
    ·exact g
    ·omega
   ·rintro i ⟨n,b2,f2⟩ hi ⟨e1,h2⟩
    dsimp only at e1 h2;subst e1;rw[if_pos (by rw[zH,zC];omega),Ok.ze (jT ⟨by omega,by omega⟩),zM (by omega),ZM,Ok.bind]
    refine(ih (k+i+1) (s.set (k+i) true) b2 f2 (by omega) (by omega) ((hs.le (by omega)).set (by omega)) h2.fnd).mono ?_
    rintro(e|⟨b3,f3,u⟩) hr
    ·dsimp only at hr ⊢
     rw[Ok.pure];exact hr
    ·dsimp only at hr ⊢
     rw[Ok.pure];have hd:∀c:Int,0≤b2∧b2≤c→0≤b3∧b3≤c:=fun c h=>by have:=hr.dn h.1;omega
     refine⟨by rw[Nat.add_assoc],hr.fnd,fun h=>hd _ (h2.dn h),fun t g1 g2 g3=>?_⟩
     by_cases hold:t=s∨Agr s t k∧∃q,k≤q∧q<k+i∧B8 t q=true
     ·obtain⟨c1,c2⟩:=h2.bst t g1 g2 hold
      exact⟨c1,fun h=>hd _ (c2 h)⟩
     ·refine hr.bst t g1 g2 ?_
      rcases g3 with g|⟨g,q,q1,q2,q3⟩
      ·exact absurd (.inl g) hold
      ·have hq:q=k+i:=by
        by_cases h:q<k+i
        ·exact absurd (.inr ⟨g,q,q1,h,q3⟩) hold
        ·omega
       subst hq;intro p hp;rw[KK hs.1 (by omega)]
       split
       ·rename_i h;rw[h];exact q3
       ·by_cases hpk:p<k
        ·exact g p hpk
        ·have c1:B8 s p=false:=by
          cases h:B8 s p with
          |false=>rfl
          |true=>have:=hs.2 p h;omega
         rw[c1]
         cases h:B8 t p with
         |false=>rfl
         |true=>exact absurd (.inr ⟨g,p,by omega,by omega,h⟩) hold
   ·rintro⟨n,b2,f2⟩ ⟨e1,h2⟩
    dsimp only at e1 h2;subst e1;rw[if_neg (by rw[zH,zC];show ¬((k+(j.2.2.1.length-k):Nat):Int)<(j.2.2.1.length:Int);omega),Ok.pure]
    refine⟨h2.fnd,h2.dn,fun t g1 g2 g3=>h2.bst t g1 g2 ?_⟩
    by_cases h:∃q,k≤q∧B8 t q=true
    ·obtain⟨q,q1,q2⟩:=h
     have:=g1.2 q q2;exact .inr ⟨g3,q,q1,by omega,q2⟩
    ·refine .inl (Sy g1.1 hs.1 fun p hp=>?_)
     by_cases hpk:p<k
     ·exact g3 p hpk
     ·have c1:B8 s p=false:=by
       cases h:B8 s p with
       |false=>rfl
       |true=>have:=hs.2 p h;omega
      rw[c1]
      cases h2:B8 t p with
      |false=>rfl
      |true=>exact absurd ⟨p,by omega,h2⟩ h
   ·rintro(⟨b2,f2⟩|e) hr
    ·dsimp only at hr ⊢
     rw[Ok.pure];exact hr
    ·dsimp only at hr ⊢
     rw[Ok.pure];exact hr
end
structure SmB(j:Job):Prop where
 s:SmJ j
 c:j.1.2.1.length≤1000
theorem Rl{n:Nat}:∀ {L:List Eff} {k:Nat},efs n L k=0→∀x∈L,∀q∈x.2.2.2.1,0≤q∧q<n
 | [],_,_,x,hx=>by cases hx
 |y::L,k,h,x,hx=>by
  unfold efs at h;split at h
  ·rename_i h1
   rcases zLH.1 hx with e|e
   ·subst e
    unfold eE at h1;split at h1
    ·split at h1
     ·cases h1
     ·cases hb:x.2.2.2.1.any (uH n k) with
      |true=>rw[hb]at h1;cases h1
      |false =>
       intro q hq;have:=List.any_eq_false.1 hb q hq
       unfold uH at this;simp at this;omega
    ·rename_i h2;exact absurd h1 h2
   ·exact Rl h x e
  ·rename_i h1;exact absurd h h1
theorem mH{L:List Eff}{k:Nat}:opn L (k:Int)∈L∨opn L (k:Int)=([],[],0,[],()):=by
 unfold opn;rw[List.getD_eq_getElem?_getD]
 cases h:L[((k:Int)).toNat]? with
 |none=>exact .inr rfl
 |some x=>exact .inl (zLI h)
theorem QL{j:Job}(h:ckJ j=0):fit j.1 j.2.1=0∧j.2.2.1.length≤8∧Wo j.2.2.1:=by
 unfold ckJ at h;split at h
 ·rename_i hf
  split at h
  ·cases h
  ·rename_i h8
   split at h
   ·rename_i h1
    refine⟨hf,by omega,fun k q hq=>?_⟩
    rcases mH (L:=j.2.2.1) (k:=k) with h2|h2
    ·exact Rl h1 _ h2 q hq
    ·rw[h2]at hq;cases hq
   ·rename_i h1;exact absurd h h1
 ·rename_i h1;exact absurd h h1
theorem SmB.pl{j:Job}(h:SmB j)(hc:ckJ j=0):PlOk j:=by
 have hcost:=QM hc;obtain⟨hf,h8,hnd⟩:=QL hc;obtain⟨_,_,f1,f2,f3,f4,f5,f6⟩:=XG hf;refine⟨f6,f1,by omega,fun x hx=>⟨(h.s.e x hx).1,(h.s.e x hx).2.1⟩,h.c,h8,hnd,fun k=>?_,fun k hk=>?_⟩
 ·rcases mH (L:=j.2.2.1) (k:=k) with h2|h2
  ·have:=(h.s.e _ h2).2.2;omega
  ·rw[h2];decide
 ·obtain⟨x,hx⟩:=zK hk
  have e:opn j.2.2.1 (k:Int)=x:=by unfold opn;exact z7 hx
  rw[e];exact hcost x (zLI hx)
def H4(j:Job)(l:List Int)(c:Int):Prop:=∃t,l=slI t∧c=cst j.2.2.1 (sl t)∧Bel t j.2.2.1.length∧alw j.2.2.1 (bgn j) t=true∧(enq j t).1=true∧∀u,Bel u j.2.2.1.length→alw j.2.2.1 (bgn j) u=true→(enq j u).2=0∧((enq j u).1=true→cst j.2.2.1 (sl t)≤cst j.2.2.1 (sl u))
def zHj(j:Job):Prop:=∀u,Bel u j.2.2.1.length→alw j.2.2.1 (bgn j) u=true→(enq j u).2=0∧(enq j u).1=false
inductive BestR(j:Job):List Int→Int→Int→Prop
 |bad:ckJ j≠0→BestR j [] 0 (ckJ j)
 |err {e}:ckJ j=0→Sn j (bgn j) e→BestR j [] 0 e
 |non:ckJ j=0→zHj j→BestR j [] 0 60
 |ok {l c}:ckJ j=0→H4 j l c→BestR j l c 0
theorem zAi{L:List Eff}{s:List Bool}(hc:∀k∈sl s,1≤(opn L (k:Int)).2.2.1)(h:cst L (sl s)=0):sl s=[]:=by
 cases he:sl s with
 |nil=>rfl
 |cons k l =>
  exfalso;rw[he]at h hc;have h1:∀m:List Nat,(∀i∈m,1≤(opn L (i:Int)).2.2.1)→0≤cst L m:=fun m=>by
   induction m with
   |nil=>intro _;exact Int.le_refl _
   |cons a m ih =>
    intro hm;have:=ih fun i hi=>hm i (zLN _ hi)
    have:=hm a (by simp)
    have e:cst L (a::m)=(opn L (a:Int)).2.2.1+cst L m:=by simp[cst]
    omega
  have h2:=h1 l fun i hi=>hc i (zLN _ hi)
  have h3:=hc k (by simp)
  have e:cst L (k::l)=(opn L (k:Int)).2.2.1+cst L l:=by simp[cst]
  omega
theorem Vz{j:Job}(h:SmB j):Ok (JZ j) fun r=>BestR j r.1 r.2.1 r.2.2.2.1:=by
 unfold JZ;rw[Ok.ze (ZC h.s.w h.s.e)];dsimp only;by_cases hc:ckJ j=0
 ·have hj:=h.pl hc
  have hb:(bgn j).length=8:=Zs _;have hn:=hj.n
  rw[if_neg (by rw[zf];simp[hc]),Ok.ze (pZ hj.w hj.cl hj.n hj.sm),Ok.bind]
  dsimp only;refine(hj.visit hb 40 0 z8 (-1) z8 (by omega) (by omega) D0 (.inl rfl)).mono ?_
  rintro(e|⟨b,f,u⟩) hr
  ·dsimp only at hr ⊢
   refine lp ?_;rw[Ok.pure];exact .err hc hr
  ·dsimp only at hr ⊢
   have hall:∀t,Bel t j.2.2.1.length→alw j.2.2.1 (bgn j) t=true→(enq j t).2=0∧((enq j t).1=true→0≤b∧b≤cst j.2.2.1 (sl t)):=fun t t1 t2=>hr.bst t t1 t2 fun i hi=>absurd hi (by omega)
   by_cases h1:b = -1
   ·rw[if_pos (by rw[yw];exact h1),Ok.bind]
    refine(hj.Ws hb 0).mono fun y _=>?_
    refine lp ?_;rw[Ok.pure];refine .non hc fun t t1 t2=>?_
    obtain⟨g1,g2⟩:=hall t t1 t2;refine⟨g1,?_⟩
    cases hq:(enq j t).1 with
    |false=>rfl
    |true=>have:=g2 hq;omega
   ·rw[if_neg (by rw[yw];exact h1)]
    rcases hr.fnd with g|⟨g1,g2,g3,g4⟩
    ·exact absurd g h1
    have hbest:H4 j (slI f) b:=⟨f,rfl,g4,g1,g2,g3,fun t t1 t2=>by rw[←g4];exact⟨(hall t t1 t2).1,fun h=>((hall t t1 t2).2 h).2⟩⟩
    by_cases h0:b=0
    ·rw[if_pos (by rw[yw];exact h0)]
     refine lp ?_;rw[Ok.pure];have hnil:=zAi (L:=j.2.2.1) (s:=f) (fun k hk=>(hj.cs k (g1.2 k (YM.1 hk).2)).1) (by omega)
     have e:slI f=[]:=by unfold slI;rw[hnil];rfl
     rw[e,h0]at hbest;exact .ok hc hbest
    ·rw[if_neg (by rw[yw];exact h0),Ok.ze (JL g1.1),Ok.bind]
     refine(hj.Ws hb b).mono fun y _=>?_
     refine lp ?_;rw[Ok.pure];exact .ok hc hbest
 ·rw[if_pos (by rw[zf];exact hc),Ok.pure]
  exact .bad hc
def MW(e:Int):Prop:=e=0∨e=9∨e=2
theorem zEh{pcs:List Cell}{q:Cell}:(wth pcs q).2=0∨(wth pcs q).2=9:=by
 unfold wth;split
 ·split
  ·exact .inr rfl
  ·split
   ·exact .inr rfl
   ·exact .inl rfl
 ·exact .inl rfl
theorem Gf:∀ {s pcs:List Cell},(Xm pcs s).2=0∨(Xm pcs s).2=9
 | [],_=>.inl rfl
 |q::s,pcs=>by
  unfold Xm;split
  ·exact Gf
  ·exact zEh
theorem zGN{s:List Cell}{c:Cell}(hc:chk c=0)(hs:∀q∈s,chk q=0):MW (cov s c).2:=by
 show MW (mns c s).2
 unfold mns;rw[if_pos hc];split
 ·split
  ·rcases Gf (s:=s) (pcs:=[ln c]) with h|h
   ·exact .inl h
   ·exact .inr (.inl h)
  ·exact .inl rfl
 ·unfold sck
  split
  ·exact .inr (.inr rfl)
  ·exact .inl (je.2 hs)
theorem CJ:∀ {l seen:List Cell},X7 seen l=true→∀c∈l,chk c=0
 | [],_,_,c,hc=>by cases hc
 |d::l,seen,h,c,hc=>by
  unfold X7 at h;simp only[zLD]at h;rcases zLH.1 hc with e|e
  ·subst e
   have:=h.1;unfold ful at this;simp only[zLD,decide_eq_true_eq]at this;exact this.1
  ·exact CJ h.2.2 c e
theorem G7{p:Part}(h:ckP p=0):∀c∈p.2.1,chk c=0:=by
 unfold ckP at h;split at h
 ·cases h
 ·split at h
  ·cases h
  ·cases hb:X7 [] p.2.1 with
   |true=>exact CJ hb
   |false=>rw[hb]at h;cases h
theorem pP{n:Nat}:∀ {L:List Eff} {k:Nat},efs n L k=0→∀x∈L,∀c∈x.1++x.2.1,chk c=0
 | [],_,_,x,hx=>by cases hx
 |y::L,k,h,x,hx=>by
  unfold efs at h;split at h
  ·rename_i h1
   rcases zLH.1 hx with e|e
   ·subst e
    unfold eE at h1;split at h1
    ·rename_i h2;exact je.1 h2
    ·rename_i h2;exact absurd h1 h2
   ·exact pP h x e
  ·rename_i h1;exact absurd h h1
theorem G8{j:Job}(h:ckJ j=0):fit j.1 j.2.1=0∧∀x∈j.2.2.1,∀c∈x.1++x.2.1,chk c=0:=by
 unfold ckJ at h;split at h
 ·rename_i hf
  split at h
  ·cases h
  ·split at h
   ·rename_i h1;exact⟨hf,pP h1⟩
   ·rename_i h1;exact absurd h h1
 ·rename_i h1;exact absurd h h1
def EOk(e:Int):Prop:=e≠35∧e≠30∧e≠60
theorem EOk.of{e:Int}(h:e=0∨e=1∨e=2∨e=3∨e=4∨e=7∨e=9∨e=12∨e=13):EOk e:=by unfold EOk;omega
theorem zGQ{c:Cell}:EOk (chk c):=by
 unfold chk;split
 ·exact .of (by omega)
 ·cases c.all okP<;>exact .of (by simp)
theorem RQ:∀ {s:List Cell},EOk (gk s)
 | []=>.of (.inl rfl)
 |c::s=>by
  rw[Jb];split
  ·exact RQ
  ·exact zGQ
theorem zGP{p:Part}:EOk (ckP p):=by
 unfold ckP;split
 ·exact .of (by omega)
 ·split
  ·exact .of (by omega)
  ·cases X7 [] p.2.1<;>exact .of (by simp)
theorem zGF{p:Part}{x:zZ}:EOk (fit p x):=by
 unfold fit;split
 ·cases kF p x<;>exact .of (by simp)
 ·exact zGP
theorem zKn{n k:Nat}{x:Eff}:EOk (eE n k x):=by
 unfold eE;split
 ·split
  ·exact .of (by omega)
  ·cases x.2.2.2.1.any (uH n k)<;>cases mw x.2.2.2.1<;>exact .of (by simp)
 ·exact RQ
theorem zAT{n:Nat}:∀ {L:List Eff} {k:Nat},EOk (efs n L k)
 | [],_=>by unfold efs;exact .of (by omega)
 |x::L,k=>by
  unfold efs;split
  ·exact zAT
  ·exact zKn
theorem Ht{j:Job}:EOk (ckJ j):=by
 unfold ckJ;split
 ·split
  ·exact .of (by omega)
  ·split
   ·split<;>exact .of (by omega)
   ·exact zAT
 ·exact zGF
theorem MW.e{e:Int}(h:MW e):EOk e:=by
 rcases h with h|h|h<;>exact .of (by omega)
theorem zAR{p:Part}{x:zZ}{cuts:List Cell}(hp:∀c∈p.2.1,chk c=0)(hc:∀c∈cuts,chk c=0):∀ {m i:Nat},i+m≤p.2.1.length→MW (enR p x cuts i m).2
 |0,_,_=>.inl rfl
 |m+1,i,h=>by
  have ih:=zAR (x:=x) hp hc (m:=m) (i:=i+1) (by omega)
  unfold enR;split
  ·exact ih
  ·split
   ·exact ih
   ·exact zGN (hp _ (Rn (by omega))) fun q hq=>hc q (List.mem_filter.1 hq).1
theorem Vm{j:Job}{s:List Bool}(hc:ckJ j=0):∀c∈ctS j s,chk c=0:=by
 obtain⟨hf,hce⟩:=G8 hc;obtain⟨_,_,_,_,_,f4,_,_⟩:=XG hf;intro c hm;unfold ctS at hm;rcases zLM.1 hm with hm|hm
 ·exact je.1 f4 c hm
 ·obtain⟨k,_,hk⟩:=List.mem_flatMap.1 hm
  rcases mH (L:=j.2.2.1) (k:=k) with h|h
  ·exact hce _ h c (List.mem_append_left _ hk)
  ·rw[h]at hk;cases hk
theorem Sf{j:Job}{s:List Bool}(hc:ckJ j=0):MW (enq j s).2:=by
 obtain⟨hf,hce⟩:=G8 hc;exact zAR (G7 (XG hf).1) (Vm hc) (by omega)
theorem BestR.e{j:Job}{l:List Int}{c e:Int}(h:BestR j l c e):e≠35∧e≠30:=by
 cases h with
 |bad h=>exact⟨Ht.1,Ht.2.1⟩
 |err h h' =>
  obtain⟨_,t,_,_,rfl⟩:=h';exact⟨(Sf h).e.1,(Sf h).e.2.1⟩
 |non h h'=>decide
 |ok h h'=>decide
theorem BestR.zGp{j:Job}{l:List Int}{c:Int}(h:BestR j l c 60):zHj j:=by
 generalize he:(60:Int)=e at h
 cases h with
 |bad h=>exact absurd he.symm Ht.2.2
 |err h h' =>
  obtain⟨_,t,_,_,rfl⟩:=h';exact absurd he.symm (Sf h).e.2.2
 |non h h'=>exact h'
 |ok h h'=>cases he
theorem BestR.ok'{j:Job}{l:List Int}{c:Int}(h:BestR j l c 0):H4 j l c:=by
 generalize he:(0:Int)=e at h
 cases h with
 |bad h=>exact absurd he.symm h
 |err h h'=>exact absurd he.symm h'.1
 |non h h'=>cases he
 |ok h h'=>exact h'
inductive FateR(j:Job):List Int→Int→Int→Prop
 |bad:ckJ j≠0→FateR j [] 0 (ckJ j)
 |end:ckJ j=0→vd j.1 j.2.1=35∨vd j.1 j.2.1=30→FateR j [] 0 (vd j.1 j.2.1)
 |best {l c e}:ckJ j=0→vd j.1 j.2.1≠35∧vd j.1 j.2.1≠30→BestR j l c e→FateR j l c e
theorem Ae{p:Part}{x:zZ}(hf:fit p x=0):(vd p x=35↔anyI p.2.1.length (vS p x)=true)∧(vd p x=30↔anyI p.2.1.length (vS p x)=false∧anyI p.2.1.length (vT p x)=true)∧(vd p x=0↔anyI p.2.1.length (vS p x)=false∧anyI p.2.1.length (vT p x)=false∧anyI p.2.1.length (vL p x)=false):=by
 unfold vd;rw[if_pos hf];cases anyI p.2.1.length (vS p x)<;>cases anyI p.2.1.length (vT p x)<;>cases anyI p.2.1.length (vL p x)<;>simp
theorem zDj{n:Nat}{g:Nat→Bool}:anyI n g=true↔∃i,i<n∧g i=true:=by
 unfold anyI;rw[List.any_eq_true];constructor
 ·rintro⟨i,h1,h2⟩;exact⟨i,List.mem_range.1 h1,h2⟩
 ·rintro⟨i,h1,h2⟩;exact⟨i,List.mem_range.2 h1,h2⟩
theorem qu{n:Nat}{g:Nat→Bool}:anyI n g=false↔∀i,i<n→g i=false:=by
 rw[←Bool.not_eq_true,zDj];constructor
 ·intro h i hi
  cases hg:g i with
  |false=>rfl
  |true=>exact absurd ⟨i,hi,hg⟩ h
 ·rintro h ⟨i,h1,h2⟩;rw[h i h1]at h2;cases h2
def car(p:Part)(L:List Eff):zZ→List Int→zZ×Int
 |x,[]=>(x,0)
 |x,k::l=>if k<0∨(L.length:Int)≤k then (zP,1) else if (apl p x (opn L k).1 (opn L k).2.1).2=0 then car p L (apl p x (opn L k).1 (opn L k).2.1).1 l else (zP,(apl p x (opn L k).1 (opn L k).2.1).2)
structure CarOk(p:Part)(L:List Eff)(x:zZ)(l:List Int)(y:zZ):Prop where
 v:PcV p y
 c:y.2.2.1=x.2.2.1++l.flatMap fun k=>(opn L k).1
 s:∀i,i<p.2.1.length→x.1.getD i false=true→y.1.getD i false=true
 t:∀i,i<p.2.1.length→y.2.1.getD i false=true→x.2.1.getD i false=true∨∃k∈l,sap (cl p i) (opn L k).1=false∨sap (cl p i) (opn L k).2.1=false
 u:∀i,i<p.2.1.length→y.1.getD i false=true→x.1.getD i false=true∨∃A:List Cell,(∀q∈A,q∈nr y.2.2.1 (cl p i))∧(cov A (cl p i)).1=true
 r:∀i,i<p.2.1.length→x.2.1.getD i false=true→y.2.1.getD i false=true
theorem V1{p:Part}{x:zZ}{C T:List Cell}(h:(apl p x C T).2=0):(∀i,i<p.2.1.length→x.1.getD i false=true→(apl p x C T).1.1.getD i false=true)∧∀i,i<p.2.1.length→(apl p x C T).1.2.1.getD i false=true→x.2.1.getD i false=true∨sap (cl p i) C=false∨sap (cl p i) T=false:=by
 obtain⟨_,⟨hf,_⟩,he⟩:=lg h;obtain⟨_,_,f1,f2,_⟩:=XG hf;rw[he];dsimp only;refine⟨fun i hi hs=>?_,fun i hi ht=>?_⟩
 ·obtain⟨c,hc⟩:=zK hi
  obtain⟨v,hv⟩:=zK (xs:=x.1) (k:=i) (by omega)
  rw[z7 hv]at hs;have hz:(apS (x.2.2.1++C) p.2.1 x.1)[i]?=some (sur (x.2.2.1++C) c v):=YP hc hv
  rw[z7 hz,hs];rfl
 ·obtain⟨c,hc⟩:=zK hi
  obtain⟨v,hv⟩:=zK (xs:=x.2.1) (k:=i) (by omega)
  have hz:(apT C T p.2.1 x.2.1)[i]?=some (tch C T c v):=YP hc hv;rw[z7 hz]at ht;rw[z7 hv,show cl p i=c from z7 hc]
  unfold tch at ht;simp only[Bool.or_eq_true,Bool.not_eq_true']at ht;rcases ht with (h|h)|h
  ·exact .inl h
  ·exact .inr (.inl h)
  ·exact .inr (.inr h)
theorem QV{p:Part}{x:zZ}{C T:List Cell}(h:(apl p x C T).2=0):(∀i,i<p.2.1.length→(apl p x C T).1.1.getD i false=true→x.1.getD i false=true∨(cov (nr (x.2.2.1++C) (cl p i)) (cl p i)).1=true)∧∀i,i<p.2.1.length→x.2.1.getD i false=true→(apl p x C T).1.2.1.getD i false=true:=by
 obtain⟨_,⟨hf,_⟩,he⟩:=lg h;obtain⟨_,_,f1,f2,_⟩:=XG hf;rw[he];dsimp only;refine⟨fun i hi hs=>?_,fun i hi ht=>?_⟩
 ·obtain⟨c,hc⟩:=zK hi
  obtain⟨v,hv⟩:=zK (xs:=x.1) (k:=i) (by omega)
  have hz:(apS (x.2.2.1++C) p.2.1 x.1)[i]?=some (sur (x.2.2.1++C) c v):=YP hc hv;rw[z7 hz]at hs;rw[z7 hv,show cl p i=c from z7 hc]
  cases v with
  |true=>exact .inl rfl
  |false=>exact .inr hs
 ·obtain⟨c,hc⟩:=zK hi
  obtain⟨v,hv⟩:=zK (xs:=x.2.1) (k:=i) (by omega)
  have hz:(apT C T p.2.1 x.2.1)[i]?=some (tch C T c v):=YP hc hv;rw[z7 hv]at ht;rw[z7 hz,ht];rfl
theorem zCx{s t:List Cell}{c:Cell}(h:∀q∈s,q∈t):∀q∈nr s c,q∈nr t c:=fun q hq=>by
 unfold nr at hq ⊢;rw[List.mem_filter]at hq ⊢;exact⟨h q hq.1,hq.2⟩
theorem Rq{p:Part}{L:List Eff}:∀ {l:List Int} {x:zZ},PcV p x→(car p L x l).2=0→CarOk p L x l (car p L x l).1
 | [],x,hx,_=>⟨hx,by simp[car],fun _ _ h=>h,fun _ _ h=>.inl h,fun _ _ h=>.inl h,fun _ _ h=>h⟩
 |k::l,x,hx,h=>by
  unfold car at h ⊢;split at h
  ·cases h
  ·rename_i hk
   rw[if_neg hk];split at h
   ·rename_i ha
    rw[if_pos ha];obtain⟨g1,_,g3⟩:=lg ha;obtain⟨g4,g5⟩:=V1 ha;obtain⟨g6,g7⟩:=QV ha;have ih:=Rq g1 h
    refine⟨ih.v,?_,fun i hi hs=>ih.s i hi (g4 i hi hs),fun i hi ht=>?_,fun i hi hs=>?_,fun i hi ht=>ih.r i hi (g7 i hi ht)⟩
    ·rw[ih.c,g3]
     dsimp only;rw[List.flatMap_cons,List.append_assoc]
    ·rcases ih.t i hi ht with h1|⟨q,hq,h1⟩
     ·rcases g5 i hi h1 with h2|h2
      ·exact .inl h2
      ·exact .inr ⟨k,by simp,h2⟩
     ·exact .inr ⟨q,by simp[hq],h1⟩
    ·rcases ih.u i hi hs with h1|h1
     ·rcases g6 i hi h1 with h2|h2
      ·exact .inl h2
      ·refine .inr ⟨_,zCx fun q hq=>?_,h2⟩
       rw[ih.c,g3];exact List.mem_append_left _ hq
     ·exact .inr h1
   ·rename_i ha;exact absurd h ha
theorem PcV.fit{p:Part}{x:zZ}(h:PcV p x):fit p x=0:=by
 unfold Go.Geo.fit;rw[if_pos h.c,h.f];rfl
theorem PcV.want{p:Part}{x:zZ}(h:PcV p x){w:List Int}(hw:ckP (p.1,p.2.1,w,())=0):PcV (p.1,p.2.1,w,()) x:=⟨hw,h.f,h.s⟩
theorem QK{p:Part}(h:ckP p=0){w:List Int}(hl:w.length=p.2.1.length)(hs:w.any y5=false):ckP (p.1,p.2.1,w,())=0:=by
 obtain⟨h1,_,h3⟩:=u5 h;unfold ckP;dsimp only;rw[if_neg (by omega),if_neg (by rw[hs];simp[hl]),h3];rfl
def Dv(t:List Bool)(l:List Int):List Bool:=l.foldl (fun t k=>t.set k.toNat false) t
theorem Bz:∀ {l:List Int} {t:List Bool},(Dv t l).length=t.length
 | [],_=>rfl
 |k::l,t=>by
  show (Dv (t.set k.toNat false) l).length=_
  rw[Bz,List.length_set]
def upB(n:Nat):Int→List Int→Bool
 |_,[]=>true
 |b,k::l=>(decide (b<k) && decide (k<n)) && upB n k l
theorem kL{n:Nat}:∀ {l:List Int} {b:Int},upB n b l=true→∀k∈l,b<k∧k<n
 | [],_,_,_,h=>by cases h
 |q::l,b,hu,k,h=>by
  unfold upB at hu;simp only[zLD,decide_eq_true_eq]at hu;rcases zLH.1 h with e|e
  ·subst e;exact hu.1
  ·have:=kL hu.2 k e
   exact⟨by omega,this.2⟩
def msd(p:Part)(x:zZ)(l:List Int):zZ×Int :=
 if ckP p=0 then bif kF p x then bif upB p.2.1.length (-1) l then bif l.all (fun k=>sap (cl p k.toNat) x.2.2.1) then ((x.1,Dv x.2.1 l,x.2.2.1,()),0) else (zP,35) else (zP,1) else (zP,4) else (zP,ckP p)
theorem GA{p:Part}{e:Eff}(h:spk (kp p) e=false){i:Nat}(hi:i<p.2.1.length)(hw:wt p i=1):sap (cl p i) e.1=true∧sap (cl p i) e.2.1=true:=by
 have hk:cl p i∈kp p:=by
  unfold kp;refine List.mem_map.2 ⟨i,?_,rfl⟩;rw[List.mem_filter];exact⟨List.mem_range.2 hi,by simp[hw]⟩
 unfold spk at h;rw[Bool.or_eq_false_iff]at h;have key:∀l:List Cell,(l.any fun c=>!sap c (kp p))=false→sap (cl p i) l=true:=fun l hl=>by
  unfold sap;rw[List.all_eq_true];intro q hq;have h1:=List.any_eq_false.1 hl q hq
  simp only[Bool.not_eq_true',Bool.not_eq_false]at h1;unfold sap at h1;rw[List.all_eq_true]at h1;rw[CA];exact h1 _ hk
 exact⟨key _ h.1,key _ h.2⟩
theorem GE{c:Cell}{s t:List Cell}:sap c (s++t)=(sap c s && sap c t):=by unfold sap;rw[List.all_append]
theorem Au{c:Cell}{f:Int→List Cell}:∀ {l:List Int},(∀k∈l,sap c (f k)=true)→sap c (l.flatMap f)=true
 | [],_=>rfl
 |k::l,h=>by rw[List.flatMap_cons,GE,h k (by simp),Au fun q hq=>h q (by simp[hq])];rfl
theorem G2{p:Part}{x:zZ}{cuts:List Cell}:∀ {m i:Nat},(enR p x cuts i m).1=true→∀q,i≤q→q<i+m→wt p q=2→x.1.getD q false=true∨(cov (nr cuts (cl p q)) (cl p q)).1=true
 |0,_,_,q,h1,h2,_=>by omega
 |m+1,i,h,q,h1,h2,hw=>by
  unfold enR at h;by_cases hq:q=i
  ·subst hq
   split at h
   ·rename_i h3
    rcases h3 with h3|h3
    ·exact absurd hw h3
    ·exact .inl h3
   ·split at h
    ·rename_i h3;exact .inr h3
    ·cases h
  ·have:(enR p x cuts (i+1) m).1=true:=by
    split at h
    ·exact h
    ·split at h
     ·exact h
     ·cases h
   exact G2 this q (by omega) (by omega) hw
theorem Vl{j:Job}{t:List Bool}:ctS j t=j.2.1.2.2.1++(slI t).flatMap fun k=>(opn j.2.2.1 k).1:=by
 unfold ctS slI;rw[List.flatMap_map]
theorem V6{j:Job}{t:List Bool}(ht:t.length=8)(h:alw j.2.2.1 (bgn j) t=true):∀k∈slI t,spk (kp j.1) (opn j.2.2.1 k)=false:=by
 intro k hk;obtain⟨q,hq,rfl⟩:=List.mem_map.1 hk;obtain⟨hkn,hkb⟩:=((HL ht).1 h).1 q (YM.1 hq).2;unfold bgn at hkb;rw[uG (YM.1 hq).1]at hkb
 cases h:spk (kp j.1) (opn j.2.2.1 (q:Int)) with
 |false=>rfl
 |true=>rw[h]at hkb;simp at hkb;omega
theorem zGW{p:Part}{x:zZ}{k:Nat}:vS p x k=false↔(wt p k=1→sap (cl p k) x.2.2.1=true):=by
 unfold vS;by_cases h:wt p k=1<;>simp[h]
theorem zGU{p:Part}{x:zZ}{k:Nat}:vT p x k=false↔(wt p k=1→x.2.1.getD k false=false):=by
 unfold vT;by_cases h:wt p k=1<;>simp[h]
theorem zHm{p:Part}{x:zZ}{k:Nat}:vL p x k=false↔(wt p k=2→x.1.getD k false=true):=by
 unfold vL;by_cases h:wt p k=2<;>simp[h]
theorem zEi{p:Part}{x:zZ}(hf:fit p x=0)(h1:vd p x≠35)(h2:vd p x≠30):(∀i,i<p.2.1.length→vS p x i=false)∧∀i,i<p.2.1.length→vT p x i=false:=by
 obtain⟨g1,g2,_⟩:=Ae hf;have c1:anyI p.2.1.length (vS p x)=false:=by
  cases h:anyI p.2.1.length (vS p x) with
  |false=>rfl
  |true=>exact absurd (g1.2 h) h1
 have c2:anyI p.2.1.length (vT p x)=false:=by
  cases h:anyI p.2.1.length (vT p x) with
  |false=>rfl
  |true=>exact absurd (g2.2 ⟨c1,h⟩) h2
 exact⟨qu.1 c1,qu.1 c2⟩
theorem I2{j:Job}(hv:PcV j.1 j.2.1)(h1:vd j.1 j.2.1≠35)(h2:vd j.1 j.2.1≠30){l:List Int}{c:Int}(hb:H4 j l c)(h:(car j.1 j.2.2.1 j.2.1 l).2=0):vd j.1 (car j.1 j.2.2.1 j.2.1 l).1=0:=by
 have co:=Rq hv h;generalize (car j.1 j.2.2.1 j.2.1 l).1=y at co;obtain⟨t,rfl,_,t1,t2,t3,_⟩:=hb;have hsp:=V6 t1.1 t2
 obtain⟨c1,c2⟩:=zEi hv.fit h1 h2;rw[(Ae co.v.fit).2.2,qu,qu,qu];refine⟨fun i hi=>zGW.2 fun hw=>?_,fun i hi=>zGU.2 fun hw=>?_,fun i hi=>zHm.2 fun hw=>?_⟩
 ·rw[co.c,GE,zGW.1 (c1 i hi) hw,Au fun k hk=>(GA (hsp k hk) hi hw).1];rfl
 ·cases ht:y.2.1.getD i false with
  |false=>rfl
  |true =>
   rcases co.t i hi ht with g|⟨k,hk,g⟩
   ·rw[zGU.1 (c2 i hi) hw]at g;cases g
   ·obtain⟨g1,g2⟩:=GA (hsp k hk) hi hw
    rcases g with g|g
    ·rw[g1]at g;cases g
    ·rw[g2]at g;cases g
 ·rcases G2 t3 i (Nat.zero_le _) (by omega) hw with g|g
  ·exact co.s i hi g
  ·cases hs:y.1.getD i false with
   |true=>rfl
   |false =>
    have:=co.v.s i hi hs;rw[co.c,←Vl,g]at this;cases this
theorem Qj:∀ {a b:List Nat},a.Pairwise (· < ·)→b.Pairwise (· < ·)→(∀x,x∈a↔x∈b)→a=b
 | [],[],_,_,_=>rfl
 | [],y::b,_,_,h=>absurd ((h y).2 (by simp)) (by simp)
 |x::a,[],_,_,h=>absurd ((h x).1 (by simp)) (by simp)
 |x::a,y::b,ha,hb,h=>by
  rw[List.pairwise_cons]at ha hb;have e:x=y:=by
   have h1:=(h x).1 (by simp)
   have h2:=(h y).2 (by simp)
   rcases zLH.1 h1 with h1|h1
   ·exact h1
   ·rcases zLH.1 h2 with h2|h2
    ·exact h2.symm
    ·have:=ha.1 y h2
     have:=hb.1 x h1;omega
  subst e;rw[Qj ha.2 hb.2 fun z=>?_]
  have h1:=h z;constructor
  ·intro hz
   have:=ha.1 z hz;rcases zLH.1 (h1.1 (by simp[hz])) with h2|h2
   ·omega
   ·exact h2
  ·intro hz
   have:=hb.1 z hz;rcases zLH.1 (h1.2 (by simp[hz])) with h2|h2
   ·omega
   ·exact h2
def stO(l:List Int):List Bool:=m8 fun k=>decide ((k:Int)∈l)
theorem nv{l:List Int}:(stO l).length=8:=Zs _
theorem nj{n:Nat}:∀ {l:List Int} {b:Int}, -1≤b→upB n b l=true→(l.map Int.toNat).Pairwise (· < ·)
 | [],_,_,_=>List.Pairwise.nil
 |k::l,b,hb,h=>by
  have h0:=kL h;unfold upB at h;simp only[zLD,decide_eq_true_eq]at h;rw[List.map_cons,List.pairwise_cons];refine⟨fun q hq=>?_,nj (by omega) h.2⟩
  obtain⟨r,hr,rfl⟩:=List.mem_map.1 hq;have:=kL h.2 r hr
  omega
theorem Wt{n:Nat}(hn:n≤8){l:List Int}(h:upB n (-1) l=true){k:Nat}:B8 (stO l) k=true↔(k:Int)∈l:=by
 by_cases h8:k<8
 ·unfold stO;rw[uG h8,decide_eq_true_iff]
 ·rw[uO nv (by omega)]
  refine⟨fun h=>(nomatch h),fun hm=>?_⟩
  have:=kL h _ hm;omega
theorem E8{n:Nat}(hn:n≤8){l:List Int}(h:upB n (-1) l=true):Bel (stO l) n:=⟨nv,fun i hi=>by
 have:=kL h _ ((Wt hn h).1 hi);omega⟩
theorem GB{n:Nat}(hn:n≤8){l:List Int}(h:upB n (-1) l=true):slI (stO l)=l:=by
 have h1:sl (stO l)=l.map Int.toNat:=by
  refine Qj ?_ (nj (by omega) h) fun x=>?_
  ·unfold sl;exact List.Pairwise.filter _ List.pairwise_lt_range
  ·rw[YM,Wt hn h,List.mem_map]
   constructor
   ·rintro⟨_,h2⟩;exact⟨(x:Int),h2,rfl⟩
   ·rintro⟨y,hy,rfl⟩
    have:=kL h y hy;have e:((y.toNat:Nat):Int)=y:=by omega
    rw[e];exact⟨by omega,hy⟩
 unfold slI;rw[h1,List.map_map];refine(List.map_congr_left fun y hy=>?_).trans (List.map_id l)
 have:=kL h y hy;show ((y.toNat:Nat):Int)=y
 omega
theorem Mj{n:Nat}{l:List Int}(h:upB n (-1) l=true):mw l=true:=by
 unfold mw;rw[Bool.not_eq_true'];unfold S4;rw[List.any_eq_false];intro k hk;rw[List.mem_range']at hk;obtain⟨i,hi,rfl⟩:=hk;have hp:=nj (by omega) h
 rw[List.pairwise_iff_getElem]at hp;obtain⟨a,ha⟩:=zK (xs:=l) (k:=1+1 * i) (by omega)
 obtain⟨b,hb⟩:=zK (xs:=l) (k:=1+1 * i-1) (by omega)
 rw[z7 ha,z7 hb];have h2:=hp (1+1 * i-1) (1+1 * i) (by rw[List.length_map];omega) (by rw[List.length_map];omega) (by omega)
 rw[List.getElem_map,List.getElem_map]at h2;rw[zLT (by omega)]at ha hb
 cases ha;cases hb
 have:=kL h _ (List.getElem_mem (l:=l) (n:=1+1 * i) (by omega))
 have:=kL h _ (List.getElem_mem (l:=l) (n:=1+1 * i-1) (by omega))
 rw[decide_eq_true_iff];omega
theorem E1{n:Nat}{l:List Int}(h:upB n (-1) l=true)(hn:n≤8):l.length≤8:=by
 rw[←GB hn h];exact Jj _
theorem UY{L:List Eff}{t:List Bool}:((slI t).map fun k=>(opn L k).2.2.1).sum=cst L (sl t):=by
 unfold slI cst;rw[List.map_map];rfl
theorem Xj{s:List Cell}(hl:s.length≤1000000)(hc:∀c∈s,c.length≤1000000):(Zr s).val=some (s,()):=by
 unfold Zr;have h1:=jd s.length (fun k l=>match s[k]? with|some c=>l++[c]|none=>l) (fun k l=>l++s.drop k) (fun l k=>l.length=k)
  (body:=(fun (x:List (List (Pln))×Int) =>
      if ltI x.2 (zF s)=true then
       (idx s x.2).bind fun (x_1:List (Pln)) =>
        (Go.F.zU x_1).bind fun (y:List (Pln)×Unit) =>
         (app x.1 [y.1]).bind fun (zs:List (List (Pln)))=>Comp.pure (.next (zs,zJ .i64 x.2 1))
      else Comp.pure (.done x.1)))
  (fun l k hk hI=>by
   obtain⟨c,hc'⟩:=zK (xs:=s) (k:=k) hk;have hcl:(zU c).val=some (c,()):=YV (by have:=hc c (zLI hc');unfold LIM;omega)
   refine⟨?_,by rw[hc'];simp[hI],by rw[drop_cons hc',hc'];simp⟩
   rw[hc'];simp only;rw[if_pos (by rw[zH,zC];show (k:Int)<_;omega),zA,zL hc',zLB,zA,hcl,zLB,zA,yG (by simp only[zLG];unfold LIM;omega),zLB,Comp.zB,zM (by omega)])
  (fun l=>by rw[if_neg (by rw[zH,zC];simp),Comp.zB]) (fun l=>by rw[List.drop_length];simp) 0 [] (Nat.zero_le _) rfl
 rw[zA];refine(congrArg (fun o=>Option.bind o _) h1).trans ?_
 rw[zLB,Comp.zB];simp
structure CpP(p:Part):Prop where
 l:p.2.1.length≤1000
 c:∀c∈p.2.1,c.length≤1000000
abbrev nwP(p:Part)(w:List Int):Part:=(p.1,p.2.1,w,())
abbrev nwJ(j:Job)(w:List Int):Job:=(nwP j.1 w,j.2.1,j.2.2.1,())
theorem pQ{p:Part}(hp:CpP p){w:List Int}(hw:w.length≤1000000):(gX (p,()) w).val=some (nwP p w,()):=by
 unfold gX;have h1:(jo w).val=some (w,()):=YV (zLK hw uE)
 rw[zA,Xj (by have:=hp.l;omega) hp.c,zLB,zA,h1,zLB,Comp.zB]
theorem tR{p:Part}(hp:CpP p){w:List Int}(hw:w.length≤1000000):(gK p w).val=some (if ckP (nwP p w)=0 then (nwP p w,0,()) else (([],[],[],()),ckP (nwP p w),())):=by
 unfold gK;rw[zA,pQ hp hw,zLB];dsimp only;rw[zA,kR (p:=nwP p w) (by dsimp only;omega),zLB]
 by_cases h:ckP (nwP p w)=0
 ·rw[if_neg (by rw[zf];simp[h]),if_pos h,Comp.zB]
 ·rw[if_pos (by rw[zf];exact h),if_neg h,Comp.zB]
theorem tH(p:Part)(x:zZ):(Xf p x).val=some (kF p x,()):=by
 unfold Xf;rw[qW,Kf,zA]
 cases hb:((decide (x.1.length=p.2.1.length) && decide (x.2.1.length=p.2.1.length)) && decide (x.2.2.1.length≤24)) with
 |false =>
  show Option.bind (Comp.pure _).val _=_
  rw[Comp.zB,zLB,Comp.zB];rfl
 |true =>
  have hl:x.2.2.1.length≤24:=by
   rw[zLD]at hb;simpa using hb.2
  have h1:(zG x.2.2.1 fun z=>gj z.1).val=some (x.2.2.1.any fun c=>decide (chk c≠0),()) :=
   ZP (xs:=x.2.2.1) (f:=fun z=>gj z.1) (p:=fun c=>decide (chk c≠0)) (by omega) fun c _=>by
    show (gj c).val=_
    unfold gj;rw[zA,gI,zLB,Comp.zB];rfl
  show Option.bind (zG x.2.2.1 fun z=>gj z.1).val _=_
  rw[h1,zLB,Comp.zB,kX,Bool.true_and,Bool.true_and,yM]
  congr 2
  by_cases h:gk x.2.2.1=0
  ·rw[decide_eq_true h]
   have:=je.1 h;rw[Bool.not_eq_true',List.any_eq_false];intro c hc;simp[this c hc]
  ·rw[decide_eq_false h]
   simp only[Bool.not_eq_false',List.any_eq_true];rw[je]at h;simp only[Classical.not_forall]at h;obtain⟨c,hc,h2⟩:=h;exact⟨c,hc,by simpa using h2⟩
theorem Mk{n:Nat}{b k:Int}{l:List Int}:upB n b (k::l)=((decide (b<k) && decide (k<n)) && upB n k l):=rfl
theorem nA{p:Part}{x:zZ}{l:List Int}(hw:p.2.2.1.length<9223372036854775807)(hl:l.length≤1000000):(yL p x l).val=some ((msd p x l).1,(msd p x l).2,()):=by
 refine Ok.val ?_;unfold yL msd;rw[Ok.ze (kR hw)];dsimp only;by_cases hck:ckP p=0
 ·rw[if_neg (by rw[zf];simp[hck]),if_pos hck,Ok.ze (tH p x),yM]
  cases hfb:kF p x with
  |false=>rw[if_pos (by rfl),Ok.pure];rfl
  |true =>
   obtain⟨f1,f2,f3,f4⟩:=N1 hfb;have hn:p.2.1.length≤16:=(u5 hck).1.2
   rw[if_neg (by simp),Ok.bind]
   refine(Ok.count l.length (fun i (s:Int×Int×zZ)=>s.2.1=(i:Int)∧s.2.2=zP∧upB p.2.1.length (-1) l=upB p.2.1.length s.1 (l.drop i)) (P:=fun r=>match r with|.inl y=>y=zP∧upB p.2.1.length (-1) l=true|.inr e=>e=(1,zP)∧upB p.2.1.length (-1) l=false) ⟨rfl,rfl,rfl⟩ ?_ ?_).mono ?_
   ·rintro i ⟨b,n,z⟩ hi ⟨h1,h2,h3⟩
    dsimp only at h1 h2 h3;subst h1 h2;obtain⟨k,hk⟩:=zK hi;rw[drop_cons hk,Mk]at h3;dsimp only;rw[if_pos (by rw[zH,zC];omega),Ok.bind,Ok.Yu hk]
    by_cases hb:b<k
    ·have e1:leI k b=false:=by rw[←Bool.not_eq_true,Cj];omega
     by_cases hkn:k<p.2.1.length
     ·have e2:geI k (zF p.2.1)=false:=by rw[←Bool.not_eq_true,XK,zC];omega
      rw[e1,e2,if_neg (by decide),Ok.pure]
      rw[decide_eq_true hb,decide_eq_true hkn,Bool.and_self,Bool.true_and]at h3;exact⟨zM (by omega),rfl,h3⟩
     ·have e2:geI k (zF p.2.1)=true:=by rw[XK,zC];omega
      rw[e1,e2,if_pos (by rfl),Ok.pure]
      rw[decide_eq_false hkn,Bool.and_false,Bool.false_and]at h3;exact⟨rfl,h3⟩
    ·have e1:leI k b=true:=by rw[Cj];omega
     rw[e1,if_pos (by rfl),Ok.pure]
     rw[decide_eq_false hb,Bool.false_and,Bool.false_and]at h3;exact⟨rfl,h3⟩
   ·rintro⟨b,n,z⟩ ⟨h1,h2,h3⟩
    dsimp only at h1 h2 h3;subst h1 h2;rw[List.drop_length]at h3;dsimp only;rw[if_neg (by rw[zH,zC];omega),Ok.pure]
    exact⟨rfl,h3⟩
   ·rintro(y|e) hr
    ·obtain⟨rfl,hu⟩:=hr
     dsimp only;have hcl:∀c∈x.2.2.1,c.length≤1000000:=fun c hc=>by have:=(Z4 (je.1 f4 c hc)).1;omega
     have hb1:(zp x.1).val=some (x.1,()):=YV (zLK (by omega) uE)
     have hb2:(zp x.2.1).val=some (x.2.1,()):=YV (zLK (by omega) uE)
     rw[Ok.ze hb1,Ok.ze hb2,Ok.ze (Xj (by omega) hcl)]
     dsimp only;rw[hu,Ok.bind]
     refine(Ok.count l.length (fun i (s:Int×zZ×zZ)=>s=((i:Int),zP,x.1,Dv x.2.1 (l.take i),x.2.2.1,())∧∀k∈l.take i,sap (cl p k.toNat) x.2.2.1=true) (P:=fun r:zZ×zZ⊕Int×zZ=>match r with|.inl y=>y=(zP,x.1,Dv x.2.1 l,x.2.2.1,())∧(l.all fun k=>sap (cl p k.toNat) x.2.2.1)=true|.inr e=>e=(35,zP)∧(l.all fun k=>sap (cl p k.toNat) x.2.2.1)=false) ⟨rfl,fun k hk=>nomatch hk⟩ ?_ ?_).mono ?_
     ·rintro i s hi ⟨rfl,h2⟩
      dsimp only;obtain⟨k,hk⟩:=zK hi;have hkm:=kL hu k (zLI hk)
      obtain⟨c,hc⟩:=zK (xs:=p.2.1) (k:=k.toNat) (by omega)
      have ec:cl p k.toNat=c:=z7 hc;rw[if_pos (by rw[zH,zC];omega),Ok.bind,Ok.Yu hk,Ok.bind,Ok.idx (by omega) hc,Ok.ze (gN c (by omega)),yM]
      have ht:l.take (i+1)=l.take i++[k]:=by rw[List.take_add_one,hk];rfl
      cases hs:sap c x.2.2.1 with
      |false =>
       rw[if_pos (by rfl),Ok.pure]
       refine⟨rfl,?_⟩;rw[List.all_eq_false];exact⟨k,zLI hk,by rw[ec,hs];simp⟩
      |true =>
       rw[if_neg (by simp),Ok.ze (jT ⟨by omega,by rw[Bz];omega⟩),Ok.pure]
       refine⟨?_,fun q hq=>?_⟩
       ·rw[zM (by omega),ht]
        have:Dv x.2.1 (l.take i++[k])=jZ (Dv x.2.1 (l.take i)) k false:=by unfold Dv;rw[List.foldl_append];rfl
        rw[this]
       ·rw[ht,zLM,List.mem_singleton]at hq
        rcases hq with hq|hq
        ·exact h2 q hq
        ·rw[hq,ec,hs]
     ·rintro s ⟨rfl,h2⟩
      dsimp only;rw[List.take_length]at h2;rw[if_neg (by rw[zH,zC];omega),Ok.pure,List.take_length]
      exact⟨rfl,List.all_eq_true.2 h2⟩
     ·rintro(y|e) hr
      ·obtain⟨rfl,hs⟩:=hr
       dsimp only;rw[Ok.pure,hs];rfl
      ·obtain⟨rfl,hs⟩:=hr
       dsimp only;rw[Ok.pure,hs];rfl
    ·obtain⟨rfl,hu⟩:=hr
     dsimp only;rw[hu,Ok.pure];rfl
 ·rw[if_pos (by rw[zf];exact hck),if_neg hck,Ok.pure];rfl
theorem Gs{j:Job}{w:List Int}(hp:CpP j.1)(hw:w.length≤1000000)(hs:SmB (nwJ j w)):Ok (Yk j w) fun r=>FateR (nwJ j w) r.1 r.2.1 r.2.2.1:=by
 unfold Yk;rw[Ok.ze (pQ hp hw)];dsimp only;rw[Ok.ze (ZC (j:=nwJ j w) hs.s.w hs.s.e)];dsimp only;by_cases hc:ckJ (nwJ j w)=0
 ·rw[if_neg (by rw[zf];simp[hc]),Ok.ze (wW (p:=nwP j.1 w) (x:=j.2.1) hs.s.w)]
  dsimp only;by_cases h35:vd (nwP j.1 w) j.2.1=35
  ·have e1:eqI (vd (nwP j.1 w) j.2.1) (Int.ofNat 35)=true:=by rw[yw];exact h35
   rw[e1,if_pos (by rfl),Ok.pure]
   exact .end hc (.inl h35)
  ·have e1:eqI (vd (nwP j.1 w) j.2.1) (Int.ofNat 35)=false:=by rw[←Bool.not_eq_true,yw];exact h35
   by_cases h30:vd (nwP j.1 w) j.2.1=30
   ·have e2:eqI (vd (nwP j.1 w) j.2.1) (Int.ofNat 30)=true:=by rw[yw];exact h30
    rw[e1,e2,if_pos (by rfl),Ok.pure]
    exact .end hc (.inr h30)
   ·have e2:eqI (vd (nwP j.1 w) j.2.1) (Int.ofNat 30)=false:=by rw[←Bool.not_eq_true,yw];exact h30
    rw[e1,e2,if_neg (by decide),Ok.bind]
    refine(Vz hs).mono ?_;rintro⟨l,c,pf,e,u⟩ hr;dsimp only at hr ⊢;by_cases he:e=0
    ·rw[if_neg (by rw[zf];simp[he]),Ok.pure]
     rw[he]at hr;exact .best hc ⟨h35,h30⟩ hr
    ·rw[if_pos (by rw[zf];exact he),Ok.pure]
     have:l=[]∧c=0:=by
      cases hr<;>first|exact⟨rfl,rfl⟩|exact absurd rfl he
     rw[this.1,this.2]at hr;exact .best hc ⟨h35,h30⟩ hr
 ·rw[if_pos (by rw[zf];exact hc),Ok.pure]
  exact .bad hc
theorem QN{p:Part}{L:List Eff}{x:zZ}{k:Int}{l:List Int}:car p L x (k::l)=if k<0∨(L.length:Int)≤k then (zP,1) else if (apl p x (opn L k).1 (opn L k).2.1).2=0 then car p L (apl p x (opn L k).1 (opn L k).2.1).1 l else (zP,(apl p x (opn L k).1 (opn L k).2.1).2):=rfl
theorem AY{j:Job}{p:Part}{l:List Int}(hw:p.2.2.1.length<9223372036854775807)(hs:∀x∈j.2.2.1,SmE x)(hl:l.length≤1000000):(gv j p l).val=some ((car p j.2.2.1 j.2.1 l).1,(car p j.2.2.1 j.2.1 l).2,()):=by
 refine Ok.val ?_;unfold gv;rw[Ok.bind];refine(Ok.count l.length (fun i (s:Int×zZ×zZ)=>s.1=(i:Int)∧s.2.1=zP∧car p j.2.2.1 j.2.1 l=car p j.2.2.1 s.2.2 (l.drop i)) (P:=fun r:zZ×zZ⊕Int×zZ=>match r with|.inl y=>car p j.2.2.1 j.2.1 l=(y.2,0)|.inr e=>car p j.2.2.1 j.2.1 l=(e.2,e.1)) ⟨rfl,rfl,rfl⟩ ?_ ?_).mono ?_
 ·rintro i ⟨n,z,x⟩ hi ⟨h1,h2,h3⟩
  dsimp only at h1 h2 h3;subst h1 h2;obtain⟨k,hk⟩:=zK hi;rw[drop_cons hk,QN]at h3;dsimp only;rw[if_pos (by rw[zH,zC];omega),Ok.bind,Ok.Yu hk]
  by_cases hr:k<0∨(j.2.2.1.length:Int)≤k
  ·have e1:sel (ltI k 0) true (geI k (zF j.2.2.1))=true:=by rw[gm,Bool.or_eq_true,zH,XK,zC];exact hr
   rw[if_pos hr]at h3;rw[e1,if_pos rfl,Ok.pure];exact h3
  ·have e1:¬sel (ltI k 0) true (geI k (zF j.2.2.1))=true:=by rw[gm,Bool.or_eq_true,zH,XK,zC];exact hr
   rw[if_neg hr]at h3;have hsm:=zAu hs k
   rw[if_neg e1,Ok.bind,Ok.yv (Jm ⟨by omega,by omega⟩),Ok.bind,Ok.yv (Jm ⟨by omega,by omega⟩),Ok.ze (I9 hw (zLK hsm.1 (by decide)) (zLK hsm.2.1 (by decide)))]
   dsimp only;by_cases he:(apl p x (opn j.2.2.1 k).1 (opn j.2.2.1 k).2.1).2=0
   ·rw[if_pos he]at h3
    rw[if_neg (by rw[zf];simp[he]),Ok.pure]
    exact⟨zM (by omega),rfl,h3⟩
   ·rw[if_neg he]at h3
    rw[if_pos (by rw[zf];exact he),Ok.pure]
    exact h3
 ·rintro⟨n,z,x⟩ ⟨h1,h2,h3⟩
  dsimp only at h1 h2 h3;subst h1 h2;rw[List.drop_length]at h3;dsimp only;rw[if_neg (by rw[zH,zC];omega),Ok.pure]
  exact h3
 ·rintro(y|e) hr
  ·dsimp only at hr ⊢
   rw[Ok.pure,hr]
  ·dsimp only at hr ⊢
   rw[Ok.pure,hr]
theorem qO{n:Int}:(rem n 5).val=some (n.tmod 5):=by
 unfold rem;rw[if_neg (by decide),Comp.zB]
theorem UA{p:Part}{w:List Int}(hp:p.2.2.1.length≤1000)(hs:p.2.2.1.any y5=false)(hw:w.length≤1000):Ok (j8 p w) fun r=>r.1.length=p.2.2.1.length∧r.1.any y5=false:=by
 unfold j8;rw[Ok.bind];refine(Ok.count p.2.2.1.length (fun i (s:List Int×Int)=>s.2=(i:Int)∧s.1.length=i∧s.1.any y5=false) (P:=fun r=>r.length=p.2.2.1.length∧r.any y5=false) ⟨rfl,rfl,rfl⟩ ?_ ?_).mono fun r hr=>by rw[Ok.pure];exact hr
 ·rintro i ⟨l,m⟩ hi ⟨h1,h2,h3⟩
  dsimp only at h1 h2 h3;subst h1;obtain⟨wv,hwv⟩:=zK (xs:=p.2.2.1) (k:=i) hi;have hst:y5 wv=false:=by
   have:=List.any_eq_false.1 hs wv (zLI hwv);simpa using this
  rw[if_pos (by rw[zH,zC];omega),Ok.bind,Ok.Yu hwv]
  have J:∀y:Int,y5 y=false→Ok ((app l [y]).bind fun (zs:List Int)=>Comp.pure (.next (zs,zJ .i64 (i:Int) 1)):Comp (Comp.Step (List Int×Int) (List Int))) (fun t=>match t with|.next s'=>s'.2=((i+1:Nat):Int)∧s'.1.length=i+1∧s'.1.any y5=false|.done r=>r.length=p.2.2.1.length∧r.any y5=false):=fun y hy=>by
   refine vt (by simp;omega) ?_
   rw[Ok.pure];refine⟨zM (by omega),by simp[h2],?_⟩
   dsimp only;rw[List.any_append,h3];simp[hy]
  by_cases hi2:i<w.length
  ·obtain⟨v,hv⟩:=zK (xs:=w) (k:=i) hi2
   have e1:ltI (i:Int) (zF w)=true:=by rw[zH,zC];omega
   rw[e1,Ok.bind];refine Ok.Jr (fun _=>(Ok.Yu hv).2 ?_) fun h=>nomatch h
   rw[Ok.bind];refine Ok.Jr (fun _=>(Ok.yv qO).2 ?_) fun h=>nomatch h
   rw[Ok.bind];have e2:sel true (gtI (v.tmod 5) 0) false=gtI (v.tmod 5) 0:=rfl
   rw[e2];by_cases hg:0<v.tmod 5
   ·have e3:gtI (v.tmod 5) 0=true:=by rw[yd];exact hg
    rw[e3];refine Ok.Jr (fun _=>(Ok.Yu hv).2 ?_) fun h=>nomatch h
    rw[Ok.bind];refine Ok.Jr (fun _=>(Ok.yv qO).2 ?_) fun h=>nomatch h
    rw[vZ];split
    ·rename_i h4
     have h5:v.tmod 5<4:=by
      have:ltI (v.tmod 5) 4=true:=h4;rw[zH]at this;exact this
     rw[Ok.bind,Ok.Yu hv,Ok.bind,Ok.yv qO];refine(J _ ?_).mono fun t ht=>by cases t<;>exact ht
     unfold y5;rw[Bool.or_eq_false_iff,decide_eq_false_iff_not,decide_eq_false_iff_not];omega
    ·exact(J _ hst).mono fun t ht=>by cases t<;>exact ht
   ·have e3:gtI (v.tmod 5) 0=false:=by rw[←Bool.not_eq_true,yd];exact hg
    rw[e3];refine Ok.Jr (fun h=>nomatch h) fun _=>?_
    rw[Ok.bind];refine Ok.Jr (fun h=>nomatch h) fun _=>?_
    rw[vZ,if_neg (by decide)]
    exact(J _ hst).mono fun t ht=>by cases t<;>exact ht
  ·have e1:ltI (i:Int) (zF w)=false:=by rw[←Bool.not_eq_true,zH,zC];omega
   rw[e1,Ok.bind];refine Ok.Jr (fun h=>nomatch h) fun _=>?_
   rw[Ok.bind];refine Ok.Jr (fun h=>nomatch h) fun _=>?_
   rw[Ok.bind];refine Ok.Jr (fun h=>nomatch h) fun _=>?_
   rw[Ok.bind];refine Ok.Jr (fun h=>nomatch h) fun _=>?_
   rw[vZ,if_neg (by decide)]
   exact(J _ hst).mono fun t ht=>by cases t<;>exact ht
 ·rintro⟨l,m⟩ ⟨h1,h2,h3⟩
  dsimp only at h1 h2 h3;subst h1;rw[if_neg (by rw[zH,zC];omega),Ok.pure]
  exact⟨h2,h3⟩
abbrev Ry:=List (List Int)×List Int×Unit
theorem zDH(c:Ry):Ok (gJ c) fun r=>JobOk r.1∧1≤r.1.2.2.1.length∧(r.2.1.length=r.1.1.2.1.length∧r.2.1.any y5=false):=by
 unfold gJ;rw[Ok.bind];refine(Ok.loop (fun s:List (List Int)×Int=>0≤s.2∧s.2≤7∧(s.1.length:Int)≤s.2) (fun s=>(7-s.2).toNat)
  (P:=fun _=>True) ?_ ?_).mono fun R hR=>?_
 ·exact⟨by show (0:Int)≤0;omega,by show (0:Int)≤7;omega,by show ((0:Nat):Int)≤0;omega⟩
 ·rintro⟨l,i⟩ ⟨h1,h2,h3⟩
  dsimp only at h1 h2 h3 ⊢;split
  ·rename_i hc
   obtain⟨c1,c2⟩:=CU hc;rw[zH]at c1 c2;rw[zC]at c1;obtain⟨z,hz⟩:=zK (xs:=c.1) (k:=i.toNat) (by omega)
   rw[Ok.bind,Ok.idx h1 hz,Ok.bind,Ok.idx h1 hz];refine uD ⟨by decide,by rw[kM,zC];omega,by rw[kM,zC];omega⟩ fun ys _=>?_
   refine vt (by simp;omega) ?_
   rw[Ok.pure];dsimp only;rw[yh (m:=i) (n:=1) (by omega)]
   exact⟨⟨by omega,by omega,by rw[zLE,zLG];omega⟩,by omega⟩
  ·rw[Ok.pure];trivial
 ·rw[Ok.bind]
  refine(VX R).mono ?_;rintro⟨j,u⟩ ⟨hj,h1⟩;dsimp only at hj h1 ⊢;refine uD ⟨by decide,by rw[kM,zC];omega,by rw[kM,zC];omega⟩ fun ys hys=>?_
  rw[kM,zC]at hys;have hl:=hj.p.1.1
  have hwl:=hj.p.2.2;rw[Ok.bind];refine(UA (by omega) (u5 hj.v.c).2.1.2 (by omega)).mono ?_
  rintro⟨w,u'⟩ ⟨k1,k2⟩;dsimp only at k1 k2 ⊢;rw[Ok.pure];exact⟨hj,h1,k1.trans hwl,k2⟩
def bls:Nat→List (List Bool)
 |0=>[[]]
 |n+1=>(bls n).map (false::·)++(bls n).map (true::·)
theorem HF:∀ {n:Nat} {l:List Bool},l.length=n→l∈bls n
 |0,[],_=>List.mem_singleton.2 rfl
 |n+1,b::l,h=>by
  have ih:=HF (n:=n) (l:=l) (by simpa using h)
  unfold bls;rw[zLM,List.mem_map,List.mem_map]
  cases b with
  |false=>exact .inl ⟨l,ih,rfl⟩
  |true=>exact .inr ⟨l,ih,rfl⟩
def sbs(n:Nat):List (List Bool):=(bls n).map fun l=>l++List.replicate (8-n) false
theorem GD{n:Nat}{t:List Bool}(h:Bel t n)(hn:n≤8):t∈sbs n:=by
 refine List.mem_map.2 ⟨t.take n,HF (by rw[List.length_take,h.1];omega),?_⟩
 refine List.ext_getElem? fun k=>?_
 by_cases hk:k<n
 ·rw[zLR (by rw[List.length_take,h.1];omega),List.getElem?_take,if_pos hk]
 ·rw[zLS (by rw[List.length_take,h.1];omega),List.length_take,h.1,Nat.min_eq_left hn,List.getElem?_replicate]
  split
  ·have h8:k<8:=by omega
   rw[Xz h.1 h8]
   cases hb:B8 t k with
   |false=>rfl
   |true=>have:=h.2 k hb;omega
  ·rw[List.getElem?_eq_none (by rw[h.1];omega)]
def zEX(j:Job)(t:List Bool):Bool:=((decide (t.length=8) && (List.range 8).all fun k=>!B8 t k || decide (k<j.2.2.1.length)) && (alw j.2.2.1 (bgn j) t && (enq j t).1)) &&
 (sbs j.2.2.1.length).all fun u=>!alw j.2.2.1 (bgn j) u || (decide ((enq j u).2=0) && (!(enq j u).1 || (decide (cst j.2.2.1 (sl t)<cst j.2.2.1 (sl u)) || decide (u=t))))
def zEW(j:Job):Bool:=(sbs j.2.2.1.length).all fun u=>!alw j.2.2.1 (bgn j) u || (decide ((enq j u).2=0) && !(enq j u).1)
theorem QU{j:Job}{l:List Int}{c e:Int}(h:BestR j l c e)(hc:ckJ j=0)(hn:j.2.2.1.length≤8){t:List Bool}(ht:zEX j t=true):l=slI t∧c=cst j.2.2.1 (sl t)∧e=0:=by
 unfold zEX at ht;simp only[zLD,decide_eq_true_eq,List.all_eq_true]at ht;obtain⟨⟨⟨h1,h2⟩,h3,h4⟩,h5⟩:=ht;have hb:Bel t j.2.2.1.length:=⟨h1,fun i hi=>by
  by_cases h8:i<8
  ·have:=h2 i (List.mem_range.2 h8)
   rw[hi]at this;simpa using this
  ·rw[uO h1 (by omega)]at hi;cases hi⟩
 have key:∀u,Bel u j.2.2.1.length→alw j.2.2.1 (bgn j) u=true→(enq j u).2=0∧((enq j u).1=true→cst j.2.2.1 (sl t)<cst j.2.2.1 (sl u)∨u=t):=fun u hu ha=>by
  have:=h5 u (GD hu hn);rw[ha]at this;simp only[Bool.not_true,Bool.false_or,zLD,decide_eq_true_eq]at this;refine⟨this.1,fun hq=>?_⟩
  have h6:=this.2;rw[hq]at h6;simpa using h6
 cases h with
 |bad h=>exact absurd hc h
 |err h h' =>
  obtain⟨g1,u,g2,g3,g4⟩:=h';exact absurd (g4.trans (key u g2 g3).1) g1
 |non h h'=>have:=(h' t hb h3).2;rw[h4]at this;cases this
 |ok h h' =>
  obtain⟨u,g1,g2,g3,g4,g5,g6⟩:=h';have:=(g6 t hb h3).2 h4
  rcases(key u g3 g4).2 g5 with g|g
  ·omega
  ·subst g;exact⟨g1,g2,rfl⟩
theorem VJ{j:Job}{l:List Int}{c e:Int}(h:BestR j l c e)(hc:ckJ j=0)(hn:j.2.2.1.length≤8)(ht:zEW j=true):l=[]∧c=0∧e=60:=by
 unfold zEW at ht;rw[List.all_eq_true]at ht;have key:∀u,Bel u j.2.2.1.length→alw j.2.2.1 (bgn j) u=true→(enq j u).2=0∧(enq j u).1=false:=fun u hu ha=>by
  have:=ht u (GD hu hn);rw[ha]at this;simpa using this
 cases h with
 |bad h=>exact absurd hc h
 |err h h' =>
  obtain⟨g1,u,g2,g3,g4⟩:=h';exact absurd (g4.trans (key u g2 g3).1) g1
 |non h h'=>exact⟨rfl,rfl,rfl⟩
 |ok h h' =>
  obtain⟨u,g1,g2,g3,g4,g5,g6⟩:=h';have:=(key u g3 g4).2
  rw[g5]at this;cases this
def b40(x u:Int):Cell:=[((1,0,0,()),u,()),((-1,0,0,()),-x,()),((0,1,0,()),2,()),((0,-1,0,()),0,()),((0,0,1,()),2,()),((0,0,-1,()),0,())]
def L40:List Eff:=[([b40 2 4],[],3,[],()),([b40 4 6],[],4,[],()),([b40 2 4,b40 4 6],[],9,[],()),([b40 1 6],[],1,[],())]
def p40(w:List Int):Part:=([],[b40 0 2,b40 2 4,b40 4 6],w,())
def x40:zZ:=([false,false,false],[false,false,false],[],())
def j40(w:List Int)(x:zZ):Job:=(p40 w,x,L40,())
theorem wR:y8.val=some (j40 [1,2,2] x40,()):=by
 have h:y8.run 20=some (j40 [1,2,2] x40,()):=by kernel_rfl
 exact Zu h
theorem B6:(zy 2 4).val=some (b40 2 4,()):=by
 have h:(zy 2 4).run 20=some (b40 2 4,()):=by kernel_rfl
 exact Zu h
def s8(a b c d:Bool):List Bool:=[a,b,c,d,false,false,false,false]
theorem zDm:∀x∈L40,SmE x:=fun x hx=>by
 unfold L40 at hx;simp only[zLH,List.not_mem_nil,or_false]at hx;rcases hx with e|e|e|e<;>rw[e]<;>exact⟨by decide,by decide,by decide⟩
theorem zHZ(w:List Int):CpP (p40 w):=⟨by show 3≤1000;omega,fun c hc=>by
 have hc:c∈[b40 0 2,b40 2 4,b40 4 6]:=hc;simp only[zLH,List.not_mem_nil,or_false]at hc;rcases hc with e|e|e<;>rw[e]<;>(show 6≤1000000;omega)⟩
theorem zEm{w:List Int}{x:zZ}(hw:w.length≤1000000):SmB (j40 w x):=⟨⟨by show w.length<_;omega,zDm,by show 4≤1000000;omega⟩,by show 3≤1000;omega⟩
theorem zAk{l:List Int}(hl:l.length≤1000000):(vY l l).val=some (true,()):=by
 refine Ok.val ?_;unfold vY;rw[if_neg (by rw[zf];simp),Ok.bind]
 refine(Ok.count l.length (fun i (x:Int)=>x=(i:Int)) (P:=fun r=>r=.inl ()) rfl ?_ ?_).mono fun r hr=>by rw[hr,Ok.pure]
 ·rintro i x hi rfl
  obtain⟨b,hb⟩:=zK hi;have e:¬neI b b=true:=by rw[zf];simp
  rw[if_pos (by rw[zH,zC];omega),Ok.bind,Ok.Yu hb,Ok.bind,Ok.Yu hb,if_neg e,Ok.pure]
  exact zM (by omega)
 ·rintro x rfl
  rw[if_neg (by rw[zH,zC];omega),Ok.pure]
theorem Xv{w:List Int}{x:zZ}{v:List Int}{c e:Int}{l:List Int}(hw:w.length≤1000000)(hl:l.length≤1000000)(h:∀l' c' e',FateR (j40 w x) l' c' e'→l'=l∧c'=c∧e'=e):(zS (p40 v,x,L40,()) w c e l).val=some (true,()):=by
 refine Ok.val ?_;unfold zS;rw[Ok.bind];refine(Gs (j:=(p40 v,x,L40,())) (zHZ v) hw (zEm hw)).mono ?_;rintro⟨l',c',e',u⟩ hr;obtain⟨rfl,rfl,rfl⟩:=h _ _ _ hr;dsimp only;have e1:eqI e' e'=true:=by rw[yw]
 have e2:eqI c' c'=true:=by rw[yw]
 rw[e1,e2,Ok.bind];show Ok (vY l' l') _
 rw[Ok.yv (zAk hl),Ok.pure];rfl
theorem Kg{w:List Int}{x:zZ}{c e:Int}{l:List Int}(t:List Bool)(hc:ckJ (j40 w x)=0)(hv:vd (p40 w) x=34)(ht:zEX (j40 w x) t=true)(h1:slI t=l)(h2:cst L40 (sl t)=c)(h3:0=e):∀l' c' e',FateR (j40 w x) l' c' e'→l'=l∧c'=c∧e'=e:=fun l' c' e' h=>by
 cases h with
 |bad h=>exact absurd hc h
 | «end» _ h =>
  have h:vd (p40 w) x=35∨vd (p40 w) x=30:=h;rw[hv]at h;rcases h with h|h<;>cases h
 |best _ _ h =>
  obtain⟨g1,g2,g3⟩:=QU h hc (by show 4≤8;omega) ht
  exact⟨g1.trans h1,g2.trans h2,g3.trans h3⟩
theorem N3{w:List Int}{x:zZ}{c e:Int}(hc:ckJ (j40 w x)=0)(hv:vd (p40 w) x=34)(ht:zEW (j40 w x)=true)(h2:0=c)(h3:60=e):∀l' c' e',FateR (j40 w x) l' c' e'→l'=[]∧c'=c∧e'=e:=fun l' c' e' h=>by
 cases h with
 |bad h=>exact absurd hc h
 | «end» _ h =>
  have h:vd (p40 w) x=35∨vd (p40 w) x=30:=h;rw[hv]at h;rcases h with h|h<;>cases h
 |best _ _ h =>
  obtain⟨g1,g2,g3⟩:=VJ h hc (by show 4≤8;omega) ht
  exact⟨g1,g2.trans h2,g3.trans h3⟩
theorem Gp{w:List Int}{x:zZ}{c e:Int}(hc:ckJ (j40 w x)=0)(hv:vd (p40 w) x=35∨vd (p40 w) x=30)(h2:0=c)(h3:vd (p40 w) x=e):∀l' c' e',FateR (j40 w x) l' c' e'→l'=[]∧c'=c∧e'=e:=fun l' c' e' h=>by
 cases h with
 |bad h=>exact absurd hc h
 | «end» _ h=>exact⟨rfl,h2,h3⟩
 |best _ h _ =>
  have h:vd (p40 w) x≠35∧vd (p40 w) x≠30:=h;rcases hv with g|g
  ·exact absurd g h.1
  ·exact absurd g h.2
def c40:zZ:=([false,true,false],[false,true,false],[b40 2 4],())
def t40:zZ:=([false,false,false],[false,true,false],[],())
theorem a1:apl (p40 [1,2,2]) x40 [b40 2 4] []=(c40,0):=by kernel_rfl
theorem a2:apl (p40 [1,2,2]) x40 [] [b40 2 4]=(t40,0):=by kernel_rfl
theorem q1:ckP (p40 [1,3,2])=0:=by decide +kernel
theorem q2:ckP (p40 [1,3])=1:=by decide +kernel
theorem q3:ckP (p40 [1,3,4])=1:=by decide +kernel
theorem m1:msd (p40 [1,2,2]) t40 [1]=(x40,0):=by kernel_rfl
theorem m2:(msd (p40 [1,2,2]) c40 [1]).2=35:=by decide +kernel
theorem m3:(msd (p40 [1,2,2]) x40 [3]).2=1:=by decide +kernel
theorem m4:(msd (p40 [1,2,2]) x40 [1,0]).2=1:=by decide +kernel
theorem f1:(zS (p40 [1,2,2],x40,L40,()) [1,2,2] (Int.ofNat 7) (Int.ofNat 0) [0,1]).val=some (true,()) :=
 Xv (by decide) (by decide) (Kg (s8 true true false false) (by decide +kernel) (by decide +kernel) (by decide +kernel) rfl (by decide) rfl)
theorem f2:(zS (p40 [1,2,2],x40,L40,()) [1,3,2] (Int.ofNat 4) (Int.ofNat 0) [1]).val=some (true,()) :=
 Xv (by decide) (by decide) (Kg (s8 false true false false) (by decide +kernel) (by decide +kernel) (by decide +kernel) rfl (by decide) rfl)
theorem f3:(zS (p40 [1,2,2],x40,L40,()) [3,2,2] (Int.ofNat 1) (Int.ofNat 0) [3]).val=some (true,()) :=
 Xv (by decide) (by decide) (Kg (s8 false false false true) (by decide +kernel) (by decide +kernel) (by decide +kernel) rfl (by decide) rfl)
theorem f4:(zS (p40 [1,2,2],x40,L40,()) [2,2,2] (Int.ofNat 0) (Int.ofNat 60) []).val=some (true,()) :=
 Xv (by decide) (by decide) (N3 (by decide +kernel) (by decide +kernel) (by decide +kernel) rfl rfl)
theorem v35:vd (p40 [1,1,2]) c40=35:=by decide +kernel
theorem v30:vd (p40 [1,1,2]) t40=30:=by decide +kernel
theorem f5:(zS (p40 [1,2,2],c40,L40,()) [1,1,2] (Int.ofNat 0) (Int.ofNat 35) []).val=some (true,()) :=
 Xv (by decide) (by decide) (Gp (by decide +kernel) (.inl v35) rfl v35)
theorem f6:(zS (p40 [1,2,2],t40,L40,()) [1,1,2] (Int.ofNat 0) (Int.ofNat 30) []).val=some (true,()) :=
 Xv (by decide) (by decide) (Gp (by decide +kernel) (.inr v30) rfl v30)
theorem f7:(zS (p40 [1,2,2],x40,L40,()) [1,1,2] (Int.ofNat 4) (Int.ofNat 0) [1]).val=some (true,()) :=
 Xv (by decide) (by decide) (Kg (s8 false true false false) (by decide +kernel) (by decide +kernel) (by decide +kernel) rfl (by decide) rfl)
theorem M9:jJ.val=some (true,()):=by
 unfold jJ;have pv:∀w:List Int,w.length≤1000000→(gK (p40 [1,2,2]) w).val=_:=fun w hw=>tR (zHZ [1,2,2]) hw
 have ep:∀w,nwP (p40 [1,2,2]) w=p40 w:=fun w=>rfl
 have ha:∀ {C T:List Cell},C.length≤100000000→T.length≤100000000→(yQ (p40 [1,2,2]) x40 C T).val=_:=fun hC hT=>tO (by decide) hC hT
 have hm:∀(x:zZ) (l:List Int),l.length≤1000000→(yL (p40 [1,2,2]) x l).val=_:=fun x l hl=>nA (by decide) hl
 rw[zA,wR,zLB];show Comp.val ((gK (p40 [1,2,2]) [1,3,2]).bind _)=_
 rw[zA,pv _ (by decide),zLB,ep,if_pos q1]
 show Comp.val ((gK (p40 [1,2,2]) [1,3]).bind _)=_
 rw[zA,pv _ (by decide),zLB,ep,q2,if_neg (by decide)]
 show Comp.val ((gK (p40 [1,2,2]) [1,3,4]).bind _)=_
 rw[zA,pv _ (by decide),zLB,ep,q3,if_neg (by decide)]
 have hi:(idx ([1,3,2]:List Int) 1).val=some 3:=by
  have h:(idx ([1,3,2]:List Int) 1).run 5=some 3:=by kernel_rfl
  exact Zu h
 show Comp.val ((idx ([1,3,2]:List Int) 1).bind _)=_
 rw[zA,hi,zLB,vZ];show Comp.val ((zS (p40 [1,2,2],x40,L40,()) [1,2,2] (Int.ofNat 7) (Int.ofNat 0) [0,1]).bind _)=_
 rw[zA,f1,zLB,if_pos rfl];show Comp.val ((zS (p40 [1,2,2],x40,L40,()) [1,3,2] (Int.ofNat 4) (Int.ofNat 0) [1]).bind _)=_
 rw[zA,f2,zLB,if_pos rfl];show Comp.val ((zS (p40 [1,2,2],x40,L40,()) [3,2,2] (Int.ofNat 1) (Int.ofNat 0) [3]).bind _)=_
 rw[zA,f3,zLB,if_pos rfl];show Comp.val ((zS (p40 [1,2,2],x40,L40,()) [2,2,2] (Int.ofNat 0) (Int.ofNat 60) []).bind _)=_
 rw[zA,f4,zLB,zA,wR,zLB,zA,wR,zLB,zA,B6,zLB];show Comp.val ((yQ (p40 [1,2,2]) x40 [b40 2 4] []).bind _)=_
 rw[zA,ha (by decide) (by decide),zLB,a1,zA,B6,zLB]
 show Comp.val ((yQ (p40 [1,2,2]) x40 [] [b40 2 4]).bind _)=_
 rw[zA,ha (by decide) (by decide),zLB,a2,vZ]
 show Comp.val ((zS (p40 [1,2,2],c40,L40,()) [1,1,2] (Int.ofNat 0) (Int.ofNat 35) []).bind _)=_
 rw[zA,f5,zLB,if_pos rfl];show Comp.val ((zS (p40 [1,2,2],t40,L40,()) [1,1,2] (Int.ofNat 0) (Int.ofNat 30) []).bind _)=_
 rw[zA,f6,zLB];show Comp.val ((yL (p40 [1,2,2]) t40 [1]).bind _)=_
 rw[zA,hm _ _ (by decide),zLB,m1]
 show Comp.val ((yL (p40 [1,2,2]) c40 [1]).bind _)=_
 rw[zA,hm _ _ (by decide),zLB,m2]
 show Comp.val ((yL (p40 [1,2,2]) x40 [3]).bind _)=_
 rw[zA,hm _ _ (by decide),zLB,m3]
 show Comp.val ((yL (p40 [1,2,2]) x40 [1,0]).bind _)=_
 rw[zA,hm _ _ (by decide),zLB,m4,vZ]
 show Comp.val ((zS (p40 [1,2,2],x40,L40,()) [1,1,2] (Int.ofNat 4) (Int.ofNat 0) [1]).bind _)=_
 rw[zA,f7,zLB];exact Comp.zB _
theorem FateR.is{j:Job}{l:List Int}{c e:Int}(h:FateR j l c e):(e=35→vd j.1 j.2.1=35)∧(e=30→vd j.1 j.2.1=30)∧(e=0∨e=60→ckJ j=0∧(vd j.1 j.2.1≠35∧vd j.1 j.2.1≠30)∧BestR j l c e):=by
 cases h with
 |bad h =>
  obtain⟨g1,g2,g3⟩:=Ht (j:=j);exact⟨fun e=>absurd e g1,fun e=>absurd e g2,fun e=>e.elim (fun e=>absurd e h) fun e=>absurd e g3⟩
 | «end» _ h=>exact⟨id,id,fun e=>by omega⟩
 |best h1 h2 h3=>exact⟨fun e=>absurd e h3.e.1,fun e=>absurd e h3.e.2,fun _=>⟨h1,h2,h3⟩⟩
theorem JobOk.cp{j:Job}(hj:JobOk j):CpP j.1:=⟨by have:=hj.p.1.1;omega,fun c hc=>by have:=(Z4 (G7 hj.v.c c hc)).1;omega⟩
theorem JobOk.smb{j:Job}(hj:JobOk j){x:zZ}{w:List Int}(hw:w.length≤1000000):SmB (nwJ (j.1,x,j.2.2.1,()) w):=⟨⟨by show w.length<_;omega,hj.sm.e,hj.sm.n⟩,hj.cp.l⟩
theorem BN{j:Job}(hn:j.2.2.1.length≤8){l:List Int}(hl:upB j.2.2.1.length (-1) l=true):(Kr j l).val=some (stO l,true,()):=by
 refine Ok.val ?_;have hll:=E1 hl hn
 unfold Kr;rw[Ok.bind];refine(Ok.count l.length (fun i (s:Int×List Bool)=>s.1=(i:Int)∧s.2=m8 fun k=>decide ((k:Int)∈l.take i)) (P:=fun r=>r=.inl (stO l)) ⟨rfl,?_⟩ ?_ ?_).mono fun r hr=>?_
 ·show z8=_
  refine Sy rfl (Zs _) fun k hk=>?_
  rw[uG hk,Rz (g:=fun _=>true),uG hk];simp
 ·rintro i ⟨n,s⟩ hi ⟨h1,h2⟩
  dsimp only at h1 h2;subst h1 h2;obtain⟨k,hk⟩:=zK hi;have hkm:=kL hl k (zLI hk)
  dsimp only;have e1:¬sel (ltI k 0) true (geI k (zF j.2.2.1))=true:=by rw[gm,Bool.or_eq_true,zH,XK,zC];omega
  rw[if_pos (by rw[zH,zC];omega),Ok.bind,Ok.Yu hk,if_neg e1,Ok.ze (jT ⟨by omega,by omega⟩),Ok.pure]
  refine⟨zM (by omega),?_⟩
  dsimp only;have ek:k=((k.toNat:Nat):Int):=by omega
  have ht:l.take (i+1)=l.take i++[k]:=by rw[List.take_add_one,hk];rfl
  rw[ek,ZM];refine Sy (by simp[Zs]) (Zs _) fun q hq=>?_
  rw[KK (Zs _) (by omega),uG hq,uG hq,ht,Bool.eq_iff_iff]
  by_cases h:q=k.toNat
  ·rw[if_pos h]
   simp only[decide_eq_true_eq,true_iff,zLM,List.mem_singleton];exact .inr (by omega)
  ·rw[if_neg h]
   simp only[decide_eq_true_eq,zLM,List.mem_singleton];constructor
   ·exact .inl
   ·rintro(g|g)
    ·exact g
    ·omega
 ·rintro⟨n,s⟩ ⟨h1,h2⟩
  dsimp only at h1 h2;subst h1 h2;dsimp only;rw[if_neg (by rw[zH,zC];omega),Ok.pure,List.take_length];rfl
 ·rw[hr]
  dsimp only;rw[Ok.ze (Yc (by omega)),Mj hl,Ok.pure]
theorem N6{j:Job}(h:SmB j)(hc:ckJ j=0){l:List Int}(hl:upB j.2.2.1.length (-1) l=true):(Y1 j l).val=some ((enq j (stO l)).1,(enq j (stO l)).2,()):=by
 have hj:=h.pl hc;refine Ok.val ?_;unfold Y1;rw[Ok.ze (ZC h.s.w h.s.e)];dsimp only;rw[if_neg (by rw[zf];simp[hc]),Ok.ze (BN hj.n hl)]
 dsimp only;rw[if_neg (by decide)]
 have he:=hj.Ej (sp:=z8) (E8 hj.n hl);rw[Ok.bind,show ([false,false,false,false,false,false,false,false]:List Bool)=z8 from rfl,Ok.yv he,Ok.pure]
theorem MA{j:Job}(h:SmB j)(hc:ckJ j=0){l:List Int}(hl:upB j.2.2.1.length (-1) l=true):(ZF j l).val=some (alw j.2.2.1 (bgn j) (stO l),()):=by
 have hj:=h.pl hc;refine Ok.val ?_;unfold ZF;rw[Ok.ze (ZC h.s.w h.s.e)];dsimp only;rw[if_neg (by rw[zf];simp[hc]),Ok.ze (BN hj.n hl),Ok.bind]
 show Ok (ZZ j) _
 rw[Ok.yv (pZ hj.w hj.cl hj.n hj.sm),Ok.bind];show Ok (vf (j,bgn j,()) (stO l)) _
 rw[Ok.yv (w7 (show (bgn j).length=8 from Zs _) nv hj.n hj.nd hj.ns),Ok.pure];rfl
def pw:Nat→Nat
 |0=>1
 |n+1=>2 * pw n
theorem SO:∀ {a b:Nat},a≤b→pw a≤pw b
 |a,0,h=>by rw[show a=0 by omega];exact zLF _
 |a,b+1,h=>by
  by_cases e:a=b+1
  ·rw[e];exact zLF _
  ·have:=SO (a:=a) (b:=b) (by omega)
   show _≤2 * pw b
   omega
theorem Ag{n:Nat}:∀ {l:List Int} {b:Int},upB n b l=true→(l.length:Int)≤max 0 ((n:Int)-b-1)
 | [],_,_=>by simp;omega
 |k::l,b,h=>by
  unfold upB at h;simp only[zLD,decide_eq_true_eq]at h;have:=Ag h.2
  simp only[zLL];omega
theorem zAZ{n:Nat}{b b':Int}(h:b'≤b):∀ {l:List Int},upB n b l=true→upB n b' l=true
 | [],_=>rfl
 |k::l,hu=>by
  unfold upB at hu ⊢;simp only[zLD,decide_eq_true_eq]at hu ⊢;exact⟨⟨by omega,hu.1.2⟩,hu.2⟩
theorem pI{n:Nat}(hn:n≤8):∀(m a:Nat),n-a<m→a≤n→Ok (gQ m (a:Int) (n:Int)) fun r=>r.1.length≤pw (n-a)∧∀l∈r.1,upB n ((a:Int)-1) l=true
 |0,a,h,_=>by omega
 |m+1,a,h,ha=>by
  show Ok (kI (gQ m) (a:Int) (n:Int)) _
  unfold kI;rw[Ok.bind];refine(Ok.loop (fun s:List (List Int)×Int=>∃i:Nat,s.2=(i:Int)∧(a≤i∧i≤n)∧s.1.length+pw (n-i)≤pw (n-a)+1∧∀l∈s.1,upB n ((a:Int)-1) l=true) (fun s=>((n:Int)-s.2).toNat) (P:=fun r=>r.length≤pw (n-a)∧∀l∈r,upB n ((a:Int)-1) l=true) ⟨a,rfl,⟨zLF _,ha⟩,by show 1+_≤_;omega,fun l hl=>by
   have:l∈([[]]:List (List Int)):=hl;rw[List.mem_singleton.1 this];rfl⟩ ?_).mono fun r hr=>by rw[Ok.pure];exact hr
  rintro⟨out,q⟩ ⟨i,h1,h2,h3,h4⟩;dsimp only at h1 h3 h4;subst h1;dsimp only;by_cases hi:i<n
  ·rw[if_pos (by rw[zH];omega),zM (by omega),Ok.bind]
   refine(pI hn m (i+1) (by omega) (by omega)).mono ?_
   rintro⟨y,u⟩ ⟨g1,g2⟩;dsimp only at g1 g2 ⊢;have hp:pw (n-i)=2 * pw (n-(i+1)):=by rw[show n-i=(n-(i+1))+1 by omega];rfl
   have hp8:pw (n-a)≤256:=SO (a:=n-a) (b:=8) (by omega)
   rw[Ok.bind];refine(Ok.count y.length (fun k (s:List (List Int)×Int)=>s.2=(k:Int)∧s.1.length=out.length+k∧∀l∈s.1,upB n ((a:Int)-1) l=true) (P:=fun r=>r.length=out.length+y.length∧∀l∈r,upB n ((a:Int)-1) l=true) ⟨rfl,rfl,h4⟩ ?_ ?_).mono ?_
   ·rintro k ⟨s,n'⟩ hk ⟨k1,k2,k3⟩
    dsimp only at k1 k2 k3;subst k1;dsimp only;obtain⟨l,hl⟩:=zK hk;have hu:=g2 l (zLI hl)
    have hln:=Ag hu;rw[if_pos (by rw[zH,zC];omega),Ok.bind,Ok.Yu hl]
    refine vt (by simp;omega) ?_
    refine vt (by simp;omega) ?_
    rw[Ok.pure];refine⟨zM (by omega),by simp[k2];omega,fun z hz=>?_⟩
    rcases zLM.1 hz with hz|hz
    ·exact k3 z hz
    ·rw[List.mem_singleton.1 hz]
     show upB n ((a:Int)-1) ((i:Int)::l)=true
     unfold upB;simp only[zLD,decide_eq_true_eq];exact⟨by omega,zAZ (by omega) hu⟩
   ·rintro⟨s,n'⟩ ⟨k1,k2,k3⟩
    dsimp only at k1 k2 k3;subst k1;dsimp only;rw[if_neg (by rw[zH,zC];omega),Ok.pure]
    exact⟨k2,k3⟩
   ·rintro r ⟨k2,k3⟩
    rw[Ok.pure];exact⟨⟨i+1,rfl,by omega,by show r.length+_≤_;omega,k3⟩,by show ((n:Int)-((i+1:Nat):Int)).toNat<_;omega⟩
  ·rw[if_neg (by rw[zH];omega),Ok.pure]
   refine⟨?_,h4⟩;have:n-i=0:=by omega
   rw[this]at h3;have e:pw 0=1:=rfl
   omega
theorem Nr(c:Ry):Ok (jc c) fun r=>r.1=true:=by
 unfold jc;rw[Ok.ze M9,Ok.bind];refine(zDH c).mono ?_;rintro⟨j,w,u⟩ ⟨hj,h1,hw1,hw2⟩;dsimp only at hj h1 hw1 hw2 ⊢;have hn:=hj.n
 have hl:=hj.p.1.1;have hwl:w.length≤1000000:=by omega
 have hck:ckP (nwP j.1 w)=0:=QK hj.v.c hw1 hw2;have hpw:(nwP j.1 w).2.2.1.length<9223372036854775807:=by show w.length<_;omega
 have hsb:SmB (nwJ j w):=hj.smb (x:=j.2.1) hwl;have hv:PcV (nwP j.1 w) j.2.1:=hj.v.want hck
 rw[Ok.bind];refine(Gs (j:=j) hj.cp hwl hsb).mono ?_;rintro⟨set,cost,e,u'⟩ hr;dsimp only at hr ⊢;rw[Ok.ze (tR hj.cp hwl),if_pos hck];dsimp only;rw[if_neg (by decide)]
 refine jR (fun _=>True) (fun j' hj'=>?_) fun _ _=>?_
 ·by_cases he:e=0
  ·obtain⟨hc,⟨h35,h30⟩,hb⟩:=hr.is.2.2 (.inl he)
   rw[he]at hb;have hb:=hb.ok'
   have hsl:set.length≤1000000:=by
    obtain⟨t,rfl,_⟩:=hb;have:=Jj t;omega
   rw[if_pos (by rw[yw];exact he),Ok.ze (AY (j:=j) (p:=nwP j.1 w) hpw hj.sm.e hsl)]
   dsimp only;rw[Ok.bind];by_cases hf:(car (nwP j.1 w) j.2.2.1 j.2.1 set).2=0
   ·rw[hf]
    show Ok (jV (nwP j.1 w) _) _
    rw[Ok.yv (wW hpw),I2 (j:=nwJ j w) hv h35 h30 hb hf,if_neg (by decide)]
    exact hj' () trivial
   ·have e1:eqI (car (nwP j.1 w) j.2.2.1 j.2.1 set).2 0=false:=by rw[←Bool.not_eq_true,yw];exact hf
    rw[e1];show Ok (Comp.pure _) _
    rw[Ok.pure,if_neg (by simp[sel])]
    exact hj' () trivial
  ·rw[if_neg (by rw[yw];exact he)]
   exact hj' () trivial
 ·by_cases he:e=0∨e=60
  ·obtain⟨hc,_,hb⟩:=hr.is.2.2 he
   rw[if_neg (by rw[kX,zLD,zf,zf];omega)]
   show Ok ((gQ 40 ((0:Nat):Int) ((j.2.2.1.length:Nat):Int)).bind _) _
   rw[Ok.bind];refine(pI hn 40 0 (by omega) (Nat.zero_le _)).mono ?_
   rintro⟨y,u2⟩ ⟨g1,g2⟩;dsimp only at g1 g2 ⊢;have hp8:pw (j.2.2.1.length-0)≤256:=SO (a:=j.2.2.1.length-0) (b:=8) (by omega)
   rw[Ok.bind];refine(Ok.count y.length (fun i (s:Int)=>s=(i:Int)) (P:=fun r:Unit⊕Bool=>r=.inl ()) rfl ?_ ?_).mono fun r hr=>by rw[hr,Ok.pure]
   ·rintro i s hi rfl
    obtain⟨l,hlm⟩:=zK hi;have hu:upB j.2.2.1.length (-1) l=true:=g2 l (zLI hlm)
    have hll:=E1 hu hn;rw[if_pos (by rw[zH,zC];omega)]
    refine jR (fun _=>True) (fun j' hj'=>?_) fun _ _=>by rw[Ok.pure];exact zM (by omega)
    rw[Ok.bind,Ok.Yu hlm,Ok.ze (N6 (j:=nwJ j w) hsb hc hu)];dsimp only;rw[Ok.bind];by_cases hq:(enq (nwJ j w) (stO l)).2=0∧(enq (nwJ j w) (stO l)).1=true
    ·rw[hq.1,hq.2]
     show Ok (ZF (nwJ j w) l) _
     rw[Ok.yv (MA (j:=nwJ j w) hsb hc hu)];by_cases ha:alw j.2.2.1 (bgn (nwJ j w)) (stO l)=true
     ·rw[ha,if_neg (by decide),Ok.bind]
      have hbel:=E8 hn hu;have hcs:=(hsb.pl hc).cs
      have hcb:∀m:List Int,(∀k∈m,0≤k∧k<j.2.2.1.length)→0≤(m.map fun k=>(opn j.2.2.1 k).2.2.1).sum∧(m.map fun k=>(opn j.2.2.1 k).2.2.1).sum≤m.length * 1048576:=by
       intro m
       induction m with
       |nil=>intro _;simp
       |cons k m ih =>
        intro hm;have i1:=ih fun q hq=>hm q (by simp[hq])
        have i2:=hm k (by simp)
        have i3:=hcs k.toNat (by show k.toNat<j.2.2.1.length;omega)
        have i3:1≤(opn j.2.2.1 ((k.toNat:Nat):Int)).2.2.1∧(opn j.2.2.1 ((k.toNat:Nat):Int)).2.2.1≤1048576:=i3;rw[show ((k.toNat:Nat):Int)=k by omega]at i3
        rw[List.map_cons,List.sum_cons,zLL];omega
      refine(Ok.count l.length (fun i (s:Int×Int)=>s.2=(i:Int)∧s.1=((l.take i).map fun k=>(opn j.2.2.1 k).2.2.1).sum) (P:=fun r=>r=cst j.2.2.1 (sl (stO l))) ⟨rfl,rfl⟩ ?_ ?_).mono ?_
      ·rintro i ⟨n,q⟩ hi ⟨k1,k2⟩
       dsimp only at k1 k2;subst k1 k2;dsimp only;obtain⟨k,hk⟩:=zK hi;have hkm:=kL hu k (zLI hk)
       have ht:l.take (i+1)=l.take i++[k]:=by rw[List.take_add_one,hk];rfl
       have b1:=hcb (l.take i) fun q hq=>by have:=kL hu q (List.mem_of_mem_take hq);omega
       have b2:=hcb [k] fun q hq=>by rw[List.mem_singleton.1 hq];omega
       have hlt:(l.take i).length≤8:=by rw[List.length_take];omega
       have e1:([k].map fun k=>(opn j.2.2.1 k).2.2.1).sum=(opn j.2.2.1 k).2.2.1:=by simp
       rw[e1]at b2;rw[if_pos (by rw[zH,zC];omega),Ok.bind,Ok.Yu hk,Ok.bind,Ok.yv (Jm ⟨by omega,by omega⟩),Ok.pure]
       refine⟨zM (by omega),?_⟩
       dsimp only;simp only[zLG]at b2;rw[yh (by omega),ht,List.map_append,List.sum_append,e1]
      ·rintro⟨n,q⟩ ⟨k1,k2⟩
       dsimp only at k1 k2;subst k1 k2;dsimp only;rw[if_neg (by rw[zH,zC];omega),Ok.pure,List.take_length]
       have:=UY (L:=j.2.2.1) (t:=stO l);rw[GB hn hu]at this;exact this
      ·rintro r rfl
       have hno:¬sel (eqI e 60) true (ltI (cst j.2.2.1 (sl (stO l))) cost)=true:=by
        rw[gm,Bool.or_eq_true,yw,zH];rintro(h60|hlt)
        ·rw[h60]at hb
         have:=(hb.zGp (stO l) hbel ha).2;rw[hq.2]at this;cases this
        ·rcases he with h0|h60
         ·rw[h0]at hb
          obtain⟨t,_,k2,k3,k4,k5,k6⟩:=hb.ok';have:=(k6 (stO l) hbel ha).2 hq.2
          have k2:cost=cst j.2.2.1 (sl t):=k2;have this:cst j.2.2.1 (sl t)≤cst j.2.2.1 (sl (stO l)):=this
          omega
         ·rw[h60]at hb
          have:=(hb.zGp (stO l) hbel ha).2;rw[hq.2]at this;cases this
       rw[if_neg hno];exact hj' () trivial
     ·rw[Bool.not_eq_true]at ha
      rw[ha,if_pos (by rfl)]
      exact hj' () trivial
    ·have e1:sel (neI (enq (nwJ j w) (stO l)).2 0) true (ntB (enq (nwJ j w) (stO l)).1)=true:=by
      rw[gm,Bool.or_eq_true,zf,yM,Bool.not_eq_true'];by_cases h:(enq (nwJ j w) (stO l)).2=0
      ·refine .inr ?_
       cases h2:(enq (nwJ j w) (stO l)).1 with
       |false=>rfl
       |true=>exact absurd ⟨h,h2⟩ hq
      ·exact .inl h
     rw[e1];show Ok (Comp.pure _) _
     rw[Ok.pure,if_pos (by rfl)]
     exact hj' () trivial
   ·rintro s rfl
    rw[if_neg (by rw[zH,zC];omega),Ok.pure]
  ·rw[if_pos (by rw[kX,zLD,zf,zf];omega),Ok.pure]
end Go.Geo
end
noncomputable section
namespace Go.Dn
open Go Go.Proofs Go.RowKit Go.Eng Go.Lift Go.Den
abbrev prog:Program:=Tryz.prog
theorem mixed:prog.follows .mixedOrders=true:=by kernel_rfl
def t3:Ty:=.int .i64
def t4:Ty:=.bool
def t5:Ty:=.int .u8
def t9:Ty:=.str
def t23:Ty:=.sl t3
def t22:Ty:=.sl t23
def t25:Ty:=.cons t22 (.cons t23 .nil)
def t26:Ty:=.arr 3 t3
def t108:Ty:=.cons t3 (.cons t3 (.cons t3 .nil))
def t110:Ty:=.cons t108 (.cons t3 .nil)
def t101:Ty:=.sl t110
def t28:Ty:=.sl t101
def t30:Ty:=.cons t9 (.cons t28 (.cons t23 .nil))
def t31:Ty:=.sl t4
def t33:Ty:=.cons t31 (.cons t31 (.cons t28 .nil))
def t64:Ty:=.cons t28 (.cons t28 (.cons t3 (.cons t23 .nil)))
def t34:Ty:=.sl t64
def t36:Ty:=.cons t30 (.cons t33 (.cons t34 .nil))
def t41:Ty:=.int .i64
def t165:Ty:=.cons t3 (.cons t3 .nil)
def t79:Ty:=.sl t165
def t114:Ty:=.cons t30 .nil
def t118:Ty:=.mp t41 t4
def t126:Ty:=.cons t30 (.cons t33 .nil)
def t127:Ty:=.fn (.cons t3 .nil) (.cons t4 .nil)
def t128:Ty:=.cons t127 (.cons t41 .nil)
def t129:Ty:=.sl t128
def t131:Ty:=.arr 8 t4
def t135:Ty:=.cons t36 (.cons t131 .nil)
def t167:Ty:=.fn (.cons t3 (.cons t131 .nil)) (.nil)
def t178:Ty:=.cons t23 (.cons t3 .nil)
def t185:Ty:=.fn (.cons t101 .nil) (.cons t4 .nil)
def t199:Ty:=.fn (.cons t3 (.cons t101 .nil)) (.cons t4 .nil)
def t215:Ty:=.fn (.cons t3 (.cons t131 (.cons t131 .nil))) (.nil)
def t218:Ty:=.arr 2 t23
def t223:Ty:=.sl t110
def t228:Ty:=.fn (.cons t110 .nil) (.cons t4 .nil)
def t230:Ty:=.sl t28
def t235:Ty:=.sl t108
def t241:Ty:=.cons t3 (.cons t3 (.cons t3 (.cons t3 .nil)))
def t236:Ty:=.sl t241
def t243:Ty:=.fn (.cons t241 .nil) (.cons t4 .nil)
def zHq:Ty:=.mp t241 t4
def Sr:Ty:=.arr 3 t110
def zGb:Ty:=.fn (.cons t110 (.cons t110 .nil)) (.cons t3 .nil)
def zGa:Ty:=.int .u64
def zDw:Ty:=.arr 2 t3
def zHn:Ty:=.sl zDw
def zGZ:Ty:=.arr 4 t3
theorem eq3:EqT prog 3 t3 1:=uy (z:=.int .i64 0) (sz:=1) (by_:=8) ⟨by kernel_rfl,by kernel_rfl⟩
def i3:TI:=⟨.int .i64,.int .i64 0,1,8,[],t3,1,false⟩
theorem ok3:i3.ok prog 3:=yX ⟨by kernel_rfl,by kernel_rfl⟩ rfl (fun _=>⟨eq3,by decide,fun _=>by kernel_rfl⟩) (yc rfl)
theorem eq4:EqT prog 4 t4 1:=N5 (z:=.bool false) (sz:=1) (by_:=1) ⟨by kernel_rfl,by kernel_rfl⟩
def i4:TI:=⟨.bool,.bool false,1,1,[],t4,1,false⟩
theorem ok4:i4.ok prog 4:=yX ⟨by kernel_rfl,by kernel_rfl⟩ rfl (fun _=>⟨eq4,by decide,fun _=>by kernel_rfl⟩) (yc rfl)
theorem eq5:EqT prog 5 t5 1:=uy (z:=.int .u8 0) (sz:=1) (by_:=1) ⟨by kernel_rfl,by kernel_rfl⟩
def i5:TI:=⟨.int .u8,.int .u8 0,1,1,[],t5,1,false⟩
theorem ok5:i5.ok prog 5:=yX ⟨by kernel_rfl,by kernel_rfl⟩ rfl (fun _=>⟨eq5,by decide,fun _=>by kernel_rfl⟩) (yc rfl)
theorem eq9:EqT prog 9 t9 1:=Vc (z:=.string ⟨#[]⟩) (sz:=1) (by_:=16) ⟨by kernel_rfl,by kernel_rfl⟩
def i9:TI:=⟨.string,.string ⟨#[]⟩,1,16,[],t9,1,false⟩
theorem ok9:i9.ok prog 9:=yX ⟨by kernel_rfl,by kernel_rfl⟩ rfl (fun _=>⟨eq9,by decide,fun _=>by kernel_rfl⟩) (yc rfl)
def i22:=iS 23 t22
theorem zKd:i22.ok prog 22:=Xn ⟨by kernel_rfl,by kernel_rfl⟩
def i23:=iS 3 t23
theorem zKc:i23.ok prog 23:=Xn ⟨by kernel_rfl,by kernel_rfl⟩
def i25:TI:=⟨.struct (prog.fieldsOf 25),.agg #[.slice none 0 0,.slice none 0 0],2,48,[(22,0,0),(23,1,0)],t25,0,false⟩
theorem zKb:i25.ok prog 25:=vm ⟨by kernel_rfl,by kernel_rfl⟩ (⟨⟨by kernel_rfl,by kernel_rfl,by kernel_rfl⟩,⟨⟨by kernel_rfl,by kernel_rfl,by kernel_rfl⟩,trivial⟩⟩) ⟨by kernel_rfl,fun w=>by kernel_rfl⟩ (kb rfl) (yc rfl)
theorem zKl:EqT prog 26 t26 2:=Kx (z:=.agg #[.int .i64 0,.int .i64 0,.int .i64 0]) (sz:=3) (by_:=24) ⟨by kernel_rfl,by kernel_rfl⟩ (dd':=.int .i64) (z':=.int .i64 0) (k:=1) (by_':=8) ⟨by kernel_rfl,by kernel_rfl⟩ rfl rfl eq3
def i26:TI:=⟨.array 3 3,.agg #[.int .i64 0,.int .i64 0,.int .i64 0],3,24,[],t26,2,false⟩
theorem zKa:i26.ok prog 26:=yX ⟨by kernel_rfl,by kernel_rfl⟩ rfl (fun _=>⟨zKl,by decide,fun _=>by kernel_rfl⟩) (yc rfl)
def i28:=iS 101 t28
theorem zKZ:i28.ok prog 28:=Xn ⟨by kernel_rfl,by kernel_rfl⟩
def i30:TI:=⟨.struct (prog.fieldsOf 30),.agg #[.string ⟨#[]⟩,.slice none 0 0,.slice none 0 0],3,64,[(9,0,0),(28,1,0),(23,2,0)],t30,0,false⟩
theorem zKY:i30.ok prog 30:=vm ⟨by kernel_rfl,by kernel_rfl⟩ (⟨⟨by kernel_rfl,by kernel_rfl,by kernel_rfl⟩,⟨⟨by kernel_rfl,by kernel_rfl,by kernel_rfl⟩,⟨⟨by kernel_rfl,by kernel_rfl,by kernel_rfl⟩,trivial⟩⟩⟩) ⟨by kernel_rfl,fun w=>by kernel_rfl⟩ (kb rfl) (yc rfl)
def i31:=iS 4 t31
theorem zKX:i31.ok prog 31:=Xn ⟨by kernel_rfl,by kernel_rfl⟩
def i33:TI:=⟨.struct (prog.fieldsOf 33),.agg #[.slice none 0 0,.slice none 0 0,.slice none 0 0],3,72,[(31,0,0),(31,1,0),(28,2,0)],t33,0,false⟩
theorem zKW:i33.ok prog 33:=vm ⟨by kernel_rfl,by kernel_rfl⟩ (⟨⟨by kernel_rfl,by kernel_rfl,by kernel_rfl⟩,⟨⟨by kernel_rfl,by kernel_rfl,by kernel_rfl⟩,⟨⟨by kernel_rfl,by kernel_rfl,by kernel_rfl⟩,trivial⟩⟩⟩) ⟨by kernel_rfl,fun w=>by kernel_rfl⟩ (kb rfl) (yc rfl)
def i34:=iS 64 t34
theorem zKV:i34.ok prog 34:=Xn ⟨by kernel_rfl,by kernel_rfl⟩
def i36:TI:=⟨.struct (prog.fieldsOf 36),.agg #[.string ⟨#[]⟩,.slice none 0 0,.slice none 0 0,.slice none 0 0,.slice none 0 0,.slice none 0 0,.slice none 0 0],7,160,[(30,0,2),(33,3,2),(34,6,0)],t36,0,false⟩
theorem zKU:i36.ok prog 36:=vm ⟨by kernel_rfl,by kernel_rfl⟩ (⟨⟨by kernel_rfl,by kernel_rfl,by kernel_rfl⟩,⟨⟨by kernel_rfl,by kernel_rfl,by kernel_rfl⟩,⟨⟨by kernel_rfl,by kernel_rfl,by kernel_rfl⟩,trivial⟩⟩⟩) ⟨by kernel_rfl,fun w=>by kernel_rfl⟩ (kb rfl) (yc rfl)
theorem zKk:EqT prog 41 t41 1:=uy (z:=.int .i64 0) (sz:=1) (by_:=8) ⟨by kernel_rfl,by kernel_rfl⟩
def i41:TI:=⟨.int .i64,.int .i64 0,1,8,[],t41,1,true⟩
theorem zKT:i41.ok prog 41:=yX ⟨by kernel_rfl,by kernel_rfl⟩ rfl (fun _=>⟨zKk,by decide,fun _=>by kernel_rfl⟩) (fun _=>KeyB.int (z:=.int .i64 0) (sz:=1) (by_:=8) ⟨by kernel_rfl,by kernel_rfl⟩)
def i64:TI:=⟨.struct (prog.fieldsOf 64),.agg #[.slice none 0 0,.slice none 0 0,.int .i64 0,.slice none 0 0],4,80,[(28,0,0),(28,1,0),(3,2,0),(23,3,0)],t64,0,false⟩
theorem zKS:i64.ok prog 64:=vm ⟨by kernel_rfl,by kernel_rfl⟩ (⟨⟨by kernel_rfl,by kernel_rfl,by kernel_rfl⟩,⟨⟨by kernel_rfl,by kernel_rfl,by kernel_rfl⟩,⟨⟨by kernel_rfl,by kernel_rfl,by kernel_rfl⟩,⟨⟨by kernel_rfl,by kernel_rfl,by kernel_rfl⟩,trivial⟩⟩⟩⟩) ⟨by kernel_rfl,fun w=>by kernel_rfl⟩ (kb rfl) (yc rfl)
def i79:=iS 165 t79
theorem zKR:i79.ok prog 79:=Xn ⟨by kernel_rfl,by kernel_rfl⟩
def zHU:=iS 110 t101
theorem zFy:zHU.ok prog 101:=Xn ⟨by kernel_rfl,by kernel_rfl⟩
theorem zAQ:EqT prog 108 t108 2:=Xa (fs:=prog.fieldsOf 108) (z:=.agg #[.int .i64 0,.int .i64 0,.int .i64 0]) (sz:=3) (by_:=24) ⟨by kernel_rfl,by kernel_rfl⟩ rfl rfl (by kernel_rfl) (Ky (D:=1) (Yg eq3 (Jc _)) (by kernel_rfl))
def zHT:TI:=⟨.struct (prog.fieldsOf 108),.agg #[.int .i64 0,.int .i64 0,.int .i64 0],3,24,[(3,0,0),(3,1,0),(3,2,0)],t108,2,false⟩
theorem zFx:zHT.ok prog 108:=vm ⟨by kernel_rfl,by kernel_rfl⟩ (⟨⟨by kernel_rfl,by kernel_rfl,by kernel_rfl⟩,⟨⟨by kernel_rfl,by kernel_rfl,by kernel_rfl⟩,⟨⟨by kernel_rfl,by kernel_rfl,by kernel_rfl⟩,trivial⟩⟩⟩) ⟨by kernel_rfl,fun w=>by kernel_rfl⟩ (fun _=>⟨zAQ,by decide,fun _=>by kernel_rfl⟩) (yc rfl)
theorem zAP:EqT prog 110 t110 3:=Xa (fs:=prog.fieldsOf 110) (z:=.agg #[.int .i64 0,.int .i64 0,.int .i64 0,.int .i64 0]) (sz:=4) (by_:=32) ⟨by kernel_rfl,by kernel_rfl⟩ rfl rfl (by kernel_rfl) (Ky (D:=2) (Yg eq3 (Yg zAQ (Jc _))) (by kernel_rfl))
def zEQ:TI:=⟨.struct (prog.fieldsOf 110),.agg #[.int .i64 0,.int .i64 0,.int .i64 0,.int .i64 0],4,32,[(108,0,2),(3,3,0)],t110,3,false⟩
theorem zFw:zEQ.ok prog 110:=vm ⟨by kernel_rfl,by kernel_rfl⟩ (⟨⟨by kernel_rfl,by kernel_rfl,by kernel_rfl⟩,⟨⟨by kernel_rfl,by kernel_rfl,by kernel_rfl⟩,trivial⟩⟩) ⟨by kernel_rfl,fun w=>by kernel_rfl⟩ (fun _=>⟨zAP,by decide,fun _=>by kernel_rfl⟩) (yc rfl)
def zHS:TI:=⟨.struct (prog.fieldsOf 114),.agg #[.string ⟨#[]⟩,.slice none 0 0,.slice none 0 0],3,64,[(30,0,2)],t114,0,false⟩
theorem zFv:zHS.ok prog 114:=vm ⟨by kernel_rfl,by kernel_rfl⟩ (⟨⟨by kernel_rfl,by kernel_rfl,by kernel_rfl⟩,trivial⟩) ⟨by kernel_rfl,fun w=>by kernel_rfl⟩ (kb rfl) (yc rfl)
def zHR:TI:=⟨.map 41 4,.map none,1,8,[],t118,0,false⟩
theorem zFu:zHR.ok prog 118:=yX ⟨by kernel_rfl,by kernel_rfl⟩ rfl (kb rfl) (yc rfl)
def zHQ:TI:=⟨.struct (prog.fieldsOf 126),.agg #[.string ⟨#[]⟩,.slice none 0 0,.slice none 0 0,.slice none 0 0,.slice none 0 0,.slice none 0 0],6,136,[(30,0,2),(33,3,2)],t126,0,false⟩
theorem zFt:zHQ.ok prog 126:=vm ⟨by kernel_rfl,by kernel_rfl⟩ (⟨⟨by kernel_rfl,by kernel_rfl,by kernel_rfl⟩,⟨⟨by kernel_rfl,by kernel_rfl,by kernel_rfl⟩,trivial⟩⟩) ⟨by kernel_rfl,fun w=>by kernel_rfl⟩ (kb rfl) (yc rfl)
def i127:TI:=⟨.func #[3] #[4] false,.nilFunc,1,8,[],t127,0,false⟩
theorem zFs:i127.ok prog 127:=yX ⟨by kernel_rfl,by kernel_rfl⟩ rfl (kb rfl) (yc rfl)
def zHP:TI:=⟨.struct (prog.fieldsOf 128),.agg #[.nilFunc,.int .i64 0],2,16,[(127,0,0),(41,1,0)],t128,0,false⟩
theorem zFr:zHP.ok prog 128:=vm ⟨by kernel_rfl,by kernel_rfl⟩ (⟨⟨by kernel_rfl,by kernel_rfl,by kernel_rfl⟩,⟨⟨by kernel_rfl,by kernel_rfl,by kernel_rfl⟩,trivial⟩⟩) ⟨by kernel_rfl,fun w=>by kernel_rfl⟩ (kb rfl) (yc rfl)
def zHO:=iS 128 t129
theorem zFq:zHO.ok prog 129:=Xn ⟨by kernel_rfl,by kernel_rfl⟩
theorem zGL:EqT prog 131 t131 2:=Kx (z:=.agg #[.bool false,.bool false,.bool false,.bool false,.bool false,.bool false,.bool false,.bool false]) (sz:=8) (by_:=8) ⟨by kernel_rfl,by kernel_rfl⟩ (dd':=.bool) (z':=.bool false) (k:=1) (by_':=1) ⟨by kernel_rfl,by kernel_rfl⟩ rfl rfl eq4
def i131:TI:=⟨.array 8 4,.agg #[.bool false,.bool false,.bool false,.bool false,.bool false,.bool false,.bool false,.bool false],8,8,[],t131,2,false⟩
theorem zFp:i131.ok prog 131:=yX ⟨by kernel_rfl,by kernel_rfl⟩ rfl (fun _=>⟨zGL,by decide,fun _=>by kernel_rfl⟩) (yc rfl)
def zHN:TI:=⟨.struct (prog.fieldsOf 135),.agg #[.string ⟨#[]⟩,.slice none 0 0,.slice none 0 0,.slice none 0 0,.slice none 0 0,.slice none 0 0,.slice none 0 0,.bool false,.bool false,.bool false,.bool false,.bool false,.bool false,.bool false,.bool false],15,168,[(36,0,6),(131,7,7)],t135,0,false⟩
theorem zFo:zHN.ok prog 135:=vm ⟨by kernel_rfl,by kernel_rfl⟩ (⟨⟨by kernel_rfl,by kernel_rfl,by kernel_rfl⟩,⟨⟨by kernel_rfl,by kernel_rfl,by kernel_rfl⟩,trivial⟩⟩) ⟨by kernel_rfl,fun w=>by kernel_rfl⟩ (kb rfl) (yc rfl)
theorem zGK:EqT prog 165 t165 2:=Xa (fs:=prog.fieldsOf 165) (z:=.agg #[.int .i64 0,.int .i64 0]) (sz:=2) (by_:=16) ⟨by kernel_rfl,by kernel_rfl⟩ rfl rfl (by kernel_rfl) (Ky (D:=1) (Yg eq3 (Jc _)) (by kernel_rfl))
def zHM:TI:=⟨.struct (prog.fieldsOf 165),.agg #[.int .i64 0,.int .i64 0],2,16,[(3,0,0),(3,1,0)],t165,2,false⟩
theorem zFn:zHM.ok prog 165:=vm ⟨by kernel_rfl,by kernel_rfl⟩ (⟨⟨by kernel_rfl,by kernel_rfl,by kernel_rfl⟩,⟨⟨by kernel_rfl,by kernel_rfl,by kernel_rfl⟩,trivial⟩⟩) ⟨by kernel_rfl,fun w=>by kernel_rfl⟩ (fun _=>⟨zGK,by decide,fun _=>by kernel_rfl⟩) (yc rfl)
def i167:TI:=⟨.func #[3,131] #[] false,.nilFunc,1,8,[],t167,0,false⟩
theorem zFm:i167.ok prog 167:=yX ⟨by kernel_rfl,by kernel_rfl⟩ rfl (kb rfl) (yc rfl)
def zHL:TI:=⟨.struct (prog.fieldsOf 178),.agg #[.slice none 0 0,.int .i64 0],2,32,[(23,0,0),(3,1,0)],t178,0,false⟩
theorem zFl:zHL.ok prog 178:=vm ⟨by kernel_rfl,by kernel_rfl⟩ (⟨⟨by kernel_rfl,by kernel_rfl,by kernel_rfl⟩,⟨⟨by kernel_rfl,by kernel_rfl,by kernel_rfl⟩,trivial⟩⟩) ⟨by kernel_rfl,fun w=>by kernel_rfl⟩ (kb rfl) (yc rfl)
def zHK:TI:=⟨.func #[101] #[4] false,.nilFunc,1,8,[],t185,0,false⟩
theorem zFk:zHK.ok prog 185:=yX ⟨by kernel_rfl,by kernel_rfl⟩ rfl (kb rfl) (yc rfl)
def zHJ:TI:=⟨.func #[3,101] #[4] false,.nilFunc,1,8,[],t199,0,false⟩
theorem zFj:zHJ.ok prog 199:=yX ⟨by kernel_rfl,by kernel_rfl⟩ rfl (kb rfl) (yc rfl)
def zHI:TI:=⟨.func #[3,131,131] #[] false,.nilFunc,1,8,[],t215,0,false⟩
theorem zFi:zHI.ok prog 215:=yX ⟨by kernel_rfl,by kernel_rfl⟩ rfl (kb rfl) (yc rfl)
def i218:TI:=⟨.array 2 23,.agg #[.slice none 0 0,.slice none 0 0],2,48,[],t218,0,false⟩
theorem zFh:i218.ok prog 218:=yX ⟨by kernel_rfl,by kernel_rfl⟩ rfl (kb rfl) (yc rfl)
def zHH:=iS 110 t223
theorem zFg:zHH.ok prog 223:=Xn ⟨by kernel_rfl,by kernel_rfl⟩
def i228:TI:=⟨.func #[110] #[4] false,.nilFunc,1,8,[],t228,0,false⟩
theorem zFf:i228.ok prog 228:=yX ⟨by kernel_rfl,by kernel_rfl⟩ rfl (kb rfl) (yc rfl)
def zHG:=iS 28 t230
theorem zFe:zHG.ok prog 230:=Xn ⟨by kernel_rfl,by kernel_rfl⟩
def zHF:=iS 108 t235
theorem zFd:zHF.ok prog 235:=Xn ⟨by kernel_rfl,by kernel_rfl⟩
def i236:=iS 241 t236
theorem zFc:i236.ok prog 236:=Xn ⟨by kernel_rfl,by kernel_rfl⟩
theorem zAO:EqT prog 241 t241 2:=Xa (fs:=prog.fieldsOf 241) (z:=.agg #[.int .i64 0,.int .i64 0,.int .i64 0,.int .i64 0]) (sz:=4) (by_:=32) ⟨by kernel_rfl,by kernel_rfl⟩ rfl rfl (by kernel_rfl) (Ky (D:=1) (Yg eq3 (Jc _)) (by kernel_rfl))
def zHE:TI:=⟨.struct (prog.fieldsOf 241),.agg #[.int .i64 0,.int .i64 0,.int .i64 0,.int .i64 0],4,32,[(3,0,0),(3,1,0),(3,2,0),(3,3,0)],t241,2,true⟩
theorem zFb:zHE.ok prog 241:=vm ⟨by kernel_rfl,by kernel_rfl⟩ (⟨⟨by kernel_rfl,by kernel_rfl,by kernel_rfl⟩,⟨⟨by kernel_rfl,by kernel_rfl,by kernel_rfl⟩,⟨⟨by kernel_rfl,by kernel_rfl,by kernel_rfl⟩,⟨⟨by kernel_rfl,by kernel_rfl,by kernel_rfl⟩,trivial⟩⟩⟩⟩) ⟨by kernel_rfl,fun w=>by kernel_rfl⟩ (fun _=>⟨zAO,by decide,fun _=>by kernel_rfl⟩) (fun _=>KeyB.agg zAO (by decide) rfl rfl (dd:=.struct (prog.fieldsOf 241)) (z:=.agg #[.int .i64 0,.int .i64 0,.int .i64 0,.int .i64 0]) (sz:=4) (by_:=32) ⟨by kernel_rfl,by kernel_rfl⟩ rfl (fun e x w=>by kernel_rfl))
def zHD:TI:=⟨.func #[241] #[4] false,.nilFunc,1,8,[],t243,0,false⟩
theorem zFa:zHD.ok prog 243:=yX ⟨by kernel_rfl,by kernel_rfl⟩ rfl (kb rfl) (yc rfl)
def zHC:TI:=⟨.map 241 4,.map none,1,8,[],zHq,0,false⟩
theorem zFZ:zHC.ok prog 255:=yX ⟨by kernel_rfl,by kernel_rfl⟩ rfl (kb rfl) (yc rfl)
theorem zGJ:EqT prog 259 Sr 4:=Kx (z:=.agg #[.int .i64 0,.int .i64 0,.int .i64 0,.int .i64 0,.int .i64 0,.int .i64 0,.int .i64 0,.int .i64 0,.int .i64 0,.int .i64 0,.int .i64 0,.int .i64 0]) (sz:=12) (by_:=96) ⟨by kernel_rfl,by kernel_rfl⟩ (dd':=.struct (prog.fieldsOf 110)) (z':=.agg #[.int .i64 0,.int .i64 0,.int .i64 0,.int .i64 0]) (k:=4) (by_':=32) ⟨by kernel_rfl,by kernel_rfl⟩ rfl rfl zAP
def zHB:TI:=⟨.array 3 110,.agg #[.int .i64 0,.int .i64 0,.int .i64 0,.int .i64 0,.int .i64 0,.int .i64 0,.int .i64 0,.int .i64 0,.int .i64 0,.int .i64 0,.int .i64 0,.int .i64 0],12,96,[],Sr,4,false⟩
theorem zFY:zHB.ok prog 259:=yX ⟨by kernel_rfl,by kernel_rfl⟩ rfl (fun _=>⟨zGJ,by decide,fun _=>by kernel_rfl⟩) (yc rfl)
def zHA:TI:=⟨.func #[110,110] #[3] false,.nilFunc,1,8,[],zGb,0,false⟩
theorem zFX:zHA.ok prog 270:=yX ⟨by kernel_rfl,by kernel_rfl⟩ rfl (kb rfl) (yc rfl)
theorem zGI:EqT prog 278 zGa 1:=uy (z:=.int .u64 0) (sz:=1) (by_:=8) ⟨by kernel_rfl,by kernel_rfl⟩
def zGz:TI:=⟨.int .u64,.int .u64 0,1,8,[],zGa,1,false⟩
theorem zFW:zGz.ok prog 278:=yX ⟨by kernel_rfl,by kernel_rfl⟩ rfl (fun _=>⟨zGI,by decide,fun _=>by kernel_rfl⟩) (yc rfl)
theorem zGH:EqT prog 279 zDw 2:=Kx (z:=.agg #[.int .i64 0,.int .i64 0]) (sz:=2) (by_:=16) ⟨by kernel_rfl,by kernel_rfl⟩ (dd':=.int .i64) (z':=.int .i64 0) (k:=1) (by_':=8) ⟨by kernel_rfl,by kernel_rfl⟩ rfl rfl eq3
def zGy:TI:=⟨.array 2 3,.agg #[.int .i64 0,.int .i64 0],2,16,[],zDw,2,false⟩
theorem zFV:zGy.ok prog 279:=yX ⟨by kernel_rfl,by kernel_rfl⟩ rfl (fun _=>⟨zGH,by decide,fun _=>by kernel_rfl⟩) (yc rfl)
def zGx:=iS 279 zHn
theorem zFU:zGx.ok prog 280:=Xn ⟨by kernel_rfl,by kernel_rfl⟩
theorem zGG:EqT prog 281 zGZ 2:=Kx (z:=.agg #[.int .i64 0,.int .i64 0,.int .i64 0,.int .i64 0]) (sz:=4) (by_:=32) ⟨by kernel_rfl,by kernel_rfl⟩ (dd':=.int .i64) (z':=.int .i64 0) (k:=1) (by_':=8) ⟨by kernel_rfl,by kernel_rfl⟩ rfl rfl eq3
def zGw:TI:=⟨.array 4 3,.agg #[.int .i64 0,.int .i64 0,.int .i64 0,.int .i64 0],4,32,[],zGZ,2,false⟩
theorem zFT:zGw.ok prog 281:=yX ⟨by kernel_rfl,by kernel_rfl⟩ rfl (fun _=>⟨zGG,by decide,fun _=>by kernel_rfl⟩) (yc rfl)
def T:TE:=[(3,i3),(4,i4),(5,i5),(9,i9),(22,i22),(23,i23),(25,i25),(26,i26),(28,i28),(30,i30),(31,i31),(33,i33),(34,i34),(36,i36),(41,i41),(64,i64),(79,i79),(101,zHU),(108,zHT),(110,zEQ),(114,zHS),(118,zHR),(126,zHQ),(127,i127),(128,zHP),(129,zHO),(131,i131),(135,zHN),(165,zHM),(167,i167),(178,zHL),(185,zHK),(199,zHJ),(215,zHI),(218,i218),(223,zHH),(228,i228),(230,zHG),(235,zHF),(236,i236),(241,zHE),(243,zHD),(255,zHC),(259,zHB),(270,zHA),(278,zGz),(279,zGy),(280,zGx),(281,zGw)]
theorem zEc:TOk prog T:=zX ok3 (zX ok4 (zX ok5 (zX ok9 (zX zKd (zX zKc (zX zKb (zX zKa (zX zKZ (zX zKY (zX zKX (zX zKW (zX zKV (zX zKU (zX zKT (zX zKS (zX zKR (zX zFy (zX zFx (zX zFw (zX zFv (zX zFu (zX zFt (zX zFs (zX zFr (zX zFq (zX zFp (zX zFo (zX zFn (zX zFm (zX zFl (zX zFk (zX zFj (zX zFi (zX zFh (zX zFg (zX zFf (zX zFe (zX zFd (zX zFc (zX zFb (zX zFa (zX zFZ (zX zFY (zX zFX (zX zFW (zX zFV (zX zFU (zX zFT (UV _)))))))))))))))))))))))))))))))))))))))))))))))))
theorem E0:EK prog T [] [] [] [] [] []:=e0 zEc mixed
end Go.Dn
end
