/- Lemmas behind a claim. -/
import Derived.Test.YtknbpncolbmoaaaGreatKBBestE
import Derived.Test.YtknbpncolbmoaaaGreatProg
import Derived.Calls
import Derived.RunT
import Derived.Shelf.SlSortCmp.NoneTotal
import Derived.Ground.SlsfProg
import Derived.Tactics
import Derived.Tactics2
import Derived.TacticsInMore
set_option linter.unusedSimpArgs false
set_option linter.unusedVariables false
open Go.Lift.Comp (ZV run_pure zA N3 zL YM)
section
namespace Go.Geo
open Go Go.Eng Go.Lift Go.Den Go.F
variable {α β γ δ ε σ τ:Type}
abbrev Part:=yX×List Cell×List Int×Unit
abbrev yF:=List Bool×List Bool×List Cell×Unit
abbrev Eff:=List Cell×List Cell×Int×List Int×Unit
abbrev Job:=Part×yF×List Eff×Unit
def Zq (w:Int):Bool:=decide (w<1) || decide (3<w)
def uP:List Cell→List Cell→Bool
 |_,[]=>true
 |seen,c::l=>ful c && (sap c seen && uP (seen++[c]) l)
def ckP (p:Part):Int :=
 if p.2.1.length=0∨16<p.2.1.length then 2 else if p.2.2.1.length≠p.2.1.length∨p.2.2.1.any Zq=true then 1 else bif uP [] p.2.1 then 0 else 13
def Yh (p:Part) (x:yF):Bool:=(decide (x.1.length=p.2.1.length) && decide (x.2.1.length=p.2.1.length)) && (decide (x.2.2.1.length≤24) && decide (jT x.2.2.1=0))
theorem wC {c:Cell} {s:List Cell}:jT (c::s)=if chk c=0 then jT s else chk c:=rfl
theorem kR {s:List Cell}:jT s=0↔∀c∈s,chk c=0:=by
 induction s with
 |nil=>simp[jT]
 |cons c s ih =>
  unfold jT
  by_cases h:chk c=0
  ·rw[if_pos h,ih]
   constructor
   ·intro h2 d hd
    rcases List.mem_cons.1 hd with rfl|hd
    ·exact h
    ·exact h2 d hd
   ·exact fun h2 d hd=>h2 d (List.mem_cons_of_mem _ hd)
  ·rw[if_neg h]
   exact⟨fun e=>absurd e h,fun h2=>absurd (h2 c (by simp)) h⟩
theorem BS {s t:List Cell}:jT (s++t)=if jT s=0 then jT t else jT s:=by
 induction s with
 |nil=>simp[jT]
 |cons c s ih =>
  rw[List.cons_append,wC,wC]
  by_cases h:chk c=0
  ·rw[if_pos h,if_pos h,ih]
  ·rw[if_neg h,if_neg h,if_neg h]
theorem wj {s:List Cell} (hl:s.length<9223372036854775807):(jO s).val=some (jT s,()):=by
 unfold jO
 obtain⟨r,h1,h2⟩:=uu (s:=s) hl
  (body:=(fun (x:Int)=>if ltI x (zF s)=true then
       (idx s x).bind fun x_1=>(Go.F.vg x_1).bind fun x_2=>if neI x_2.1 0=true then Comp.pure (.done (Sum.inr x_2.1)) else Comp.pure (.next (zI .i64 x 1))
      else Comp.pure (.done (Sum.inl ()))))
  (fun i c hc=>by
   have hlt:=zM hc
   rw[if_pos (by rw[zG,zC];omega),zA,zJ hc,zJl,zA,gy,zJl,zN (by omega)]
   by_cases h:chk c=0
   ·rw[if_neg (by rw[zd];simp[h]),if_pos h,Comp.zB]
   ·rw[if_pos (by rw[zd];exact h),if_neg h,Comp.zB])
  (by rw[if_neg (by rw[zG,zC];omega),Comp.zB])
 rw[zA]
 refine(congrArg (fun o=>Option.bind o _) h2).trans ?_
 rw[zJl,←h1]
 cases r<;>exact Comp.zB _
theorem XW {s:List Cell} (hl:s.length<9223372036854775807):(yU s).val=some (jT s,()):=by
 unfold yU
 obtain⟨r,h1,h2⟩:=uu (s:=s) hl
  (body:=(fun (x:Int)=>if ltI x (zF s)=true then
       (idx s x).bind fun x_1=>(Go.F.zb x_1).bind fun x_2=>if neI x_2.1 0=true then Comp.pure (.done (Sum.inr x_2.1)) else Comp.pure (.next (zI .i64 x 1))
      else Comp.pure (.done (Sum.inl ()))))
  (fun i c hc=>by
   have hlt:=zM hc
   rw[if_pos (by rw[zG,zC];omega),zA,zJ hc,zJl,zA,jz,zJl,zN (by omega)]
   by_cases h:chk c=0
   ·rw[if_neg (by rw[zd];simp[h]),if_pos h,Comp.zB]
   ·rw[if_pos (by rw[zd];exact h),if_neg h,Comp.zB])
  (by rw[if_neg (by rw[zG,zC];omega),Comp.zB])
 rw[zA]
 refine(congrArg (fun o=>Option.bind o _) h2).trans ?_
 rw[zJl,←h1]
 cases r<;>exact Comp.zB _
theorem Es {xs:List α} {k:Nat} (h:k≤xs.length):(sub xs 0 (k:Int)).val=some (xs.take k):=by
 rw[YN (by omega)];simp
theorem Z6 {p:Part} (hw:p.2.2.1.length<9223372036854775807):(kc p).val=some (ckP p,()):=by
 unfold kc ckP
 by_cases h1:p.2.1.length=0∨16<p.2.1.length
 ·rw[if_pos (by rw[gZ,Bool.or_eq_true,y5,yQ,zC];omega),if_pos h1,Comp.zB]
 ·rw[if_neg (by rw[gZ,Bool.or_eq_true,y5,yQ,zC];omega),if_neg h1,zA]
  have hc:(zR p.2.2.1 fun z=>vv z.1).val=some (p.2.2.1.any Zq,()) :=
   kH (xs:=p.2.2.1) (f:=fun z=>vv z.1) (p:=Zq) hw fun w _=>by
    show (vv w).val=_
    unfold vv
    rw[Comp.zB,gZ];rfl
  have hloop:(Comp.loop
        (fun (x:Int)=>if ltI x (zF p.2.1)=true then
          (idx p.2.1 x).bind fun x_1=>(Go.F.kC x_1).bind fun x_2=>(Comp.gd (ntB (ntB x_2.1)) (sub p.2.1 0 x) []).bind fun x_3=>(Comp.gd (ntB (ntB x_2.1)) (Go.F.yA x_1 x_3) (false,())).bind fun x_4=>if sel (ntB x_2.1) true (ntB x_4.1)=true then Comp.pure (.done (Sum.inr 13))
              else Comp.pure (.next (zI .i64 x 1))
         else Comp.pure (.done (Sum.inl ():Unit⊕Int)))
        0).val=some (bif uP [] p.2.1 then .inl () else .inr 13):=by
   have key:∀(ys zs:List Cell),p.2.1=zs++ys→(Comp.loop
        (fun (x:Int)=>if ltI x (zF p.2.1)=true then
          (idx p.2.1 x).bind fun x_1=>(Go.F.kC x_1).bind fun x_2=>(Comp.gd (ntB (ntB x_2.1)) (sub p.2.1 0 x) []).bind fun x_3=>(Comp.gd (ntB (ntB x_2.1)) (Go.F.yA x_1 x_3) (false,())).bind fun x_4=>if sel (ntB x_2.1) true (ntB x_4.1)=true then Comp.pure (.done (Sum.inr 13))
              else Comp.pure (.next (zI .i64 x 1))
         else Comp.pure (.done (Sum.inl ():Unit⊕Int))) (zs.length:Int)).val=some (bif uP zs ys then .inl () else .inr 13):=by
    intro ys
    induction ys with
    |nil =>
     intro zs hx
     rw[zL,if_neg (by rw[zG,zC,hx];simp),Comp.zB];rfl
    |cons y ys ih =>
     intro zs hx
     have hy:p.2.1[zs.length]?=some y:=by rw[hx];simp
     have hlt:=zM hy
     have ht:p.2.1.take zs.length=zs:=by rw[hx];simp
     rw[zL,if_pos (by rw[zG,zC];omega),zA,zJ hy,zJl,zA,Zg,zJl]
     unfold uP
     cases hf:ful y with
     |false =>
      rw[zA]
      show Option.bind (Option.bind (Comp.pure _).val _) _=_
      rw[Comp.zB,zJl,zA]
      show Option.bind (Option.bind (Comp.pure _).val _) _=_
      rw[Comp.zB,zJl,if_pos (by rfl),Comp.zB];rfl
     |true =>
      rw[zA]
      show Option.bind (Option.bind (sub p.2.1 0 (zs.length:Int)).val _) _=_
      rw[Es (by omega),zJl,ht,zA]
      show Option.bind (Option.bind (yA y zs).val _) _=_
      rw[gG y (by omega),zJl]
      cases ha:sap y zs with
      |false=>rw[if_pos (by rfl),Comp.zB];rfl
      |true =>
       rw[if_neg (by simp[sel,ntB]),Comp.zB,zN (by omega),zJl]
       simpa using ih (zs++[y]) (by rw[hx];simp)
   exact key p.2.1 [] rfl
  have htail:∀b:Bool,((Comp.pure (bif b then Sum.inl () else Sum.inr 13):Comp (Unit⊕Int)).bind fun (x:Unit⊕Int)=>match x with
      |Sum.inl x=>(Comp.pure (0,()):Comp (Int×Unit))
      |Sum.inr x=>Comp.pure (x,())).val=some (bif b then 0 else 13,()):=fun b=>by
   cases b<;>(rw[zA,Comp.zB,zJl];exact Comp.zB _)
  by_cases h2:p.2.2.1.length≠p.2.1.length
  ·have e:neI (zF p.2.2.1) (zF p.2.1)=true:=by rw[zd,zC,zC];omega
   rw[e]
   show Option.bind (Comp.pure _).val _=_
   rw[Comp.zB,zJl,if_pos (by rfl),Comp.zB,if_pos (.inl h2)]
  ·have e:neI (zF p.2.2.1) (zF p.2.1)=false:=by unfold neI;rw[decide_eq_false];rw[zC,zC];omega
   rw[e]
   show Option.bind (zR p.2.2.1 fun z=>vv z.1).val _=_
   rw[hc,zJl]
   by_cases h3:p.2.2.1.any Zq=true
   ·rw[if_pos (by rw[h3];rfl),Comp.zB,if_pos (.inr h3)]
   ·rw[if_neg (by simpa[sel] using h3),if_neg (by rintro(h|h);exact h2 h;exact h3 h),zA]
    refine(congrArg (fun o=>Option.bind o _) hloop).trans ?_
    rw[zJl]
    have:=htail (uP [] p.2.1)
    rw[zA,Comp.zB,zJl]at this
    exact this
theorem XA {p:Part} (hw:p.2.2.1.length<9223372036854775807):(gM p).val=some (ckP p,()):=by
 unfold gM ckP
 by_cases h1:p.2.1.length=0∨16<p.2.1.length
 ·rw[if_pos (by rw[gZ,Bool.or_eq_true,zG,yQ,zC];omega),if_pos h1,Comp.zB]
 ·rw[if_neg (by rw[gZ,Bool.or_eq_true,zG,yQ,zC];omega),if_neg h1]
  by_cases h2:p.2.2.1.length≠p.2.1.length
  ·rw[if_pos (by rw[zd,zC,zC];omega),Comp.zB,if_pos (.inl h2)]
  ·rw[if_neg (by rw[zd,zC,zC];omega)]
   have hw1:=ZL p.2.2.1 (fun w=>!Zq w) (c:=(Sum.inr 1:Unit⊕Int)) (d:=Sum.inl ())
    (body:=(fun (x:Int)=>if ltI x (zF p.2.2.1)=true then
         (idx p.2.2.1 x).bind fun x_1=>(Comp.gd (ntB (ltI x_1 1)) (idx p.2.2.1 x) (Int.ofNat 0)).bind fun x_2=>if sel (ltI x_1 1) true (gtI x_2 3)=true then Comp.pure (.done (Sum.inr 1))
           else Comp.pure (.next (zI .i64 x 1))
        else Comp.pure (.done (Sum.inl ()))))
    (fun i w hx=>by
     have hlt:=zM hx
     rw[if_pos (by rw[zG,zC];omega),zA,zJ hx,zJl,zA,N3,zJ hx,zN (by omega)]
     unfold Zq
     by_cases h1:w<1
     ·have:ltI w 1=true:=by rw[zG];exact h1
      simp[this,yb,sel,h1]
     ·have:ltI w 1=false:=by unfold ltI;exact decide_eq_false h1
      by_cases h3:3<w
      ·have h4:gtI w 3=true:=by rw[yQ];exact h3
       simp[this,yb,sel,h1,h3,h4]
      ·have h4:gtI w 3=false:=by unfold gtI;exact decide_eq_false (by omega)
       simp[this,yb,sel,h1,h3,h4])
    (by rw[if_neg (by rw[zG,zC];omega),Comp.zB])
   have hall:(p.2.2.1.all fun w=>!Zq w) = !p.2.2.1.any Zq:=by rw[List.all_eq_not_any_not];simp
   rw[hall]at hw1
   rw[zA]
   refine(congrArg (fun o=>Option.bind o _) hw1).trans ?_
   rw[zJl]
   by_cases h3:p.2.2.1.any Zq=true
   ·rw[h3,if_pos (.inr rfl)]
    exact Comp.zB _
   ·have h3':p.2.2.1.any Zq=false:=by simpa using h3
    rw[h3',if_neg (by rintro(h|h);exact h2 h;cases h)]
    have inner:∀(k:Nat) (c:Cell),p.2.1[k]?=some c→(Comp.loop
                 (fun (x_3:Int)=>if ltI x_3 (k:Int)=true then
                   (idx p.2.1 x_3).bind fun x_4=>(idx p.2.1 (k:Int)).bind fun x=>(Go.F.zf x_4 x).bind fun x=>if ntB x.1=true then Comp.pure (.done (Sum.inr 13))
                      else Comp.pure (.next (zI .i64 x_3 1))
                  else Comp.pure (.done (Sum.inl ():Unit⊕Int)))
                 0).val=some (bif sap c (p.2.1.take k) then .inl () else .inr 13):=by
     intro k c hc
     have hk:=zM hc
     have h5:=ZL (p.2.1.take k) (fun q=>apa c q) (c:=(Sum.inr 13:Unit⊕Int)) (d:=Sum.inl ())
      (body:=(fun (x_3:Int)=>if ltI x_3 (k:Int)=true then
                   (idx p.2.1 x_3).bind fun x_4=>(idx p.2.1 (k:Int)).bind fun x=>(Go.F.zf x_4 x).bind fun x=>if ntB x.1=true then Comp.pure (.done (Sum.inr 13))
                      else Comp.pure (.next (zI .i64 x_3 1))
                  else Comp.pure (.done (Sum.inl ():Unit⊕Int))))
      (fun i q hq=>by
       have hi:=zM hq
       rw[List.length_take]at hi
       have hq':p.2.1[i]?=some q:=by rw[←hq,List.getElem?_take_of_lt (by omega)]
       rw[if_pos (by rw[zG];omega),zA,zJ hq',zJl,zA,zJ hc,zJl,zA,ZU,zJl,yb,qa q c,zN (by omega)]
       cases apa c q<;>exact Comp.zB _)
      (by rw[if_neg (by rw[zG,List.length_take];omega),Comp.zB])
     exact h5
    have key:∀(ys zs:List Cell),p.2.1=zs++ys→(Comp.loop
         (fun (x:Int)=>if ltI x (zF p.2.1)=true then
           (idx p.2.1 x).bind fun x_1=>(Go.F.zu x_1).bind fun x_2=>if ntB x_2.1=true then Comp.pure (.done (Sum.inr 13))
             else
              (Comp.loop
                 (fun (x_3:Int)=>if ltI x_3 x=true then
                   (idx p.2.1 x_3).bind fun x_4=>(idx p.2.1 x).bind fun x=>(Go.F.zf x_4 x).bind fun x=>if ntB x.1=true then Comp.pure (.done (Sum.inr 13))
                      else Comp.pure (.next (zI .i64 x_3 1))
                  else Comp.pure (.done (Sum.inl ())))
                 0).bind fun (x_3:Unit⊕Int)=>match x_3 with
               |Sum.inl x_4=>Comp.pure (.next (zI .i64 x 1))
               |Sum.inr x=>Comp.pure (.done (Sum.inr x))
          else Comp.pure (.done (Sum.inl ():Unit⊕Int))) (zs.length:Int)).val=some (bif uP zs ys then .inl () else .inr 13):=by
     intro ys
     induction ys with
     |nil =>
      intro zs hx
      rw[zL,if_neg (by rw[zG,zC,hx];simp),Comp.zB];rfl
     |cons y ys ih =>
      intro zs hx
      have hy:p.2.1[zs.length]?=some y:=by rw[hx];simp
      have hlt:=zM hy
      have ht:p.2.1.take zs.length=zs:=by rw[hx];simp
      rw[zL,if_pos (by rw[zG,zC];omega),zA,zJ hy,zJl,zA,YU,zJl,yb]
      unfold uP
      cases hf:ful y with
      |false=>rw[if_pos (by simp),Comp.zB];rfl
      |true =>
       rw[if_neg (by simp),zA]
       have h6:=inner zs.length y hy
       rw[ht]at h6
       refine(congrArg (fun o=>Option.bind (Option.bind o _) _) h6).trans ?_
       cases ha:sap y zs with
       |false=>rw[zJl];exact(congrArg (fun o=>Option.bind o _) (Comp.zB _)).trans rfl
       |true =>
        rw[zJl]
        refine(congrArg (fun o=>Option.bind o _) (Comp.zB _)).trans ?_
        rw[zJl,zN (by omega)]
        simpa using ih (zs++[y]) (by rw[hx];simp)
    have h7:=key p.2.1 [] rfl
    show (Comp.bind (Comp.loop _ _) _).val=_
    rw[zA]
    refine(congrArg (fun o=>Option.bind o _) h7).trans ?_
    rw[zJl]
    cases uP [] p.2.1<;>exact Comp.zB _
theorem GY {xs:List α} {ys:List β}:eqI (zF xs) (zF ys)=decide (xs.length=ys.length):=by
 rw[Bool.eq_iff_iff,y5,decide_eq_true_iff,zC,zC];omega
theorem GD {xs:List α} {ys:List β}:neI (zF xs) (zF ys) = !decide (xs.length=ys.length):=by
 rw[Bool.eq_iff_iff,zd,zC,zC];simp<;>omega
theorem Uq {xs:List α} {n:Nat}:leI (zF xs) (n:Int)=decide (xs.length≤n):=by
 rw[Bool.eq_iff_iff,Rl,decide_eq_true_iff,zC];omega
theorem Ut {xs:List α} {n:Nat}:gtI (zF xs) (n:Int) = !decide (xs.length≤n):=by
 rw[Bool.eq_iff_iff,yQ,zC];simp
theorem BZ (p:Part) (x:yF):sel (sel (eqI (zF x.1) (zF p.2.1)) (eqI (zF x.2.1) (zF p.2.1)) false) (leI (zF x.2.2.1) 24) false=((decide (x.1.length=p.2.1.length) && decide (x.2.1.length=p.2.1.length)) && decide (x.2.2.1.length≤24)):=by
 rw[Yj,Yj,GY,GY,show (24:Int)=((24:Nat):Int) from rfl,Uq]
theorem qT (p:Part) (x:yF):Yh p x=(((decide (x.1.length=p.2.1.length) && decide (x.2.1.length=p.2.1.length)) && decide (x.2.2.1.length≤24)) && decide (jT x.2.2.1=0)):=by
 unfold Yh;rw[Bool.and_assoc (decide (x.1.length=p.2.1.length) && decide (x.2.1.length=p.2.1.length))]
theorem rI (p:Part) (x:yF):(JT p x).val=some (Yh p x,()):=by
 unfold JT
 rw[BZ,qT,zA]
 cases hb:((decide (x.1.length=p.2.1.length) && decide (x.2.1.length=p.2.1.length)) && decide (x.2.2.1.length≤24)) with
 |false =>
  show Option.bind (Comp.pure _).val _=_
  rw[Comp.zB,zJl,Comp.zB];rfl
 |true =>
  have hl:x.2.2.1.length≤24:=by
   rw[zJn]at hb;simpa using hb.2
  have h1:(zK x.2.2.1 fun z=>jI z.1).val=some (x.2.2.1.any fun c=>decide (chk c≠0),()) :=
   kH (xs:=x.2.2.1) (f:=fun z=>jI z.1) (p:=fun c=>decide (chk c≠0)) (by omega) fun c _=>by
    show (jI c).val=_
    unfold jI
    rw[zA,gy,zJl,Comp.zB];rfl
  show Option.bind (zK x.2.2.1 fun z=>jI z.1).val _=_
  rw[h1,zJl,Comp.zB,Yj,Bool.true_and,Bool.true_and,yb]
  congr 2
  by_cases h:jT x.2.2.1=0
  ·rw[decide_eq_true h]
   have:=kR.1 h
   rw[Bool.not_eq_true',List.any_eq_false]
   intro c hc;simp[this c hc]
  ·rw[decide_eq_false h]
   simp only[Bool.not_eq_false',List.any_eq_true]
   rw[kR]at h
   simp only[Classical.not_forall]at h
   obtain⟨c,hc,h2⟩:=h
   exact⟨c,hc,by simpa using h2⟩
theorem rX (p:Part) (x:yF):(gj p x).val=some (Yh p x,()):=by
 unfold gj
 rw[BZ,qT,zA]
 cases hb:((decide (x.1.length=p.2.1.length) && decide (x.2.1.length=p.2.1.length)) && decide (x.2.2.1.length≤24)) with
 |false =>
  show Option.bind (Comp.pure _).val _=_
  rw[Comp.zB,zJl,Comp.zB];rfl
 |true =>
  have hl:x.2.2.1.length≤24:=by
   rw[zJn]at hb;simpa using hb.2
  show Option.bind (yU x.2.2.1).val _=_
  rw[XW (by omega),zJl,Comp.zB];rfl
def fit (p:Part) (x:yF):Int:=if ckP p=0 then bif Yh p x then 0 else 4 else ckP p
theorem Y9 {p:Part} {x:yF} (hw:p.2.2.1.length<9223372036854775807):(ky p x).val=some (fit p x,()):=by
 unfold ky fit
 rw[zA,Z6 hw,zJl]
 by_cases h:ckP p=0
 ·rw[if_neg (by rw[zd];simp[h]),if_pos h,zA,qT]
  have e:sel (sel (neI (zF x.1) (zF p.2.1)) true (neI (zF x.2.1) (zF p.2.1))) true (gtI (zF x.2.2.1) 24) = !((decide (x.1.length=p.2.1.length) && decide (x.2.1.length=p.2.1.length)) && decide (x.2.2.1.length≤24)):=by
   rw[gZ,gZ,Bool.not_and,Bool.not_and,GD,GD,show (24:Int)=((24:Nat):Int) from rfl,Ut]
  rw[e]
  cases hb:((decide (x.1.length=p.2.1.length) && decide (x.2.1.length=p.2.1.length)) && decide (x.2.2.1.length≤24)) with
  |false =>
   show Option.bind (Comp.pure _).val _=_
   rw[Comp.zB,zJl,if_pos (by rfl),Comp.zB];rfl
  |true =>
   have hl:x.2.2.1.length≤24:=by
    rw[zJn]at hb;simpa using hb.2
   show Option.bind (jO x.2.2.1).val _=_
   rw[wj (by omega),zJl]
   by_cases h2:jT x.2.2.1=0
   ·rw[if_neg (by show ¬(neI (jT x.2.2.1) 0)=true;rw[zd];simp[h2]),Comp.zB,decide_eq_true h2];rfl
   ·rw[if_pos (by show (neI (jT x.2.2.1) 0)=true;rw[zd];exact h2),Comp.zB,decide_eq_false h2];rfl
 ·rw[if_pos (by rw[zd];exact h),if_neg h,Comp.zB]
theorem DY {s:List Cell} (hl:s.length≤1000000) (hc:∀c∈s,c.length≤1000000):(YE s).val=some (s,()):=by
 unfold YE
 have h1:=jV s.length (fun k l=>match s[k]? with|some c=>l++[c]|none=>l) (fun k l=>l++s.drop k) (fun l k=>l.length=k)
  (body:=(fun (x:List (List (Pln))×Int)=>if ltI x.2 (zF s)=true then
       (idx s x.2).bind fun x_1=>(Go.F.za x_1).bind fun y=>(app x.1 [y.1]).bind fun zs=>Comp.pure (Comp.Step.next (zs,zI .i64 x.2 1))
      else Comp.pure (Comp.Step.done x.1)))
  (fun l k hk hI=>by
   obtain⟨c,hc'⟩:=zQ (xs:=s) (k:=k) hk
   have hcl:(za c).val=some (c,()):=Jh (by have:=hc c (List.mem_of_getElem? hc');unfold LIM;omega)
   refine⟨?_,by rw[hc'];simp[hI],by rw[drop_cons hc',hc'];simp⟩
   rw[hc']
   simp only
   rw[if_pos (by rw[zG,zC];show (k:Int)<_;omega),zA,zJ hc',zJl,zA,hcl,zJl,zA,zr (by simp only[zJq];unfold LIM;omega),zJl,Comp.zB,zN (by omega)])
  (fun l=>by rw[if_neg (by rw[zG,zC];simp),Comp.zB]) (fun l=>by rw[List.drop_length];simp) 0 [] (Nat.zero_le _) rfl
 rw[zA]
 refine(congrArg (fun o=>Option.bind o _) h1).trans ?_
 rw[zJl,Comp.zB];simp
theorem rf {s:List Cell} (hl:s.length≤1000000) (hc:∀c∈s,c.length≤1000000):(gk s).val=some (s,()):=by
 unfold gk
 have h1:=jV s.length (fun k l=>match s[k]? with|some c=>l++[c]|none=>l) (fun k l=>l++s.drop k) (fun l k=>l.length=k)
  (body:=(fun (x:List (List (Pln))×Int)=>if ltI x.2 (zF s)=true then
       (idx s x.2).bind fun x_1=>(app [] x_1).bind fun zs=>(app x.1 [zs]).bind fun zs=>Comp.pure (Comp.Step.next (zs,zI .i64 x.2 1))
      else Comp.pure (Comp.Step.done x.1)))
  (fun l k hk hI=>by
   obtain⟨c,hc'⟩:=zQ (xs:=s) (k:=k) hk
   have hcl:=hc c (List.mem_of_getElem? hc')
   refine⟨?_,by rw[hc'];simp[hI],by rw[drop_cons hc',hc'];simp⟩
   rw[hc']
   simp only
   rw[if_pos (by rw[zG,zC];show (k:Int)<_;omega),zA,zJ hc',zJl,zA,zr (by simp;unfold LIM;omega),zJl,zA,zr (by simp only[zJq];unfold LIM;omega),zJl,Comp.zB,zN (by omega),List.nil_append])
  (fun l=>by rw[if_neg (by rw[zG,zC];simp),Comp.zB]) (fun l=>by rw[List.drop_length];simp) 0 [] (Nat.zero_le _) rfl
 rw[zA]
 refine(congrArg (fun o=>Option.bind o _) h1).trans ?_
 rw[zJl,Comp.zB];simp
def nr (s:List Cell) (c:Cell):List Cell:=s.filter fun z=>!apa z c
theorem Mz {s:List Cell} (c:Cell) (hl:s.length≤1000000):(yf s fun z=>vP z.1 z.2.1 c).val=some (nr s c,()):=by
 unfold yf
 have h1:=jV s.length (fun k l=>match s[k]? with|some z=>if (!apa z c)=true then l++[z] else l|none=>l) (fun k l=>l++nr (s.drop k) c) (fun l k=>l.length≤k)
  (body:=(fun (x:List (List (Pln))×Int)=>if ltI x.2 (zF s)=true then
       (idx s x.2).bind fun x_1=>((fun (z:Int×List Pln×Unit)=>vP z.1 z.2.1 c) (x.2,x_1,())).bind fun x_2=>jn (fun (x_3:List (List (Pln)))=>Comp.pure (Comp.Step.next (x_3,zI .i64 x.2 1)))
          fun (j :
            List (List (Pln))→Comp
              (Comp.Step (List (List (Pln))×Int) (List (List (Pln))))) =>
          if x_2.1=true then (app x.1 [x_1]).bind fun zs=>j zs else j x.1
      else Comp.pure (Comp.Step.done x.1)))
  (fun l k hk hI=>by
   obtain⟨z,hz⟩:=zQ (xs:=s) (k:=k) hk
   have hf:(vP (k:Int) z c).val=some (!apa z c,()):=by
    unfold vP
    rw[zA,gz,zJl,Comp.zB];rfl
   refine⟨?_,?_,?_⟩
   ·rw[hz]
    simp only
    rw[if_pos (by rw[zG,zC];show (k:Int)<_;omega),zA,zJ hz,zJl,zA,hf,zJl,vi]
    by_cases h:(!apa z c)=true
    ·rw[if_pos h,if_pos h,zA,zr (by simp only[zJq];unfold LIM;omega),zJl,Comp.zB,zN (by omega)]
    ·rw[if_neg h,if_neg h,Comp.zB,zN (by omega)]
   ·rw[hz]
    simp only
    split<;>first|omega|(simp;omega)
   ·rw[drop_cons hz,hz]
    unfold nr
    by_cases h:(!apa z c)=true
    ·show _=(if (!apa z c)=true then l++[z] else l)++_
     rw[if_pos h,List.filter_cons,if_pos h];simp
    ·show _=(if (!apa z c)=true then l++[z] else l)++_
     rw[if_neg h,List.filter_cons,if_neg h])
  (fun l=>by rw[if_neg (by rw[zG,zC];simp),Comp.zB]) (fun l=>by rw[List.drop_length];simp[nr]) 0 [] (Nat.zero_le _) (by simp)
 rw[zA]
 refine(congrArg (fun o=>Option.bind o _) h1).trans ?_
 rw[zJl,Comp.zB];simp
theorem C6 {s:List Cell} (c:Cell) (hl:s.length≤1000000):(vQ s c).val=some (nr s c,()):=by
 unfold vQ
 have h1:=jV s.length (fun k l=>match s[k]? with|some z=>if (!apa z c)=true then l++[z] else l|none=>l) (fun k l=>l++nr (s.drop k) c) (fun l k=>l.length≤k)
  (body:=(fun (x:List (List (Pln))×Int)=>if ltI x.2 (zF s)=true then
       (idx s x.2).bind fun x_1=>(Go.F.zf x_1 c).bind fun x_2=>jn (fun (x_3:List (List (Pln)))=>Comp.pure (Comp.Step.next (x_3,zI .i64 x.2 1)))
          fun (j :
            List (List (Pln))→Comp
              (Comp.Step (List (List (Pln))×Int) (List (List (Pln))))) =>
          if ntB x_2.1=true then
           (idx s x.2).bind fun x_3=>(app x.1 [x_3]).bind fun zs=>j zs
          else j x.1
      else Comp.pure (Comp.Step.done x.1)))
  (fun l k hk hI=>by
   obtain⟨z,hz⟩:=zQ (xs:=s) (k:=k) hk
   refine⟨?_,?_,?_⟩
   ·rw[hz]
    simp only
    rw[if_pos (by rw[zG,zC];show (k:Int)<_;omega),zA,zJ hz,zJl,zA,ZU,zJl,vi,yb]
    by_cases h:(!apa z c)=true
    ·rw[if_pos h,if_pos h,zA,zJ hz,zJl,zA,zr (by simp only[zJq];unfold LIM;omega),zJl,Comp.zB,zN (by omega)]
    ·rw[if_neg h,if_neg h,Comp.zB,zN (by omega)]
   ·rw[hz]
    simp only
    split<;>first|omega|(simp;omega)
   ·rw[drop_cons hz,hz]
    unfold nr
    by_cases h:(!apa z c)=true
    ·show _=(if (!apa z c)=true then l++[z] else l)++_
     rw[if_pos h,List.filter_cons,if_pos h];simp
    ·show _=(if (!apa z c)=true then l++[z] else l)++_
     rw[if_neg h,List.filter_cons,if_neg h])
  (fun l=>by rw[if_neg (by rw[zG,zC];simp),Comp.zB]) (fun l=>by rw[List.drop_length];simp[nr]) 0 [] (Nat.zero_le _) (by simp)
 rw[zA]
 refine(congrArg (fun o=>Option.bind o _) h1).trans ?_
 rw[zJl,Comp.zB];simp
def sur (all:List Cell) (c:Cell) (s:Bool):Bool:=bif s then true else (cov (nr all c) c).1
def tch (cuts touches:List Cell) (c:Cell) (t:Bool):Bool:=(t || !sap c cuts) || !sap c touches
def apE (all:List Cell):List Cell→List Bool→Int
 |c::C,s::S=>bif s then apE all C S else if (cov (nr all c) c).2=0 then apE all C S else (cov (nr all c) c).2
 |_,_=>0
def apS (all:List Cell) (C:List Cell) (S:List Bool):List Bool:=List.zipWith (sur all) C S
def apT (cuts touches:List Cell) (C:List Cell) (T:List Bool):List Bool:=List.zipWith (tch cuts touches) C T
def zP:yF:=([],[],[],())
def apl (p:Part) (x:yF) (cuts touches:List Cell):yF×Int :=
 if fit p x=0 then if jT (cuts++touches)=0 then if 24<x.2.2.1.length+cuts.length then (zP,2)
  else if apE (x.2.2.1++cuts) p.2.1 x.1=0 then ((apS (x.2.2.1++cuts) p.2.1 x.1,apT cuts touches p.2.1 x.2.1,x.2.2.1++cuts,()),0) else (zP,apE (x.2.2.1++cuts) p.2.1 x.1)
  else (zP,jT (cuts++touches)) else (zP,fit p x)
theorem Ep {t a b:Bool} {A B:Comp (Bool×Unit)} (hA:A.val=some (a,())) (hB:B.val=some (b,())) (K:Bool→Comp β) :
  ((Comp.gd (ntB t) A (false,())).bind fun x6=>(Comp.gd (ntB (sel t true (ntB x6.1))) B (false,())).bind fun x7=>K (sel (sel t true (ntB x6.1)) true (ntB x7.1))).val=(K ((t || !a) || !b)).val:=by
 rw[zA]
 cases t with
 |true =>
  show Option.bind (Comp.pure _).val _=_
  rw[Comp.zB,zJl,zA]
  show Option.bind (Comp.pure _).val _=_
  rw[Comp.zB,zJl];rfl
 |false =>
  show Option.bind A.val _=_
  rw[hA,zJl,zA]
  cases a with
  |false =>
   show Option.bind (Comp.pure _).val _=_
   rw[Comp.zB,zJl];rfl
  |true =>
   show Option.bind B.val _=_
   rw[hB,zJl];rfl
theorem take_set {l m:List α} {k:Nat} {v:α} (hv:l[k]?=some v) (hm:k<m.length) (hl:l.length=m.length):(l.take k++m.drop k).set k v=l.take (k+1)++m.drop (k+1):=by
 have hk:(l.take k).length=k:=by rw[List.length_take];omega
 rw[List.set_append,if_neg (by omega),hk,Nat.sub_self,List.take_add_one,hv,List.drop_eq_getElem_cons hm,List.set_cons_zero,List.append_assoc]
 rfl
theorem GG {l m:List α} {k:Nat} (hl:l.length=m.length) (hm:k<m.length):(l.take k++m.drop k)[k]?=m[k]?:=by
 have hk:(l.take k).length=k:=by rw[List.length_take];omega
 rw[List.getElem?_append_right (by omega),hk,Nat.sub_self,List.getElem?_drop];simp
theorem GF {l m:List α} {k:Nat} (hl:l.length=m.length) (hm:k≤m.length):(l.take k++m.drop k).length=m.length:=by
 rw[zJo,List.length_take,List.length_drop];omega
theorem NL {l m:List α} {k:Nat} {v:α} (hv:l[k]?=some v) (hmv:m[k]?=some v) (hl:l.length=m.length):l.take k++m.drop k=l.take (k+1)++m.drop (k+1):=by
 rw[List.take_add_one,hv,drop_cons hmv];simp
theorem uQ {f:α→β→γ} {l:List α} {m:List β} {k:Nat} {a:α} {b:β} (h1:l[k]?=some a) (h2:m[k]?=some b):(List.zipWith f l m)[k]?=some (f a b):=by
 rw[List.getElem?_zipWith,h1,h2]
theorem Il {p:Part} {x:yF} {cuts touches:List Cell} (hw:p.2.2.1.length<9223372036854775807) (hcl:cuts.length≤100000000) (htl:touches.length≤100000000):(Yr p x cuts touches).val=some ((apl p x cuts touches).1,(apl p x cuts touches).2,()):=by
 unfold Yr apl
 rw[zA,Y9 hw,zJl]
 by_cases hf:fit p x=0
 ·rw[if_neg (by rw[zd];simp[hf]),if_pos hf]
  have hck:ckP p=0:=by
   unfold fit at hf
   split at hf
   ·assumption
   ·exact hf
  have hfb:Yh p x=true:=by
   unfold fit at hf
   rw[if_pos hck]at hf
   cases h:Yh p x with
   |true=>rfl
   |false=>rw[h]at hf;cases hf
  unfold Yh at hfb
  simp only[zJn,decide_eq_true_eq]at hfb
  obtain⟨⟨f1,f2⟩,f3,f4⟩:=hfb
  have hn:p.2.1.length≤16:=by
   unfold ckP at hck
   split at hck
   ·cases hck
   ·rename_i h;omega
  have hcat:(zX [cuts,touches]).val=some (cuts++touches,()):=by
   have:=Kp (z:=([]:Cell)) (xs:=[cuts,touches]) (by simp;unfold LIM;omega) (by simp)
   simp only[List.flatten_cons,List.flatten_nil,List.append_nil]at this
   exact this
  rw[zA,hcat,zJl,zA,wj (by simp;omega),zJl]
  by_cases he:jT (cuts++touches)=0
  ·rw[if_neg (by rw[zd];simp[he]),if_pos he]
   have hadd:zI .i64 (zF x.2.2.1) (zF cuts)=((x.2.2.1.length+cuts.length:Nat):Int):=by rw[zC,zC,vJ (by omega)];omega
   by_cases h24:24<x.2.2.1.length+cuts.length
   ·rw[if_pos (by rw[yQ,hadd];omega),if_pos h24,Comp.zB];rfl
   ·rw[if_neg (by rw[yQ,hadd];omega),if_neg h24]
    have hcell:∀c∈x.2.2.1++cuts,c.length≤1000000:=by
     intro c hc
     have:chk c=0:=by
      rcases List.mem_append.1 hc with h|h
      ·exact kR.1 f4 c h
      ·exact kR.1 he c (List.mem_append_left _ h)
     have:=(XH this).1;omega
    have hcat2:(zX [x.2.2.1,cuts]).val=some (x.2.2.1++cuts,()):=by
     have:=Kp (z:=([]:Cell)) (xs:=[x.2.2.1,cuts]) (by simp;unfold LIM;omega) (by simp)
     simp only[List.flatten_cons,List.flatten_nil,List.append_nil]at this
     exact this
    have hc1:(yj x.1).val=some (x.1,()):=Jh (by unfold LIM;omega)
    have hc2:(yj x.2.1).val=some (x.2.1,()):=Jh (by unfold LIM;omega)
    rw[zA,hc1,zJl,zA,hc2,zJl,zA,hcat2,zJl,zA,DY (by simp;omega) hcell,zJl]
    simp only
    generalize hall:x.2.2.1++cuts=all
    have hal:all.length≤24:=by rw[←hall];simp;omega
    have hSl:(apS all p.2.1 x.1).length=x.1.length:=by unfold apS;rw[List.length_zipWith];omega
    have hTl:(apT cuts touches p.2.1 x.2.1).length=x.2.1.length:=by unfold apT;rw[List.length_zipWith];omega
    have key:∀(m k:Nat),k+m=p.2.1.length→(Comp.loop
              (fun (x_3 :
                 Int×(List Bool×List Bool×List (List (Pln))×Unit)×List Bool×List Bool×List (List (Pln))×Unit) =>
               if ltI x_3.1 (zF p.2.1)=true then
                jn
                 (fun (x :
                    (List Bool×List Bool×List (List (Pln))×Unit)×List Bool×List Bool×List (List (Pln))×Unit) =>
                  Comp.pure (Comp.Step.next (zI .i64 x_3.1 1,x.1,x.2.1,x.2.2.1,x.2.2.2.1,())))
                 fun (j :
                   (List Bool×List Bool×List (List (Pln))×Unit)×List Bool×List Bool×List (List (Pln))×Unit→Comp
                     (Comp.Step
                      (Int×(List Bool×List Bool×List (List (Pln))×Unit)×List Bool×List Bool×List (List (Pln))×Unit)
                      ((List Bool×List Bool×List (List (Pln))×Unit)×List Bool×List Bool×List (List (Pln))×Unit ⊕
                       Int×List Bool×List Bool×List (List (Pln))×Unit))) =>
                 (idx p.2.1 x_3.1).bind fun x_4=>(idx x_3.2.2.2.1 x_3.1).bind fun x_5=>(Comp.gd (ntB x_5) (Go.F.yA x_4 cuts) (false,())).bind fun x_6=>(Comp.gd (ntB (sel x_5 true (ntB x_6.1))) (Go.F.yA x_4 touches) (false,())).bind fun x_7=>(inb x_3.2.2.2.1.length x_3.1).bind fun x_8=>(idx x_3.2.2.1 x_3.1).bind fun x_9=>if x_9=true then
                        j
                         (x_3.2.1,x_3.2.2.1,jJ x_3.2.2.2.1 x_3.1 (sel (sel x_5 true (ntB x_6.1)) true (ntB x_7.1)),x_3.2.2.2.2.1,
                          ())
                       else
                        (Go.F.yf x_3.2.2.2.2.1 fun (z:Int×List (Pln)×Unit)=>Go.F.vP z.1 z.2.1 x_4).bind fun y=>(Go.F.gP y.1 x_4).bind fun x=>if neI x.2.1 0=true then Comp.pure (Comp.Step.done (Sum.inr (x.2.1,[],[],[],())))
                          else
                           (inb x_3.2.2.1.length x_3.1).bind fun x_10=>j
                             (x_3.2.1,jJ x_3.2.2.1 x_3.1 x.1,
                              jJ x_3.2.2.2.1 x_3.1 (sel (sel x_5 true (ntB x_6.1)) true (ntB x_7.1)),x_3.2.2.2.2.1,())
               else Comp.pure (Comp.Step.done (Sum.inl (x_3.2.1,x_3.2.2.1,x_3.2.2.2.1,x_3.2.2.2.2.1,()))))
              ((k:Int),zP,(apS all p.2.1 x.1).take k++x.1.drop k,(apT cuts touches p.2.1 x.2.1).take k++x.2.1.drop k,all,())).val =
      some (if apE all (p.2.1.drop k) (x.1.drop k)=0 then .inl (zP,apS all p.2.1 x.1,apT cuts touches p.2.1 x.2.1,all,()) else .inr (apE all (p.2.1.drop k) (x.1.drop k),zP)):=by
     intro m
     induction m with
     |zero =>
      intro k hk
      have hk':k=p.2.1.length:=by omega
      rw[zL,if_neg (by rw[zG,zC];show ¬((k:Int)<_);omega),Comp.zB,zJl]
      rw[List.drop_eq_nil_of_le (show p.2.1.length≤k by omega),List.drop_eq_nil_of_le (show x.1.length≤k by omega),List.drop_eq_nil_of_le (show x.2.1.length≤k by omega),List.take_of_length_le (by omega),List.take_of_length_le (by omega),List.append_nil,List.append_nil]
      rfl
     |succ m ih =>
      intro k hk
      obtain⟨c,hc⟩:=zQ (xs:=p.2.1) (k:=k) (by omega)
      obtain⟨s,hs⟩:=zQ (xs:=x.1) (k:=k) (by omega)
      obtain⟨t,ht⟩:=zQ (xs:=x.2.1) (k:=k) (by omega)
      have gS:(apS all p.2.1 x.1)[k]?=some (sur all c s):=uQ hc hs
      have gT:(apT cuts touches p.2.1 x.2.1)[k]?=some (tch cuts touches c t):=uQ hc ht
      have hT1:((apT cuts touches p.2.1 x.2.1).take k++x.2.1.drop k)[k]?=some t:=by rw[GG hTl (by omega)];exact ht
      have hS1:((apS all p.2.1 x.1).take k++x.1.drop k)[k]?=some s:=by rw[GG hSl (by omega)];exact hs
      have hTs:((apT cuts touches p.2.1 x.2.1).take k++x.2.1.drop k).set k (tch cuts touches c t)=(apT cuts touches p.2.1 x.2.1).take (k+1)++x.2.1.drop (k+1):=take_set gT (by omega) hTl
      have hin:(inb ((apT cuts touches p.2.1 x.2.1).take k++x.2.1.drop k).length (k:Int)).val=some ():=jm (by rw[GF hTl (by omega)];omega)
      have hin2:(inb ((apS all p.2.1 x.1).take k++x.1.drop k).length (k:Int)).val=some ():=jm (by rw[GF hSl (by omega)];omega)
      rw[zL,if_pos (by rw[zG,zC];show (k:Int)<_;omega),vi,zA,zJ hc,zJl,zA,zJ hT1,zJl]
      have hE:apE all (p.2.1.drop k) (x.1.drop k)=bif s then apE all (p.2.1.drop (k+1)) (x.1.drop (k+1)) else if (cov (nr all c) c).2=0 then apE all (p.2.1.drop (k+1)) (x.1.drop (k+1)) else (cov (nr all c) c).2:=by
       rw[drop_cons hc,drop_cons hs];rfl
      refine(congrArg (fun o=>Option.bind o _) (Ep (gG c (s:=cuts) (by omega)) (gG c (s:=touches) (by omega)) (fun tt=>(inb ((apT cuts touches p.2.1 x.2.1).take k++x.2.1.drop k).length (k:Int)).bind fun x_8=>(idx ((apS all p.2.1 x.1).take k++x.1.drop k) (k:Int)).bind fun x_9=>if x_9=true then
                        (Comp.pure (Comp.Step.next (zI .i64 (k:Int) 1,zP,(apS all p.2.1 x.1).take k++x.1.drop k,jJ ((apT cuts touches p.2.1 x.2.1).take k++x.2.1.drop k) (k:Int) tt,all,())):Comp (Comp.Step (Int×yF×yF) (yF×yF⊕Int×yF)))
                       else
                        (Go.F.yf all fun (z:Int×List (Pln)×Unit)=>Go.F.vP z.1 z.2.1 c).bind fun y=>(Go.F.gP y.1 c).bind fun (x':Bool×Int×Unit)=>if neI x'.2.1 0=true then Comp.pure (Comp.Step.done (Sum.inr (x'.2.1,[],[],[],())))
                          else
                           (inb ((apS all p.2.1 x.1).take k++x.1.drop k).length (k:Int)).bind fun x_10=>(Comp.pure (Comp.Step.next (zI .i64 (k:Int) 1,zP,jJ ((apS all p.2.1 x.1).take k++x.1.drop k) (k:Int) x'.1,
                              jJ ((apT cuts touches p.2.1 x.2.1).take k++x.2.1.drop k) (k:Int) tt,all,())):Comp (Comp.Step (Int×yF×yF) (yF×yF⊕Int×yF)))))).trans ?_
      rw[zA,hin,zJl,zA,zJ hS1,zJl,show jJ ((apT cuts touches p.2.1 x.2.1).take k++x.2.1.drop k) (k:Int) ((t || !sap c cuts) || !sap c touches)=(apT cuts touches p.2.1 x.2.1).take (k+1)++x.2.1.drop (k+1) from hTs]
      cases s with
      |true =>
       have hSS:(apS all p.2.1 x.1).take k++x.1.drop k=(apS all p.2.1 x.1).take (k+1)++x.1.drop (k+1):=NL gS hs hSl
       rw[if_pos rfl,Comp.zB,zJl,zN (by omega),hSS,hE]
       exact ih (k+1) (by omega)
      |false =>
       rw[if_neg (by simp),zA,Mz c (by omega),zJl,zA,tn,zJl,hE]
       by_cases he0:(cov (nr all c) c).2=0
       ·have hSs:((apS all p.2.1 x.1).take k++x.1.drop k).set k (cov (nr all c) c).1=(apS all p.2.1 x.1).take (k+1)++x.1.drop (k+1):=take_set gS (by omega) hSl
        rw[if_neg (by rw[zd];simp[he0]),zA,hin2,zJl,Comp.zB,zJl,zN (by omega)]
        rw[show jJ ((apS all p.2.1 x.1).take k++x.1.drop k) (k:Int) (cov (nr all c) c).1=(apS all p.2.1 x.1).take (k+1)++x.1.drop (k+1) from hSs]
        rw[cond_false,if_pos he0]
        exact ih (k+1) (by omega)
       ·rw[if_pos (by rw[zd];exact he0),Comp.zB,zJl,cond_false,if_neg he0,if_neg he0]
        rfl
    have h0:=key p.2.1.length 0 (by omega)
    simp only[List.take_zero,List.nil_append,List.drop_zero]at h0
    rw[zA]
    refine(congrArg (fun o=>Option.bind o _) h0).trans ?_
    rw[zJl]
    by_cases hE0:apE all p.2.1 x.1=0
    ·rw[if_pos hE0,if_pos hE0];exact Comp.zB _
    ·rw[if_neg hE0,if_neg hE0];exact Comp.zB _
  ·rw[if_pos (by rw[zd];exact he),if_neg he,Comp.zB];rfl
 ·rw[if_pos (by rw[zd];exact hf),if_neg hf,Comp.zB];rfl
theorem w8 {p:Part} {x:yF} (hf:fit p x=0):ckP p=0∧Yh p x=true∧x.1.length=p.2.1.length∧x.2.1.length=p.2.1.length∧x.2.2.1.length≤24∧jT x.2.2.1=0∧p.2.1.length≤16∧p.2.2.1.length=p.2.1.length:=by
 have hck:ckP p=0:=by
  unfold fit at hf
  split at hf
  ·assumption
  ·exact hf
 have hfb:Yh p x=true:=by
  unfold fit at hf
  rw[if_pos hck]at hf
  cases h:Yh p x with
  |true=>rfl
  |false=>rw[h]at hf;cases hf
 have hfb':=hfb
 unfold Yh at hfb
 simp only[zJn,decide_eq_true_eq]at hfb
 obtain⟨⟨f1,f2⟩,f3,f4⟩:=hfb
 have hck':=hck
 unfold ckP at hck
 split at hck
 ·cases hck
 ·rename_i h
  split at hck
  ·cases hck
  ·rename_i h'
   exact⟨hck',hfb',f1,f2,f3,f4,by omega,by omega⟩
theorem C9 {p:Part} {x:yF} {cuts touches:List Cell} (hw:p.2.2.1.length<9223372036854775807) (hcl:cuts.length≤100000000) (htl:touches.length≤100000000):(je p x cuts touches).val=some ((apl p x cuts touches).1,(apl p x cuts touches).2,()):=by
 unfold je apl
 rw[zA,XA hw,zJl]
 by_cases hck:ckP p=0
 ·rw[if_neg (by rw[zd];simp[hck]),zA,rX,zJl,yb]
  cases hfb:Yh p x with
  |false =>
   have hf:fit p x=4:=by unfold fit;rw[if_pos hck,hfb];rfl
   rw[if_pos (by simp),if_neg (by rw[hf];decide),hf,Comp.zB];rfl
  |true =>
   have hf:fit p x=0:=by unfold fit;rw[if_pos hck,hfb];rfl
   obtain⟨_,_,f1,f2,f3,f4,hn,hwn⟩:=w8 hf
   rw[if_neg (by simp),if_pos hf,zA,XW (by omega),zJl,vi]
   have hadd:zI .i64 (zF x.2.2.1) (zF cuts)=((x.2.2.1.length+cuts.length:Nat):Int):=by rw[zC,zC,vJ (by omega)];omega
   by_cases hc0:jT cuts=0
   ·rw[if_pos (by rw[y5];exact hc0),zA,XW (by omega),zJl]
    have hE:jT (cuts++touches)=jT touches:=by rw[BS,if_pos hc0]
    rw[hE]
    show (if neI (jT touches) 0=true then _ else _:Comp (yF×Int×Unit)).val=_
    by_cases he:jT touches=0
    ·rw[if_neg (by rw[zd];simp[he]),if_pos he]
     by_cases h24:24<x.2.2.1.length+cuts.length
     ·rw[if_pos (by rw[yQ,hadd];omega),if_pos h24,Comp.zB];rfl
     ·rw[if_neg (by rw[yQ,hadd];omega),if_neg h24]
      have hcellx:∀c∈x.2.2.1,c.length≤1000000:=fun c hc=>by have:=(XH (kR.1 f4 c hc)).1;omega
      have hcellc:∀c∈cuts,c.length≤1000000:=fun c hc=>by have:=(XH (kR.1 hc0 c hc)).1;omega
      rw[zA,rf (by omega) hcellx,zJl,zA,rf (by omega) hcellc,zJl,zA,zr (by show x.2.2.1.length+cuts.length≤_;unfold LIM;omega),zJl]
      simp only
      generalize hall:x.2.2.1++cuts=all
      have hal:all.length≤24:=by rw[←hall];simp;omega
      have hSl:(apS all p.2.1 x.1).length=x.1.length:=by unfold apS;rw[List.length_zipWith];omega
      have hTl:(apT cuts touches p.2.1 x.2.1).length=x.2.1.length:=by unfold apT;rw[List.length_zipWith];omega
      have key:∀(m k:Nat),k+m=p.2.1.length→(Comp.loop
                 (fun
                   (x_1 :
                    Int ×
                     (List Bool×List Bool×List (List (Pln))×Unit) ×
                      List Bool×List Bool×List (List (Pln))×Unit) =>
                  if ltI x_1.1 (zF p.2.1)=true then
                   (idx p.2.1 x_1.1).bind fun (x_2:List (Pln)) =>
                    (idx x.2.1 x_1.1).bind fun (x_3:Bool) =>
                     (Comp.gd (ntB x_3) (Go.F.yk x_2 cuts) (false,())).bind fun (x_4:Bool×Unit) =>
                      (Comp.gd (ntB (sel x_3 true (ntB x_4.1))) (Go.F.yk x_2 touches) (false,())).bind
                       fun (x_5:Bool×Unit) =>
                       (app x_1.2.2.2.1 [sel (sel x_3 true (ntB x_4.1)) true (ntB x_5.1)]).bind fun (zs:List Bool) =>
                        (idx x.1 x_1.1).bind fun (x_6:Bool) =>
                         jn
                          (fun (x_7:Bool×List Bool×List Bool×List (List (Pln))×Unit) =>
                           (app x_1.2.2.1 [x_7.1]).bind fun (zs_1:List Bool) =>
                            Comp.pure (Comp.Step.next (zI .i64 x_1.1 1,x_7.2,zs_1,zs,x_1.2.2.2.2.1,())))
                          fun
                           (j :
                            Bool×List Bool×List Bool×List (List (Pln))×Unit →
                             Comp
                              (Comp.Step
                               (Int ×
                                (List Bool×List Bool×List (List (Pln))×Unit) ×
                                 List Bool×List Bool×List (List (Pln))×Unit)
                               ((List Bool×List Bool×List (List (Pln))×Unit) ×
                                 List Bool×List Bool×List (List (Pln))×Unit ⊕
                                Int×List Bool×List Bool×List (List (Pln))×Unit))) =>
                          if ntB x_6=true then
                           (Go.F.vQ x_1.2.2.2.2.1 x_2).bind
                            fun (y:List (List (Pln))×Unit) =>
                            (Go.F.y7 y.1 x_2).bind fun (x_7:Bool×Int×Unit) =>
                             if neI x_7.2.1 0=true then Comp.pure (Comp.Step.done (Sum.inr (x_7.2.1,[],[],[],())))
                             else j (x_7.1,x_1.2.1)
                          else j (x_6,x_1.2.1)
                  else Comp.pure (Comp.Step.done (Sum.inl (x_1.2.1,x_1.2.2.1,x_1.2.2.2.1,x_1.2.2.2.2.1,()))))
              ((k:Int),zP,(apS all p.2.1 x.1).take k,(apT cuts touches p.2.1 x.2.1).take k,all,())).val =
        some (if apE all (p.2.1.drop k) (x.1.drop k)=0 then .inl (zP,apS all p.2.1 x.1,apT cuts touches p.2.1 x.2.1,all,()) else .inr (apE all (p.2.1.drop k) (x.1.drop k),zP)):=by
       intro m
       induction m with
       |zero =>
        intro k hk
        rw[zL,if_neg (by rw[zG,zC];show ¬((k:Int)<_);omega),Comp.zB,zJl]
        rw[List.drop_eq_nil_of_le (show p.2.1.length≤k by omega),List.drop_eq_nil_of_le (show x.1.length≤k by omega),List.take_of_length_le (by omega),List.take_of_length_le (by omega)]
        rfl
       |succ m ih =>
        intro k hk
        obtain⟨c,hc⟩:=zQ (xs:=p.2.1) (k:=k) (by omega)
        obtain⟨s,hs⟩:=zQ (xs:=x.1) (k:=k) (by omega)
        obtain⟨t,ht⟩:=zQ (xs:=x.2.1) (k:=k) (by omega)
        have gS:(apS all p.2.1 x.1)[k]?=some (sur all c s):=uQ hc hs
        have gT:(apT cuts touches p.2.1 x.2.1)[k]?=some (tch cuts touches c t):=uQ hc ht
        have hT2:(apT cuts touches p.2.1 x.2.1).take k++[tch cuts touches c t]=(apT cuts touches p.2.1 x.2.1).take (k+1):=by rw[List.take_add_one,gT];rfl
        have hS2:∀v,sur all c s=v→(apS all p.2.1 x.1).take k++[v]=(apS all p.2.1 x.1).take (k+1):=fun v hv=>by rw[List.take_add_one,gS,hv];rfl
        have lT:((apT cuts touches p.2.1 x.2.1).take k).length≤16:=by rw[List.length_take];omega
        have lS:((apS all p.2.1 x.1).take k).length≤16:=by rw[List.length_take];omega
        rw[zL,if_pos (by rw[zG,zC];show (k:Int)<_;omega),zA,zJ hc,zJl,zA,zJ ht,zJl]
        have hE:apE all (p.2.1.drop k) (x.1.drop k)=bif s then apE all (p.2.1.drop (k+1)) (x.1.drop (k+1)) else if (cov (nr all c) c).2=0 then apE all (p.2.1.drop (k+1)) (x.1.drop (k+1)) else (cov (nr all c) c).2:=by
         rw[drop_cons hc,drop_cons hs];rfl
        have hj:∀v zs,((app ((apS all p.2.1 x.1).take k) [v]).bind fun (zs_1:List Bool) =>
                            (Comp.pure (Comp.Step.next (zI .i64 (k:Int) 1,zP,zs_1,zs,all,())):Comp (Comp.Step (Int×yF×yF) (yF×yF⊕Int×yF)))).val=some (.next (((k+1:Nat):Int),zP,(apS all p.2.1 x.1).take k++[v],zs,all,())):=fun v zs=>by
         rw[zA,zr (by simp only[zJq];unfold LIM;omega),zJl,Comp.zB,zN (by omega)]
        refine(congrArg (fun o=>Option.bind o _) (Ep (wR c (s:=cuts) (by omega)) (wR c (s:=touches) (by omega)) (fun tt =>
                       (app ((apT cuts touches p.2.1 x.2.1).take k) [tt]).bind fun (zs:List Bool) =>
                        (idx x.1 (k:Int)).bind fun (x_6:Bool) =>
                          if ntB x_6=true then
                           (Go.F.vQ all c).bind
                            fun (y:List (List (Pln))×Unit) =>
                            (Go.F.y7 y.1 c).bind fun (x_7:Bool×Int×Unit) =>
                             if neI x_7.2.1 0=true then Comp.pure (Comp.Step.done (Sum.inr (x_7.2.1,[],[],[],())))
                             else ((app ((apS all p.2.1 x.1).take k) [x_7.1]).bind fun (zs_1:List Bool) =>
                            (Comp.pure (Comp.Step.next (zI .i64 (k:Int) 1,zP,zs_1,zs,all,())):Comp (Comp.Step (Int×yF×yF) (yF×yF⊕Int×yF))))
                          else ((app ((apS all p.2.1 x.1).take k) [x_6]).bind fun (zs_1:List Bool) =>
                            (Comp.pure (Comp.Step.next (zI .i64 (k:Int) 1,zP,zs_1,zs,all,())):Comp (Comp.Step (Int×yF×yF) (yF×yF⊕Int×yF))))))).trans ?_
        rw[zA,zr (by simp only[zJq];unfold LIM;omega),zJl,show (apT cuts touches p.2.1 x.2.1).take k++[(t || !sap c cuts) || !sap c touches]=(apT cuts touches p.2.1 x.2.1).take (k+1) from hT2,zA,zJ hs,zJl,yb]
        cases s with
        |true =>
         rw[if_neg (by simp),hj,zJl,hS2 true rfl,hE]
         exact ih (k+1) (by omega)
        |false =>
         rw[if_pos (by simp),zA,C6 c (by omega),zJl,zA,lq,zJl,hE]
         by_cases he0:(cov (nr all c) c).2=0
         ·rw[if_neg (by rw[zd];simp[he0]),hj,zJl,hS2 (cov (nr all c) c).1 rfl,cond_false,if_pos he0]
          exact ih (k+1) (by omega)
         ·rw[if_pos (by rw[zd];exact he0),Comp.zB,zJl,cond_false,if_neg he0,if_neg he0]
          rfl
      have h0:=key p.2.1.length 0 (by omega)
      simp only[List.take_zero,List.drop_zero]at h0
      rw[zA]
      refine(congrArg (fun o=>Option.bind o _) h0).trans ?_
      rw[zJl]
      by_cases hE0:apE all p.2.1 x.1=0
      ·rw[if_pos hE0,if_pos hE0];exact Comp.zB _
      ·rw[if_neg hE0,if_neg hE0];exact Comp.zB _
    ·rw[if_pos (by rw[zd];exact he),if_neg he,Comp.zB];rfl
   ·have hE:jT (cuts++touches)=jT cuts:=by rw[BS,if_neg hc0]
    rw[if_neg (by rw[y5];exact hc0),hE,if_neg hc0]
    show (if neI (jT cuts) 0=true then _ else _:Comp (yF×Int×Unit)).val=_
    rw[if_pos (by rw[zd];exact hc0),Comp.zB];rfl
 ·have hf:fit p x=ckP p:=by unfold fit;rw[if_neg hck]
  rw[if_pos (by rw[zd];exact hck),hf,if_neg hck,Comp.zB];rfl
def anyI (n:Nat) (g:Nat→Bool):Bool:=(List.range n).any g
theorem Bw {body:Int→Comp (Comp.Step Int ε)} (n:Nat) (g:Nat→Bool) {c d:ε} (hb:∀(i:Nat),i<n→(body (i:Int)).val=some (if g i=true then .done c else .next ((i+1:Nat):Int))) (he:(body (n:Int)).val=some (.done d)) :
  (Comp.loop body 0).val=some (bif anyI n g then c else d):=by
 have h1:=ZL (List.range n) (fun k=>!g k) (c:=c) (d:=d) (body:=body)
  (fun i k hk=>by
   have hi:=zM hk
   rw[List.length_range]at hi
   rw[List.getElem?_range hi]at hk
   cases hk
   rw[hb i hi]
   cases g i<;>rfl)
  (by rw[List.length_range];exact he)
 rw[h1]
 have:((List.range n).all fun k=>!g k) = !anyI n g:=by unfold anyI;rw[List.all_eq_not_any_not];simp
 rw[this]
 cases anyI n g<;>rfl
def wt (p:Part) (k:Nat):Int:=p.2.2.1.getD k 0
def cl (p:Part) (k:Nat):Cell:=p.2.1.getD k []
def vS (p:Part) (x:yF) (k:Nat):Bool:=decide (wt p k=1) && !sap (cl p k) x.2.2.1
def vT (p:Part) (x:yF) (k:Nat):Bool:=decide (wt p k=1) && x.2.1.getD k false
def vL (p:Part) (x:yF) (k:Nat):Bool:=decide (wt p k=2) && !x.1.getD k false
def vd (p:Part) (x:yF):Int:=if fit p x=0 then bif anyI p.2.1.length (vS p x) then 35 else bif anyI p.2.1.length (vT p x) then 30 else bif anyI p.2.1.length (vL p x) then 34 else 0 else fit p x
theorem yq {xs:List α} {k:Nat} {z v:α} (h:xs[k]?=some v):xs.getD k z=v:=by rw[List.getD_eq_getElem?_getD,h];rfl
theorem Cz {p:Part} {x:yF} {k:Nat} (hk:k<p.2.1.length) (hw:p.2.2.1.length=p.2.1.length) (hc:x.2.2.1.length≤24):(yM (p,x,()) (k:Int)).val=some (vS p x k,()):=by
 obtain⟨w,hw'⟩:=zQ (xs:=p.2.2.1) (k:=k) (by omega)
 obtain⟨c,hc'⟩:=zQ (xs:=p.2.1) (k:=k) hk
 unfold yM vS wt cl
 rw[yq hw',yq hc',zA,zJ hw',zJl,zA]
 have e:eqI w 1=decide (w=1):=rfl
 rw[e]
 by_cases h:w=1
 ·rw[decide_eq_true h]
  show Option.bind (idx p.2.1 (k:Int)).val _=_
  rw[zJ hc',zJl,zA]
  show Option.bind (yA c x.2.2.1).val _=_
  rw[gG c (by omega),zJl,Comp.zB];rfl
 ·rw[decide_eq_false h]
  show Option.bind (Comp.pure _).val _=_
  rw[Comp.zB,zJl,zA]
  show Option.bind (Comp.pure _).val _=_
  rw[Comp.zB,zJl,Comp.zB];rfl
theorem DQ {p:Part} {x:yF} {k:Nat} (hk:k<p.2.1.length) (hw:p.2.2.1.length=p.2.1.length) (hc:x.2.1.length=p.2.1.length):(yN (p,x,()) (k:Int)).val=some (vT p x k,()):=by
 obtain⟨w,hw'⟩:=zQ (xs:=p.2.2.1) (k:=k) (by omega)
 obtain⟨c,hc'⟩:=zQ (xs:=x.2.1) (k:=k) (by omega)
 unfold yN vT wt
 rw[yq hw',yq hc',zA,zJ hw',zJl,zA]
 have e:eqI w 1=decide (w=1):=rfl
 rw[e]
 by_cases h:w=1
 ·rw[decide_eq_true h]
  show Option.bind (idx x.2.1 (k:Int)).val _=_
  rw[zJ hc',zJl,Comp.zB];rfl
 ·rw[decide_eq_false h]
  show Option.bind (Comp.pure _).val _=_
  rw[Comp.zB,zJl,Comp.zB];rfl
theorem NN {p:Part} {x:yF} {k:Nat} (hk:k<p.2.1.length) (hw:p.2.2.1.length=p.2.1.length) (hc:x.1.length=p.2.1.length):(yh (p,x,()) (k:Int)).val=some (vL p x k,()):=by
 obtain⟨w,hw'⟩:=zQ (xs:=p.2.2.1) (k:=k) (by omega)
 obtain⟨c,hc'⟩:=zQ (xs:=x.1) (k:=k) (by omega)
 unfold yh vL wt
 rw[yq hw',yq hc',zA,zJ hw',zJl,zA]
 have e:eqI w 2=decide (w=2):=rfl
 rw[e]
 by_cases h:w=2
 ·rw[decide_eq_true h]
  show Option.bind (idx x.1 (k:Int)).val _=_
  rw[zJ hc',zJl,Comp.zB];rfl
 ·rw[decide_eq_false h]
  show Option.bind (Comp.pure _).val _=_
  rw[Comp.zB,zJl,Comp.zB];rfl
theorem wN {p:Part} {x:yF} (hw:p.2.2.1.length<9223372036854775807):(jP p x).val=some (vd p x,()):=by
 unfold jP vd
 rw[zA,Y9 hw,zJl]
 by_cases hf:fit p x=0
 ·obtain⟨_,_,f1,f2,f3,f4,hn,hwn⟩:=w8 hf
  rw[if_neg (by rw[zd];simp[hf]),if_pos hf]
  have inner:∀(f:Int×Unit→Comp (Bool×Unit)) (e:Int) (g:Nat→Bool),(∀k,k<p.2.1.length→(f ((k:Int),())).val=some (g k,()))→(Comp.loop
             (fun (x_2:Int)=>if ltI x_2 (zF p.2.1)=true then
               (f (x_2,())).bind fun x_3=>if x_3.1=true then Comp.pure (Comp.Step.done (Sum.inr e)) else Comp.pure (Comp.Step.next (zI .i64 x_2 1))
              else Comp.pure (Comp.Step.done (Sum.inl ():Unit⊕Int)))
             0).val=some (bif anyI p.2.1.length g then .inr e else .inl ()):=by
   intro f e g hg
   exact Bw p.2.1.length g (c:=(Sum.inr e:Unit⊕Int)) (d:=Sum.inl ()) (body:=(fun (x_2:Int)=>if ltI x_2 (zF p.2.1)=true then
               (f (x_2,())).bind fun x_3=>if x_3.1=true then Comp.pure (Comp.Step.done (Sum.inr e)) else Comp.pure (Comp.Step.next (zI .i64 x_2 1))
              else Comp.pure (Comp.Step.done (Sum.inl ():Unit⊕Int))))
    (fun k hk=>by
     rw[if_pos (by rw[zG,zC];omega),zA,hg k hk,zJl,zN (by omega)]
     cases g k<;>exact Comp.zB _)
    (by rw[if_neg (by rw[zG,zC];omega),Comp.zB])
  have i1:=inner (fun z=>yM (p,x,()) z.1) 35 (vS p x) (fun k hk=>Cz hk hwn f3)
  have i2:=inner (fun z=>yN (p,x,()) z.1) 30 (vT p x) (fun k hk=>DQ hk hwn f2)
  have i3:=inner (fun z=>yh (p,x,()) z.1) 34 (vL p x) (fun k hk=>NN hk hwn f1)
  generalize hL:[(fun (z:Int×Unit)=>Go.F.yM (p,x,()) z.1,(35:Int),()),(fun (z:Int×Unit)=>Go.F.yN (p,x,()) z.1,30,()),(fun (z:Int×Unit)=>Go.F.yh (p,x,()) z.1,34,())]=L
  have l0:(idx L ((0:Nat):Int)).val=some (fun z=>yM (p,x,()) z.1,35,()):=zJ (by rw[←hL];rfl)
  have l1:(idx L ((1:Nat):Int)).val=some (fun z=>yN (p,x,()) z.1,30,()):=zJ (by rw[←hL];rfl)
  have l2:(idx L ((2:Nat):Int)).val=some (fun z=>yh (p,x,()) z.1,34,()):=zJ (by rw[←hL];rfl)
  have hlen:zF L=3:=by rw[←hL];rfl
  have hloop:(Comp.loop
       (fun (x_1:Int)=>if ltI x_1 (zF L)=true then
         (idx L x_1).bind fun x=>(Comp.loop
             (fun (x_2:Int)=>if ltI x_2 (zF p.2.1)=true then
               (x.1 (x_2,())).bind fun x_3=>if x_3.1=true then Comp.pure (Comp.Step.done (Sum.inr x.2.1)) else Comp.pure (Comp.Step.next (zI .i64 x_2 1))
              else Comp.pure (Comp.Step.done (Sum.inl ())))
             0).bind fun (x:Unit⊕Int)=>match x with
           |Sum.inl x=>Comp.pure (Comp.Step.next (zI .i64 x_1 1))
           |Sum.inr x=>Comp.pure (Comp.Step.done (Sum.inr x))
        else Comp.pure (Comp.Step.done (Sum.inl ():Unit⊕Int)))
       ((0:Nat):Int)).val=some (bif anyI p.2.1.length (vS p x) then .inr 35 else bif anyI p.2.1.length (vT p x) then .inr 30 else bif anyI p.2.1.length (vL p x) then .inr 34 else .inl ()):=by
   rw[zL,if_pos (by rw[zG,hlen];decide),zA,l0,zJl,zA]
   refine(congrArg (fun o=>Option.bind (Option.bind o _) _) i1).trans ?_
   cases anyI p.2.1.length (vS p x) with
   |true=>rw[zJl];exact(congrArg (fun o=>Option.bind o _) (Comp.zB _)).trans rfl
   |false =>
    rw[zJl]
    refine(congrArg (fun o=>Option.bind o _) (Comp.zB _)).trans ?_
    rw[zJl]
    show (Comp.loop _ ((1:Nat):Int)).val=_
    rw[zL,if_pos (by rw[zG,hlen];decide),zA,l1,zJl,zA]
    refine(congrArg (fun o=>Option.bind (Option.bind o _) _) i2).trans ?_
    cases anyI p.2.1.length (vT p x) with
    |true=>rw[zJl];exact(congrArg (fun o=>Option.bind o _) (Comp.zB _)).trans rfl
    |false =>
     rw[zJl]
     refine(congrArg (fun o=>Option.bind o _) (Comp.zB _)).trans ?_
     rw[zJl]
     show (Comp.loop _ ((2:Nat):Int)).val=_
     rw[zL,if_pos (by rw[zG,hlen];decide),zA,l2,zJl,zA]
     refine(congrArg (fun o=>Option.bind (Option.bind o _) _) i3).trans ?_
     cases anyI p.2.1.length (vL p x) with
     |true=>rw[zJl];exact(congrArg (fun o=>Option.bind o _) (Comp.zB _)).trans rfl
     |false =>
      rw[zJl]
      refine(congrArg (fun o=>Option.bind o _) (Comp.zB _)).trans ?_
      rw[zJl]
      show (Comp.loop _ ((3:Nat):Int)).val=_
      rw[zL,if_neg (by rw[zG,hlen];decide),Comp.zB,zJl];rfl
  subst hL
  rw[zA]
  refine(congrArg (fun o=>Option.bind o _) hloop).trans ?_
  rw[zJl]
  cases anyI p.2.1.length (vS p x)<;>cases anyI p.2.1.length (vT p x)<;>cases anyI p.2.1.length (vL p x)<;>exact Comp.zB _
 ·rw[if_pos (by rw[zd];exact hf),if_neg hf,Comp.zB]
def usl (p:Part) (cuts:List Cell):Bool:=!anyI p.2.1.length fun k=>decide (wt p k=2) && !sap (cl p k) cuts
theorem lY {p:Part} {x:Eff} (hn:p.2.1.length≤1000) (hwn:p.2.2.1.length=p.2.1.length) (hc:x.1.length<9223372036854775807):(YH p x).val=some (usl p x.1,()):=by
 unfold YH usl
 have i1:=Bw p.2.1.length (fun k=>decide (wt p k=2) && !sap (cl p k) x.1) (c:=(Sum.inr false:Unit⊕Bool)) (d:=Sum.inl ()) (body:=(fun (x_1:Int)=>if ltI x_1 (zF p.2.1)=true then
       (idx p.2.1 x_1).bind fun x_2=>(idx p.2.2.1 x_1).bind fun x_3=>(Comp.gd (eqI x_3 2) (Go.F.yA x_2 x.1) (false,())).bind fun x_4=>if sel (eqI x_3 2) (ntB x_4.1) false=true then Comp.pure (Comp.Step.done (Sum.inr false))
          else Comp.pure (Comp.Step.next (zI .i64 x_1 1))
      else Comp.pure (Comp.Step.done (Sum.inl ()))))
  (fun k hk=>by
   obtain⟨w,hw'⟩:=zQ (xs:=p.2.2.1) (k:=k) (by omega)
   obtain⟨c,hc'⟩:=zQ (xs:=p.2.1) (k:=k) hk
   unfold wt cl
   rw[if_pos (by rw[zG,zC];omega),yq hw',yq hc',zA,zJ hc',zJl,zA,zJ hw',zJl,zA,show eqI w 2=decide (w=2) from rfl]
   by_cases h:w=2
   ·rw[decide_eq_true h]
    show Option.bind (yA c x.1).val _=_
    rw[gG c hc,zJl,zN (by omega)]
    cases sap c x.1<;>exact Comp.zB _
   ·rw[decide_eq_false h]
    show Option.bind (Comp.pure _).val _=_
    rw[Comp.zB,zJl,zN (by omega)]
    exact Comp.zB _)
  (by rw[if_neg (by rw[zG,zC];omega),Comp.zB])
 rw[zA]
 refine(congrArg (fun o=>Option.bind o _) i1).trans ?_
 rw[zJl]
 cases anyI p.2.1.length fun k=>decide (wt p k=2) && !sap (cl p k) x.1<;>exact Comp.zB _
def V0 (a m:Nat) (g:Nat→Bool):Bool:=(List.range' a m).any g
theorem Bv {body:Int→Comp (Comp.Step Int ε)} (g:Nat→Bool) {c d:ε}:∀(m a:Nat),(∀(i:Nat),a≤i→i<a+m→(body (i:Int)).val=some (if g i=true then .done c else .next ((i+1:Nat):Int)))→(body ((a+m:Nat):Int)).val=some (.done d)→(Comp.loop body (a:Int)).val=some (bif V0 a m g then c else d)
 |0,a,hb,he=>by rw[zL];rw[Nat.add_zero]at he;rw[he];rfl
 |m+1,a,hb,he=>by
  have ih:=Bv g m (a+1) (fun i h1 h2=>hb i (by omega) (by omega)) (by rw[show a+1+m=a+(m+1) by omega];exact he)
  rw[zL,hb a (zJp _) (by omega)]
  unfold V0
  rw[List.range'_succ,List.any_cons]
  cases hg:g a with
  |true=>rfl
  |false=>exact ih
def G0 (l:List Int):Bool:=!V0 1 (l.length-1) fun k=>decide (l.getD k 0≤l.getD (k-1) 0)
theorem X4 {l:List Int} (hl:l.length≤1000000):(ku l).val=some (G0 l,()):=by
 unfold ku G0
 have h1:=Bv (fun k=>decide (l.getD k 0≤l.getD (k-1) 0)) (c:=(Sum.inr false:Unit⊕Bool)) (d:=Sum.inl ()) (body:=(fun (x:Int)=>if ltI x (zF l)=true then
       (idx l x).bind fun x_1=>(idx l (gX .i64 x 1)).bind fun x_2=>if leI x_1 x_2=true then Comp.pure (Comp.Step.done (Sum.inr false)) else Comp.pure (Comp.Step.next (zI .i64 x 1))
      else Comp.pure (Comp.Step.done (Sum.inl ())))) (l.length-1) 1
  (fun k h1 h2=>by
   obtain⟨a,ha⟩:=zQ (xs:=l) (k:=k) (by omega)
   obtain⟨b,hb⟩:=zQ (xs:=l) (k:=k-1) (by omega)
   have hi:(idx l (gX .i64 (k:Int) 1)).val=some b:=by
    rw[YI (by omega),show (k:Int)-1=((k-1:Nat):Int) by omega];exact zJ hb
   rw[if_pos (by rw[zG,zC];omega),zA,zJ ha,zJl,zA,hi,zJl,yq ha,yq hb,zN (by omega)]
   by_cases h:a≤b
   ·rw[if_pos (by rw[Rl];exact h),if_pos (by simpa using h),Comp.zB]
   ·rw[if_neg (by rw[Rl];exact h),if_neg (by simpa using h),Comp.zB])
  (by rw[if_neg (by rw[zG,zC];omega),Comp.zB])
 rw[zA]
 refine(congrArg (fun o=>Option.bind o _) h1).trans ?_
 rw[zJl]
 cases V0 1 (l.length-1) fun k=>decide (l.getD k 0≤l.getD (k-1) 0)<;>exact Comp.zB _
theorem u6 {l:List Int} (hl:l.length≤1000000):(jU l).val=some (G0 l,()):=X4 hl
def rS (n k:Nat) (x:Int):Bool:=(decide (x<0) || decide ((n:Int)≤x)) || decide (x=(k:Int))
def eE (n k:Nat) (x:Eff):Int:=if jT (x.1++x.2.1)=0 then if x.2.2.1<1∨1048576<x.2.2.1 then 3 else bif x.2.2.2.1.any (rS n k) then 3 else bif G0 x.2.2.2.1 then 0 else 7 else jT (x.1++x.2.1)
def SmE (x:Eff):Prop:=x.1.length≤100000∧x.2.1.length≤100000∧x.2.2.2.1.length≤100000
theorem BR {s:List Cell} {body:Int→Comp (Comp.Step Int (Unit⊕Int))} (hb:∀(i:Nat) c,s[i]?=some c→(body (i:Int)).val=some (if chk c=0 then .next ((i+1:Nat):Int) else .done (.inr (chk c)))) (he:(body (s.length:Int)).val=some (.done (.inl ()))) :
  (Comp.loop body 0).val=some (if jT s=0 then .inl () else .inr (jT s)):=by
 have key:∀(ys zs:List Cell),s=zs++ys→(Comp.loop body (zs.length:Int)).val=some (if jT ys=0 then .inl () else .inr (jT ys)):=by
  intro ys
  induction ys with
  |nil =>
   intro zs hx
   rw[zL,show zs.length=s.length by rw[hx];simp,he];rfl
  |cons y ys ih =>
   intro zs hx
   have hy:s[zs.length]?=some y:=by rw[hx];simp
   rw[wC]
   by_cases h:chk y=0
   ·rw[if_pos h,zL,hb _ _ hy,if_pos h,zJl]
    simpa using ih (zs++[y]) (by rw[hx];simp)
   ·rw[if_neg h,if_neg h,zL,hb _ _ hy,if_neg h,zJl]
 exact key s [] rfl
theorem wa {n k:Nat} {x:Eff} (hs:SmE x) (hn:n≤100000) {ln0:Int} (hl:ln0=(n:Int)) {inc:List Int→Comp (Bool×Unit)} (hinc:∀l,l.length≤1000000→(inc l).val=some (G0 l,())) {body:Int→Comp (Comp.Step Int (Unit⊕Int))}
  (hb:∀(i:Nat) w,x.2.2.2.1[i]?=some w→(body (i:Int)).val=some (if rS n k w=true then .done (.inr 3) else .next ((i+1:Nat):Int))) (he:(body (x.2.2.2.1.length:Int)).val=some (.done (.inl ()))) :
  (if sel (ltI x.2.2.1 1) true (gtI x.2.2.1 1048576)=true then Comp.pure (3,())
      else
       (Comp.loop body 0).bind fun (x_3:Unit⊕Int)=>match x_3 with
        |Sum.inl x_4 =>
         (inc x.2.2.2.1).bind fun x=>if ntB x.1=true then Comp.pure (7,()) else (Comp.pure (0,()):Comp (Int×Unit))
        |Sum.inr x=>Comp.pure (x,())).val=some (if x.2.2.1<1∨1048576<x.2.2.1 then 3 else bif x.2.2.2.1.any (rS n k) then 3 else bif G0 x.2.2.2.1 then 0 else 7,()):=by
 obtain⟨s1,s2,s3⟩:=hs
 by_cases hc:x.2.2.1<1∨1048576<x.2.2.1
 ·rw[if_pos (by rw[gZ,Bool.or_eq_true,zG,yQ];exact hc),if_pos hc,Comp.zB]
 ·rw[if_neg (by rw[gZ,Bool.or_eq_true,zG,yQ];exact hc),if_neg hc,zA]
  have h1:=ZL x.2.2.2.1 (fun w=>!rS n k w) (c:=(Sum.inr 3:Unit⊕Int)) (d:=Sum.inl ()) (body:=body)
   (fun i w hw=>by rw[hb i w hw];cases rS n k w<;>rfl) he
  have hall:(x.2.2.2.1.all fun w=>!rS n k w) = !x.2.2.2.1.any (rS n k):=by rw[List.all_eq_not_any_not];simp
  rw[hall]at h1
  refine(congrArg (fun o=>Option.bind o _) h1).trans ?_
  rw[zJl]
  cases x.2.2.2.1.any (rS n k) with
  |true=>exact Comp.zB _
  |false =>
   show ((inc x.2.2.2.1).bind fun x=>if ntB x.1=true then Comp.pure (7,()) else (Comp.pure (0,()):Comp (Int×Unit))).val=_
   rw[zA,hinc _ (by omega),zJl]
   cases G0 x.2.2.2.1<;>exact Comp.zB _
theorem DW {L:List Eff} {k:Nat} {x:Eff} (hx:L[k]?=some x) (hs:SmE x) (hL:L.length≤100000):(Zm L (k:Int)).val=some (eE L.length k x,()):=by
 have hs':=hs
 obtain⟨s1,s2,s3⟩:=hs
 unfold Zm eE
 have hcat:(zX [x.1,x.2.1]).val=some (x.1++x.2.1,()):=by
  have:=Kp (z:=([]:Cell)) (xs:=[x.1,x.2.1]) (by simp;unfold LIM;omega) (by simp)
  simp only[List.flatten_cons,List.flatten_nil,List.append_nil]at this
  exact this
 rw[zA,zJ hx,zJl,zA,hcat,zJl]
 simp only
 generalize hall:x.1++x.2.1=all
 have hal:all.length≤200000:=by rw[←hall];simp;omega
 have h2:=BR (s:=all)
  (body:=(fun (x_1:Int)=>if ltI x_1 (zF all)=true then
         (idx all x_1).bind fun x=>(Go.F.vg x).bind fun x=>if neI x.1 0=true then Comp.pure (Comp.Step.done (Sum.inr x.1)) else Comp.pure (Comp.Step.next (zI .i64 x_1 1))
        else Comp.pure (Comp.Step.done (Sum.inl ()))))
  (fun i c hc=>by
   have hlt:=zM hc
   rw[if_pos (by rw[zG,zC];omega),zA,zJ hc,zJl,zA,gy,zJl,zN (by omega)]
   by_cases h:chk c=0
   ·rw[if_neg (by rw[zd];simp[h]),if_pos h,Comp.zB]
   ·rw[if_pos (by rw[zd];exact h),if_neg h,Comp.zB])
  (by rw[if_neg (by rw[zG,zC];omega),Comp.zB])
 rw[zA]
 refine(congrArg (fun o=>Option.bind o _) h2).trans ?_
 rw[zJl]
 by_cases h0:jT all=0
 ·rw[if_pos h0,if_pos h0]
  refine wa (n:=L.length) (k:=k) hs' hL (ln0:=zF L) rfl (fun l hl=>X4 hl) (fun i w hw=>?_) ?_
  ·have hlt:=zM hw
   rw[if_pos (by rw[zG,zC];omega),zA,zJ hw,zJl,zN (by omega)]
   have e:sel (sel (ltI w 0) true (geI w (zF L))) true (eqI w (k:Int))=rS L.length k w:=by rw[gZ,gZ];rfl
   rw[e]
   cases rS L.length k w<;>exact Comp.zB _
  ·rw[if_neg (by rw[zG,zC];omega),Comp.zB]
 ·rw[if_neg h0,if_neg h0];exact Comp.zB _
theorem lp {L:List Eff} {k:Nat} {x:Eff} (hx:L[k]?=some x) (hs:SmE x) (hL:L.length≤100000):(vt L (k:Int)).val=some (eE L.length k x,()):=by
 have hs':=hs
 obtain⟨s1,s2,s3⟩:=hs
 unfold vt eE
 rw[zA,zJ hx,zJl,zA,zr (by simp;unfold LIM;omega),zJl,zA,zr (by simp;unfold LIM;omega),zJl]
 simp only[List.nil_append]
 generalize hall:x.1++x.2.1=all
 have hal:all.length≤200000:=by rw[←hall];simp;omega
 have h2:=BR (s:=all)
  (body:=(fun (x_1:Int)=>if ltI x_1 (zF all)=true then
         (idx all x_1).bind fun x=>(Go.F.zb x).bind fun x=>if neI x.1 0=true then Comp.pure (Comp.Step.done (Sum.inr x.1)) else Comp.pure (Comp.Step.next (zI .i64 x_1 1))
        else Comp.pure (Comp.Step.done (Sum.inl ()))))
  (fun i c hc=>by
   have hlt:=zM hc
   rw[if_pos (by rw[zG,zC];omega),zA,zJ hc,zJl,zA,jz,zJl,zN (by omega)]
   by_cases h:chk c=0
   ·rw[if_neg (by rw[zd];simp[h]),if_pos h,Comp.zB]
   ·rw[if_pos (by rw[zd];exact h),if_neg h,Comp.zB])
  (by rw[if_neg (by rw[zG,zC];omega),Comp.zB])
 rw[zA]
 refine(congrArg (fun o=>Option.bind o _) h2).trans ?_
 rw[zJl]
 by_cases h0:jT all=0
 ·rw[if_pos h0,if_pos h0]
  refine wa (n:=L.length) (k:=k) hs' hL (ln0:=zF L) rfl (fun l hl=>u6 hl) (fun i w hw=>?_) ?_
  ·have hlt:=zM hw
   rw[if_pos (by rw[zG,zC];omega),zA,zJ hw,zJl,zN (by omega)]
   have e:rS L.length k w=((ltI w 0 || geI w (zF L)) || eqI w (k:Int)):=rfl
   rw[e]
   cases h1:ltI w 0 with
   |true =>
    rw[zA]
    show Option.bind (Comp.pure _).val _=_
    rw[Comp.zB,zJl,zA]
    show Option.bind (Comp.pure _).val _=_
    rw[Comp.zB,zJl]
    exact Comp.zB _
   |false =>
    rw[zA]
    show Option.bind (idx x.2.2.2.1 (i:Int)).val _=_
    rw[zJ hw,zJl,zA]
    cases h2:geI w (zF L) with
    |true =>
     show Option.bind (Comp.pure _).val _=_
     rw[Comp.zB,zJl]
     exact Comp.zB _
    |false =>
     show Option.bind (idx x.2.2.2.1 (i:Int)).val _=_
     rw[zJ hw,zJl]
     cases eqI w (k:Int)<;>exact Comp.zB _
  ·rw[if_neg (by rw[zG,zC];omega),Comp.zB]
 ·rw[if_neg h0,if_neg h0];exact Comp.zB _
def efs (n:Nat):List Eff→Nat→Int
 | [],_=>0
 |x::l,k=>if eE n k x=0 then efs n l (k+1) else eE n k x
def Xj (L:List Eff):Nat:=(L.map fun x=>x.1.length).sum
def ckJ (j:Job):Int:=if fit j.1 j.2.1=0 then if 8<j.2.2.1.length then 2 else if efs j.2.2.1.length j.2.2.1 0=0 then if 24<j.2.1.2.2.1.length+Xj j.2.2.1 then 2 else 0 else efs j.2.2.1.length j.2.2.1 0 else fit j.1 j.2.1
theorem Xy {j:Job} (hw:j.1.2.2.1.length<9223372036854775807) (hs:∀x∈j.2.2.1,SmE x):(Yb j).val=some (ckJ j,()):=by
 unfold Yb ckJ
 rw[zA,Z6 hw,zJl]
 by_cases hck:ckP j.1=0
 ·rw[if_neg (by rw[zd];simp[hck]),zA,rI,zJl,yb]
  cases hfb:Yh j.1 j.2.1 with
  |false =>
   have hf:fit j.1 j.2.1=4:=by unfold fit;rw[if_pos hck,hfb];rfl
   rw[if_pos (by simp),if_neg (by rw[hf];decide),hf,Comp.zB]
  |true =>
   have hf:fit j.1 j.2.1=0:=by unfold fit;rw[if_pos hck,hfb];rfl
   obtain⟨_,_,f1,f2,f3,f4,hn,hwn⟩:=w8 hf
   rw[if_neg (by simp),if_pos hf]
   by_cases h8:8<j.2.2.1.length
   ·rw[if_pos (by rw[yQ,zC];omega),if_pos h8,Comp.zB]
   ·rw[if_neg (by rw[yQ,zC];omega),if_neg h8]
    generalize hL:j.2.2.1=L at h8 hs
    have key:∀(ys zs:List Eff) (c:Nat),L=zs++ys→c+ys.length * 100000≤10000000→(Comp.loop
          (fun (x:Int×Int)=>if ltI x.2 (zF L)=true then
            (idx L x.2).bind fun (x_1 :
               List (List (Pln))×List (List (Pln))×Int×List Int×Unit) =>
             (Go.F.Zm L x.2).bind fun x_2=>if neI x_2.1 0=true then Comp.pure (Comp.Step.done (Sum.inr x_2.1))
              else Comp.pure (Comp.Step.next (zI .i64 x.1 (zF x_1.1),zI .i64 x.2 1))
           else Comp.pure (Comp.Step.done (Sum.inl x.1:Int⊕Int))) ((c:Int),(zs.length:Int))).val=some (if efs L.length ys zs.length=0 then .inl ((c+Xj ys:Nat):Int) else .inr (efs L.length ys zs.length)):=by
     intro ys
     induction ys with
     |nil =>
      intro zs c hx _
      rw[zL,if_neg (by rw[zG,zC,hx];simp),Comp.zB];rfl
     |cons y ys ih =>
      intro zs c hx hc
      have hy:L[zs.length]?=some y:=by rw[hx];simp
      have hlt:=zM hy
      have hsy:=hs y (List.mem_of_getElem? hy)
      have hcy:=hsy.1
      simp only[List.length_cons]at hc
      rw[zL,if_pos (by rw[zG,zC];show (zs.length:Int)<_;omega),zA,zJ hy,zJl,zA,DW hy hsy (by omega),zJl]
      show _=some (if (if eE L.length zs.length y=0 then efs L.length ys (zs.length+1) else eE L.length zs.length y)=0 then _ else Sum.inr (if eE L.length zs.length y=0 then efs L.length ys (zs.length+1) else eE L.length zs.length y))
      by_cases he:eE L.length zs.length y=0
      ·rw[if_neg (by rw[zd];simp[he]),if_pos he,Comp.zB,zJl,zN (by omega)]
       have hadd:zI .i64 (c:Int) (zF y.1)=((c+y.1.length:Nat):Int):=by rw[zC,vJ (by omega)];omega
       rw[hadd]
       have:=ih (zs++[y]) (c+y.1.length) (by rw[hx];simp) (by omega)
       rw[show (zs++[y]).length=zs.length+1 by simp]at this
       rw[show c+Xj (y::ys)=c+y.1.length+Xj ys by unfold Xj;rw[List.map_cons,List.sum_cons];omega]
       exact this
      ·rw[if_pos (by rw[zd];exact he),if_neg he,if_neg he,Comp.zB,zJl]
    have h0:=key L [] j.2.1.2.2.1.length rfl (by omega)
    rw[zA]
    refine(congrArg (fun o=>Option.bind o _) h0).trans ?_
    rw[zJl]
    simp only[List.length_nil]
    by_cases he:efs L.length L 0=0
    ·rw[if_pos he,if_pos he]
     show (if gtI ((j.2.1.2.2.1.length+Xj L:Nat):Int) 24=true then _ else _:Comp (Int×Unit)).val=_
     by_cases h24:24<j.2.1.2.2.1.length+Xj L
     ·rw[if_pos (by rw[yQ];omega),if_pos h24,Comp.zB]
     ·rw[if_neg (by rw[yQ];omega),if_neg h24,Comp.zB]
    ·rw[if_neg he,if_neg he];exact Comp.zB _
 ·have hf:fit j.1 j.2.1=ckP j.1:=by unfold fit;rw[if_neg hck]
  rw[if_pos (by rw[zd];exact hck),hf,if_neg hck,Comp.zB]
theorem uD {j:Job} (hw:j.1.2.2.1.length<9223372036854775807) (hs:∀x∈j.2.2.1,SmE x):(gL j).val=some (ckJ j,()):=by
 unfold gL ckJ
 rw[zA,XA hw,zJl]
 by_cases hck:ckP j.1=0
 ·rw[if_neg (by rw[zd];simp[hck]),zA,rX,zJl,yb]
  cases hfb:Yh j.1 j.2.1 with
  |false =>
   have hf:fit j.1 j.2.1=4:=by unfold fit;rw[if_pos hck,hfb];rfl
   rw[if_pos (by simp),if_neg (by rw[hf];decide),hf,Comp.zB]
  |true =>
   have hf:fit j.1 j.2.1=0:=by unfold fit;rw[if_pos hck,hfb];rfl
   obtain⟨_,_,f1,f2,f3,f4,hn,hwn⟩:=w8 hf
   rw[if_neg (by simp),if_pos hf]
   by_cases h8:8<j.2.2.1.length
   ·rw[if_pos (by rw[yQ,zC];omega),if_pos h8,Comp.zB]
   ·rw[if_neg (by rw[yQ,zC];omega),if_neg h8]
    generalize hL:j.2.2.1=L at h8 hs
    have key:∀(ys zs:List Eff) (c:Nat),L=zs++ys→c+ys.length * 100000≤10000000→(Comp.loop
          (fun (x:Int×Int)=>if ltI x.2 (zF L)=true then
            (Go.F.vt L x.2).bind fun x_1=>if neI x_1.1 0=true then Comp.pure (Comp.Step.done (Sum.inr x_1.1))
             else
              (idx L x.2).bind fun (x_2 :
                 List (List (Pln))×List (List (Pln))×Int×List Int×Unit) =>
               Comp.pure (Comp.Step.next (zI .i64 x.1 (zF x_2.1),zI .i64 x.2 1))
           else Comp.pure (Comp.Step.done (Sum.inl x.1:Int⊕Int))) ((c:Int),(zs.length:Int))).val=some (if efs L.length ys zs.length=0 then .inl ((c+Xj ys:Nat):Int) else .inr (efs L.length ys zs.length)):=by
     intro ys
     induction ys with
     |nil =>
      intro zs c hx _
      rw[zL,if_neg (by rw[zG,zC,hx];simp),Comp.zB];rfl
     |cons y ys ih =>
      intro zs c hx hc
      have hy:L[zs.length]?=some y:=by rw[hx];simp
      have hlt:=zM hy
      have hsy:=hs y (List.mem_of_getElem? hy)
      have hcy:=hsy.1
      simp only[List.length_cons]at hc
      rw[zL,if_pos (by rw[zG,zC];show (zs.length:Int)<_;omega),zA,lp hy hsy (by omega),zJl]
      show _=some (if (if eE L.length zs.length y=0 then efs L.length ys (zs.length+1) else eE L.length zs.length y)=0 then _ else Sum.inr (if eE L.length zs.length y=0 then efs L.length ys (zs.length+1) else eE L.length zs.length y))
      by_cases he:eE L.length zs.length y=0
      ·rw[if_neg (by rw[zd];simp[he]),if_pos he,zA,zJ hy,zJl,Comp.zB,zJl,zN (by omega)]
       have hadd:zI .i64 (c:Int) (zF y.1)=((c+y.1.length:Nat):Int):=by rw[zC,vJ (by omega)];omega
       rw[hadd]
       have:=ih (zs++[y]) (c+y.1.length) (by rw[hx];simp) (by omega)
       rw[show (zs++[y]).length=zs.length+1 by simp]at this
       rw[show c+Xj (y::ys)=c+y.1.length+Xj ys by unfold Xj;rw[List.map_cons,List.sum_cons];omega]
       exact this
      ·rw[if_pos (by rw[zd];exact he),if_neg he,if_neg he,Comp.zB,zJl]
    have h0:=key L [] j.2.1.2.2.1.length rfl (by omega)
    rw[zA]
    refine(congrArg (fun o=>Option.bind o _) h0).trans ?_
    rw[zJl]
    simp only[List.length_nil]
    by_cases he:efs L.length L 0=0
    ·rw[if_pos he,if_pos he]
     show (if gtI ((j.2.1.2.2.1.length+Xj L:Nat):Int) 24=true then _ else _:Comp (Int×Unit)).val=_
     by_cases h24:24<j.2.1.2.2.1.length+Xj L
     ·rw[if_pos (by rw[yQ];omega),if_pos h24,Comp.zB]
     ·rw[if_neg (by rw[yQ];omega),if_neg h24,Comp.zB]
    ·rw[if_neg he,if_neg he];exact Comp.zB _
 ·have hf:fit j.1 j.2.1=ckP j.1:=by unfold fit;rw[if_neg hck]
  rw[if_pos (by rw[zd];exact hck),hf,if_neg hck,Comp.zB]
def uB (n:Nat) (k:Int):Bool:=decide (k<0) || decide ((n:Int)≤k)
def twc:List Int→List Int→Bool
 |_,[]=>false
 |seen,k::l=>seen.contains k || twc (seen++[k]) l
def lsd (n:Nat) (done:List Int):Int:=bif done.any (uB n) then 5 else bif twc [] done then 6 else 0
theorem DO {n:Nat} {done:List Int} (hd:done.length≤1000000) (hn:n≤1000000):(Y0 (n:Int) done).val=some (lsd n done,()):=by
 unfold Y0 lsd
 have hc:(zR done fun z=>jA z.1 (n:Int)).val=some (done.any (uB n),()) :=
  kH (xs:=done) (f:=fun z=>jA z.1 (n:Int)) (p:=uB n) (by omega) fun k _=>by
   show (jA k (n:Int)).val=_
   unfold jA
   rw[Comp.zB,gZ];rfl
 rw[zA,hc,zJl]
 cases done.any (uB n) with
 |true=>rw[if_pos rfl,Comp.zB];rfl
 |false =>
  rw[if_neg (by simp)]
  have inner:∀(k:Int) (l:List Int),l.length≤1000000→(Comp.loop
              (fun (x:Int×Int)=>if ltI x.2 (zF l)=true then
                (idx l x.2).bind fun x_3=>if eqI k x_3=true then Comp.pure (Comp.Step.done (Sum.inl 6)) else Comp.pure (Comp.Step.next (x.1,zI .i64 x.2 1))
               else Comp.pure (Comp.Step.done (Sum.inr x.1:Int⊕Int)))
              (0,0)).val=some (bif l.contains k then .inl 6 else .inr 0):=by
   intro k l hl
   have h1:=JR (fun (_:Unit) i=>(((0:Int),((i:Nat):Int)):Int×Int)) l (fun (_:Unit) m=>if (!decide (k=m))=true then Comp.Step.next () else Comp.Step.done (Sum.inl 6:Int⊕Int)) (fun _=>(Sum.inr 0:Int⊕Int)) ()
    (body:=(fun (x:Int×Int)=>if ltI x.2 (zF l)=true then
                (idx l x.2).bind fun x_3=>if eqI k x_3=true then Comp.pure (Comp.Step.done (Sum.inl 6)) else Comp.pure (Comp.Step.next (x.1,zI .i64 x.2 1))
               else Comp.pure (Comp.Step.done (Sum.inr x.1:Int⊕Int))))
    (fun s i m hm=>by
     have hlt:=zM hm
     rw[if_pos (by rw[zG,zC];show (i:Int)<_;omega),zA,zJ hm,zJl,zN (by omega),show eqI k m=decide (k=m) from rfl]
     cases decide (k=m)<;>exact Comp.zB _)
    (fun s=>by rw[if_neg (by rw[zG,zC];simp),Comp.zB])
   rw[wD]at h1
   have:(l.all fun m=>!decide (k=m)) = !l.contains k:=by
    rw[List.all_eq_not_any_not]
    simp only[Bool.not_not]
    congr 1
    rw[Bool.eq_iff_iff,List.any_eq_true,List.contains_iff_mem]
    constructor
    ·rintro⟨m,h1,h2⟩
     have:k=m:=by simpa using h2
     rw[this];exact h1
    ·exact fun h=>⟨k,h,by simp⟩
   rw[this]at h1
   refine h1.trans ?_
   cases l.contains k<;>rfl
  have key:∀(ys zs:List Int),done=zs++ys→(Comp.loop
       (fun (x:Int×Int)=>if ltI x.2 (zF done)=true then
         (idx done x.2).bind fun x_1=>(sub done 0 x.2).bind fun x_2=>(Comp.loop
              (fun (x:Int×Int)=>if ltI x.2 (zF x_2)=true then
                (idx x_2 x.2).bind fun x_3=>if eqI x_1 x_3=true then Comp.pure (Comp.Step.done (Sum.inl 6)) else Comp.pure (Comp.Step.next (x.1,zI .i64 x.2 1))
               else Comp.pure (Comp.Step.done (Sum.inr x.1)))
              (x.1,0)).bind fun (x_3:Int⊕Int)=>match x_3 with
            |Sum.inl x=>Comp.pure (Comp.Step.done x)
            |Sum.inr x_4=>Comp.pure (Comp.Step.next (x_4,zI .i64 x.2 1))
        else Comp.pure (Comp.Step.done x.1)) (0,(zs.length:Int))).val=some (bif twc zs ys then 6 else 0):=by
   intro ys
   induction ys with
   |nil =>
    intro zs hx
    rw[zL,if_neg (by rw[zG,zC,hx];simp),Comp.zB];rfl
   |cons y ys ih =>
    intro zs hx
    have hy:done[zs.length]?=some y:=by rw[hx];simp
    have hlt:=zM hy
    have ht:done.take zs.length=zs:=by rw[hx];simp
    rw[zL,if_pos (by rw[zG,zC];show (zs.length:Int)<_;omega),zA,zJ hy,zJl,zA,Es (by omega),zJl,ht,zA]
    refine(congrArg (fun o=>Option.bind (Option.bind o _) _) (inner y zs (by omega))).trans ?_
    rw[zJl]
    unfold twc
    cases zs.contains y with
    |true=>exact(congrArg (fun o=>Option.bind o _) (Comp.zB _)).trans rfl
    |false =>
     refine(congrArg (fun o=>Option.bind o _) (Comp.zB _)).trans ?_
     rw[zJl,zN (by omega)]
     simpa using ih (zs++[y]) (by rw[hx];simp)
  rw[zA]
  refine(congrArg (fun o=>Option.bind o _) (key done [] rfl)).trans ?_
  rw[zJl]
  exact Comp.zB _
def opn (L:List Eff) (k:Int):Eff:=L.getD k.toNat ([],[],0,[],())
def kW (L:List Eff) (done:List Int):List Cell:=done.flatMap fun k=>(opn L k).1
def Xs (L:List Eff) (done:List Int):List Cell:=done.flatMap fun k=>(opn L k).2.1
def Yp (j:Job) (want:List Int):Part:=(j.1.1,j.1.2.1,want,())
def YA (j:Job) (want done:List Int):List Int×Int :=
 if ckJ j=0 then if ckP (Yp j want)=0 then if lsd j.2.2.1.length done=0 then
  if (apl (Yp j want) j.2.1 (kW j.2.2.1 done) (Xs j.2.2.1 done)).2=0 then
   if vd (Yp j want) (apl (Yp j want) j.2.1 (kW j.2.2.1 done) (Xs j.2.2.1 done)).1=35 then (done,0) else (done.filter fun k=>usl (Yp j want) (opn j.2.2.1 k).1,0)
  else ([],(apl (Yp j want) j.2.1 (kW j.2.2.1 done) (Xs j.2.2.1 done)).2)
  else ([],lsd j.2.2.1.length done) else ([],ckP (Yp j want)) else ([],ckJ j)
theorem j7 {f:Int→List Cell} (h:∀k,(f k).length≤100000):∀(done:List Int),(done.flatMap f).length≤done.length * 100000
 | []=>by simp
 |k::done=>by
  have:=j7 h done
  have:=h k
  simp only[List.flatMap_cons,zJo,List.length_cons];omega
theorem wu {L:List Eff} (hs:∀x∈L,SmE x) (k:Int):SmE (opn L k):=by
 unfold opn
 rw[List.getD_eq_getElem?_getD]
 cases h:L[k.toNat]? with
 |none=>exact⟨by simp,by simp,by simp⟩
 |some x=>exact hs x (List.mem_of_getElem? h)
theorem Qm {n:Nat} {done:List Int} (h:lsd n done=0):∀k∈done,0≤k∧k<n:=by
 unfold lsd at h
 cases ho:done.any (uB n) with
 |true=>rw[ho]at h;cases h
 |false =>
  rw[List.any_eq_false]at ho
  intro k hk
  have:=ho k hk
  unfold uB at this
  simp at this
  omega
theorem Je {L:List Eff} {k:Int} (h:0≤k∧k<L.length):(idx L k).val=some (opn L k):=by
 obtain⟨x,hx⟩:=zQ (xs:=L) (k:=k.toNat) (by omega)
 rw[KU h.1 hx]
 unfold opn
 rw[yq hx]
theorem I5 {L:List Eff} {done:List Int} (hd:done.length≤1000) (hs:∀x∈L,SmE x) (hin:∀k∈done,0≤k∧k<L.length):(Comp.loop
       (fun (x:List (List (Pln))×List (List (Pln))×Int)=>if ltI x.2.2 (zF done)=true then
         (idx done x.2.2).bind fun x_1=>(idx L x_1).bind fun (x_2 :
             List (List (Pln))×List (List (Pln))×Int×List Int×Unit) =>
           (idx L x_1).bind fun (x_3 :
              List (List (Pln))×List (List (Pln))×Int×List Int×Unit) =>
            (app x.1 x_2.1).bind fun zs=>(app x.2.1 x_3.2.1).bind fun zs_1=>Comp.pure (Comp.Step.next (zs,zs_1,zI .i64 x.2.2 1))
        else Comp.pure (Comp.Step.done (x.1,x.2.1)))
       ([],[],0)).val=some (kW L done,Xs L done):=by
 have key:∀(ys zs:List Int),done=zs++ys→(Comp.loop
       (fun (x:List (List (Pln))×List (List (Pln))×Int)=>if ltI x.2.2 (zF done)=true then
         (idx done x.2.2).bind fun x_1=>(idx L x_1).bind fun (x_2 :
             List (List (Pln))×List (List (Pln))×Int×List Int×Unit) =>
           (idx L x_1).bind fun (x_3 :
              List (List (Pln))×List (List (Pln))×Int×List Int×Unit) =>
            (app x.1 x_2.1).bind fun zs=>(app x.2.1 x_3.2.1).bind fun zs_1=>Comp.pure (Comp.Step.next (zs,zs_1,zI .i64 x.2.2 1))
        else Comp.pure (Comp.Step.done (x.1,x.2.1))) (kW L zs,Xs L zs,(zs.length:Int))).val=some (kW L done,Xs L done):=by
  intro ys
  induction ys with
  |nil =>
   intro zs hx
   rw[zL,if_neg (by rw[zG,zC,hx];simp),Comp.zB,zJl,hx,List.append_nil]
  |cons y ys ih =>
   intro zs hx
   have hy:done[zs.length]?=some y:=by rw[hx];simp
   have hlt:=zM hy
   have h1:=Je (hin y (List.mem_of_getElem? hy))
   have hsm:=wu hs y
   have hz1:(kW L zs).length≤zs.length * 100000:=j7 (fun k=>(wu hs k).1) zs
   have hz2:(Xs L zs).length≤zs.length * 100000:=j7 (fun k=>(wu hs k).2.1) zs
   have hs1:=hsm.1
   have hs2:=hsm.2.1
   have hzl:zs.length≤1000:=by omega
   have c1:kW L (zs++[y])=kW L zs++(opn L y).1:=by unfold kW;simp
   have c2:Xs L (zs++[y])=Xs L zs++(opn L y).2.1:=by unfold Xs;simp
   rw[zL,if_pos (by rw[zG,zC];show (zs.length:Int)<_;omega),zA,zJ hy,zJl,zA,h1,zJl,zA,h1,zJl,
    zA,zr (by show (kW L zs).length+_≤_;unfold LIM;omega),zJl,zA,zr (by show (Xs L zs).length+_≤_;unfold LIM;omega),zJl,Comp.zB,zJl,zN (by omega)]
   have:=ih (zs++[y]) (by rw[hx];simp)
   rw[c1,c2,zJo,zJq]at this
   exact this
 exact key done [] rfl
theorem Hp {c1 c2 c3:Comp (Int×Unit)} {e1 e2 e3:Int} (h1:c1.val=some (e1,())) (h2:c2.val=some (e2,())) (h3:e1=0→e2=0→c3.val=some (e3,())):(Comp.loop
     (fun (x:Int)=>if
        ltI x
          (zF
           [fun (z:Unit)=>c1,fun (z:Unit)=>c2,fun (z:Unit)=>c3]) =
         true then
       (idx
          [fun (z:Unit)=>c1,fun (z:Unit)=>c2,fun (z:Unit)=>c3]
          x).bind fun x_1=>(x_1 ()).bind fun x_2=>if neI x_2.1 0=true then Comp.pure (Comp.Step.done (Sum.inr (([],x_2.1):List Int×Int):Unit⊕List Int×Int)) else Comp.pure (Comp.Step.next (zI .i64 x 1))
      else Comp.pure (Comp.Step.done (Sum.inl ())))
     0).val=some (if e1=0 then if e2=0 then if e3=0 then .inl () else .inr ([],e3) else .inr ([],e2) else .inr ([],e1)):=by
 generalize hL:[fun (z:Unit)=>c1,fun (z:Unit)=>c2,fun (z:Unit)=>c3]=L
 have l0:(idx L ((0:Nat):Int)).val=some (fun _=>c1):=zJ (by rw[←hL];rfl)
 have l1:(idx L ((1:Nat):Int)).val=some (fun _=>c2):=zJ (by rw[←hL];rfl)
 have l2:(idx L ((2:Nat):Int)).val=some (fun _=>c3):=zJ (by rw[←hL];rfl)
 have hlen:zF L=3:=by rw[←hL];rfl
 show (Comp.loop _ ((0:Nat):Int)).val=_
 rw[zL,if_pos (by rw[zG,hlen];decide),zA,l0,zJl,zA,h1,zJl]
 by_cases he1:e1=0
 ·rw[if_neg (by rw[zd];simp[he1]),if_pos he1,Comp.zB,zJl]
  show (Comp.loop _ ((1:Nat):Int)).val=_
  rw[zL,if_pos (by rw[zG,hlen];decide),zA,l1,zJl,zA,h2,zJl]
  by_cases he2:e2=0
  ·rw[if_neg (by rw[zd];simp[he2]),if_pos he2,Comp.zB,zJl]
   show (Comp.loop _ ((2:Nat):Int)).val=_
   rw[zL,if_pos (by rw[zG,hlen];decide),zA,l2,zJl,zA,h3 he1 he2,zJl]
   by_cases he3:e3=0
   ·rw[if_neg (by rw[zd];simp[he3]),if_pos he3,Comp.zB,zJl]
    show (Comp.loop _ ((3:Nat):Int)).val=_
    rw[zL,if_neg (by rw[zG,hlen];decide),Comp.zB,zJl]
   ·rw[if_pos (by rw[zd];exact he3),if_neg he3,Comp.zB,zJl]
  ·rw[if_pos (by rw[zd];exact he2),if_neg he2,Comp.zB,zJl]
 ·rw[if_pos (by rw[zd];exact he1),if_neg he1,Comp.zB,zJl]
structure SmJ (j:Job):Prop where
 w:j.1.2.2.1.length<9223372036854775807
 e:∀x∈j.2.2.1,SmE x
 n:j.2.2.1.length≤1000000
theorem KN {j:Job} {want done:List Int} (hj:SmJ j) (hwt:want.length<9223372036854775807) (hd:done.length≤1000):(Ze j want done).val=some ((YA j want done).1,(YA j want done).2,()):=by
 unfold Ze YA
 have e1:(ZC j).val=some (ckJ j,()):=by unfold ZC;rw[zA,Xy hj.w hj.e,zJl,Comp.zB]
 have e2:(ZB (Yp j want)).val=some (ckP (Yp j want),()):=by unfold ZB;rw[zA,Z6 (p:=Yp j want) hwt,zJl,Comp.zB]
 have e3:(ZA j done).val=some (lsd j.2.2.1.length done,()):=by unfold ZA;rw[zA,zC,DO (by omega) hj.n,zJl,Comp.zB]
 rw[zA]
 refine(congrArg (fun o=>Option.bind o _) (Hp e1 e2 (fun _ _=>e3))).trans ?_
 rw[zJl]
 by_cases h1:ckJ j=0
 ·rw[if_pos h1,if_pos h1]
  by_cases h2:ckP (Yp j want)=0
  ·rw[if_pos h2,if_pos h2]
   by_cases h3:lsd j.2.2.1.length done=0
   ·rw[if_pos h3,if_pos h3]
    have hin:=Qm h3
    have hc1:(kW j.2.2.1 done).length≤100000000:=by have:=j7 (fun k=>(wu hj.e k).1) done;unfold kW;omega
    have hc2:(Xs j.2.2.1 done).length≤100000000:=by have:=j7 (fun k=>(wu hj.e k).2.1) done;unfold Xs;omega
    show (Comp.bind (Comp.loop _ _) _).val=_
    rw[zA]
    refine(congrArg (fun o=>Option.bind o _) (I5 hd hj.e hin)).trans ?_
    rw[zJl,zA]
    refine(congrArg (fun o=>Option.bind o _) (Il (p:=Yp j want) (x:=j.2.1) hwt hc1 hc2)).trans ?_
    rw[zJl]
    simp only
    by_cases h4:(apl (Yp j want) j.2.1 (kW j.2.2.1 done) (Xs j.2.2.1 done)).2=0
    ·rw[if_neg (by rw[zd];simp[h4]),if_pos h4,zA]
     refine(congrArg (fun o=>Option.bind o _) (wN (p:=Yp j want) hwt)).trans ?_
     rw[zJl]
     have hcl:(gJ done).val=some (done,()):=Jh (by unfold LIM;omega)
     by_cases h5:vd (Yp j want) (apl (Yp j want) j.2.1 (kW j.2.2.1 done) (Xs j.2.2.1 done)).1=35
     ·rw[if_pos (by rw[y5];exact h5),if_pos h5,zA,hcl,zJl,Comp.zB]
     ·have hpw:(Yp j want).2.2.1.length=(Yp j want).2.1.length∧(Yp j want).2.1.length≤16:=by
       unfold ckP at h2
       split at h2
       ·cases h2
       ·split at h2
        ·cases h2
        ·omega
      have hdel:(gE done fun z=>kB z.1 (Yp j want) j).val=some (done.filter fun k=>usl (Yp j want) (opn j.2.2.1 k).1):=by
       refine(mN (z:=(0:Int)) (f:=fun z=>kB z.1 (Yp j want) j) (p:=fun k=>!usl (Yp j want) (opn j.2.2.1 k).1) (by omega) fun k hk=>?_).trans ?_
       ·show (kB k (Yp j want) j).val=_
        unfold kB
        rw[zA,Je (hin k hk),zJl,zA,lY (by omega) hpw.1 (by have:=(wu hj.e k).1;omega),zJl,Comp.zB];rfl
       ·simp only[Bool.not_not]
      rw[if_neg (by rw[y5];exact h5),if_neg h5,zA,hcl,zJl,zA]
      refine(congrArg (fun o=>Option.bind o _) hdel).trans ?_
      rw[zJl,Comp.zB]
    ·rw[if_pos (by rw[zd];exact h4),if_neg h4,Comp.zB]
   ·rw[if_neg h3,if_neg h3];exact Comp.zB _
  ·rw[if_neg h2,if_neg h2];exact Comp.zB _
 ·rw[if_neg h1,if_neg h1];exact Comp.zB _
abbrev Chg:=Int×Int×Int×Unit
theorem IZ {xs:List Int} {n:Int} (hl:xs.length<9223372036854775807):(yg xs n).val=some (R3 (fnd (fun x=>decide (n=x)) xs 0),()):=by
 have e:yg xs n=(Comp.loop
   (fun (x:Int)=>if ltI x (zF xs)=true then
     (idx xs x).bind fun x_1=>if eqI n x_1=true then Comp.pure (Comp.Step.done (Sum.inr x)) else Comp.pure (Comp.Step.next (zI .i64 x 1))
    else Comp.pure (Comp.Step.done (Sum.inl ())))
   0).bind fun (x:Unit⊕Int)=>match x with
  |Sum.inl x=>Comp.pure (-1,())
  |Sum.inr x=>Comp.pure (x,()):=by kernel_rfl
 rw[e]
 have key:∀(ys:List Int) (i:Nat),Comp.kr (fun (s:Nat) x=>if decide (n=x)=true then Comp.Step.done (Sum.inr ((s:Nat):Int)) else Comp.Step.next (s+1)) (fun _=>(Sum.inl ():Unit⊕Int)) i ys=match fnd (fun x=>decide (n=x)) ys i with|some j=>Sum.inr ((j:Nat):Int)|none=>Sum.inl ():=by
  intro ys
  induction ys with
  |nil=>intro i;rfl
  |cons y ys ih =>
   intro i
   rw[Comp.kr,fnd]
   by_cases hp:decide (n=y)=true
   ·rw[if_pos hp,if_pos hp]
   ·rw[if_neg hp,if_neg hp];exact ih (i+1)
 have h:=ZV (fun (s:Nat) i=>((i:Nat):Int)) xs (fun (s:Nat) x=>if decide (n=x)=true then Comp.Step.done (Sum.inr ((s:Nat):Int)) else Comp.Step.next (s+1)) (fun _=>(Sum.inl ():Unit⊕Int)) (fun s i=>s=i)
  (body:=fun (x:Int)=>if ltI x (zF xs)=true then
     (idx xs x).bind fun x_1=>if eqI n x_1=true then Comp.pure (Comp.Step.done (Sum.inr x)) else Comp.pure (Comp.Step.next (zI .i64 x 1))
    else Comp.pure (Comp.Step.done (Sum.inl ())))
  (fun s i x hx hs=>by
   subst hs
   have hlt:=zM hx
   rw[if_pos (by rw[zG,zC];omega),zA,zJ hx,zJl,zN (show s<9223372036854775807 by omega),show eqI n x=decide (n=x) from rfl]
   cases decide (n=x)<;>exact Comp.zB _)
  (fun s i x s' hx hs he=>by
   subst hs
   by_cases hp:decide (n=x)=true
   ·rw[if_pos hp]at he;cases he
   ·rw[if_neg hp]at he;cases he;rfl)
  (fun s hs=>by rw[if_neg (by rw[zG,zC];omega),Comp.zB]) 0 rfl
 rw[key xs 0]at h
 rw[zA]
 refine(congrArg (fun o=>Option.bind o _) h).trans ?_
 rw[zJl]
 cases fnd (fun x=>decide (n=x)) xs 0<;>exact Comp.zB _
def ix (done:List Int) (k:Int):Nat:=(fnd (fun x=>decide (k=x)) done 0).getD 0
theorem Us {done:List Int} {k:Int} (h:k∈done):fnd (fun x=>decide (k=x)) done 0=some (ix done k)∧done[ix done k]?=some k:=by
 have h1:(fnd (fun x=>decide (k=x)) done 0).isSome=true:=by rw[uv,List.any_eq_true];exact⟨k,h,by simp⟩
 obtain⟨i,hi⟩:=Option.isSome_iff_exists.1 h1
 have hix:ix done k=i:=by unfold ix;rw[hi];rfl
 rw[hix]
 refine⟨hi,?_⟩
 obtain⟨_,x,h2,h3,_⟩:=qR hi
 rw[Nat.sub_zero]at h2
 have:k=x:=by simpa using h3
 rw[this];exact h2
def never (d:Int):Bool:=decide (d<0) || decide (100000<d)
def HD (done shops days told:List Int) (k:Int):Int :=
 if told.getD (shops.getD (ix done k) 0).toNat 0<days.getD (ix done k) 0 then shops.getD (ix done k) 0 else -1
def Vw (j:Job) (done shops days told:List Int) (v:List Int):List Chg:=v.map fun k=>(k,HD done shops days told k,(opn j.2.2.1 k).2.2.1,())
def chg (j:Job) (want done shops days told:List Int):List Chg×Int :=
 if (YA j want done).2=0 then if shops.length≠done.length∨days.length≠done.length then ([],4) else if 6<told.length then ([],2) else if shops.any (uB told.length)=true then ([],55) else if days.any never=true∨told.any never=true then ([],3)
  else (Vw j done shops days told (YA j want done).1,0) else ([],(YA j want done).2)
theorem I7 {j:Job} {want done:List Int}:∀k∈(YA j want done).1,k∈done:=by
 unfold YA
 intro k hk
 split at hk
 ·split at hk
  ·split at hk
   ·split at hk
    ·split at hk
     ·exact hk
     ·exact(List.mem_filter.1 hk).1
    ·cases hk
   ·cases hk
  ·cases hk
 ·cases hk
theorem SK {j:Job} {want done:List Int} (h:(YA j want done).2=0):lsd j.2.2.1.length done=0∧ckJ j=0:=by
 unfold YA at h
 split at h
 ·rename_i h1
  split at h
  ·split at h
   ·rename_i h3;exact⟨h3,h1⟩
   ·rename_i h3;exact absurd h h3
  ·rename_i h3;exact absurd h h3
 ·rename_i h3;exact absurd h h3
theorem I8 {j:Job} {want done:List Int}:(YA j want done).1.length≤done.length:=by
 unfold YA
 split
 ·split
  ·split
   ·split
    ·split
     ·exact zJp _
     ·exact List.length_filter_le _ _
    ·simp
   ·simp
  ·simp
 ·simp
theorem wk {j:Job} {want done shops days told:List Int} (hj:SmJ j) (hwt:want.length<9223372036854775807) (hd:done.length≤1000) (hs:shops.length<9223372036854775807) (hy:days.length<9223372036854775807) (ht:told.length<9223372036854775807) :
  (ZD j want done shops days told).val=some ((chg j want done shops days told).1,(chg j want done shops days told).2,()):=by
 unfold ZD chg
 rw[zA,KN hj hwt hd,zJl]
 by_cases h0:(YA j want done).2=0
 ·rw[if_neg (by rw[zd];simp[h0]),if_pos h0]
  by_cases h1:shops.length≠done.length∨days.length≠done.length
  ·rw[if_pos (by rw[gZ,Bool.or_eq_true,zd,zd,zC,zC,zC];omega),if_pos h1,Comp.zB]
  ·rw[if_neg (by rw[gZ,Bool.or_eq_true,zd,zd,zC,zC,zC];omega),if_neg h1]
   by_cases h2:6<told.length
   ·rw[if_pos (by rw[yQ,zC];omega),if_pos h2,Comp.zB]
   ·rw[if_neg (by rw[yQ,zC];omega),if_neg h2]
    have c1:(zR shops fun z=>gI z.1 told).val=some (shops.any (uB told.length),()) :=
     kH (xs:=shops) (f:=fun z=>gI z.1 told) (p:=uB told.length) hs fun k _=>by
      show (gI k told).val=_
      unfold gI
      rw[Comp.zB,gZ];rfl
    have cn:∀l:List Int,l.length<9223372036854775807→(zR l fun z=>yy z.1).val=some (l.any never,()):=fun l hl=>kH (xs:=l) (f:=fun z=>yy z.1) (p:=never) hl fun k _=>by
      show (yy k).val=_
      unfold yy
      rw[Comp.zB,gZ];rfl
    rw[zA,c1,zJl]
    by_cases h3:shops.any (uB told.length)=true
    ·rw[if_pos h3,if_pos h3,Comp.zB]
    ·rw[if_neg h3,if_neg h3,zA,cn days hy,zJl,zA]
     have hgd:(Comp.gd (ntB (days.any never)) (zR told fun z=>yy z.1) (false,())).val=some (bif days.any never then false else told.any never,()):=by
      cases days.any never with
      |true=>exact Comp.zB _
      |false=>exact cn told ht
     refine(congrArg (fun o=>Option.bind o _) hgd).trans ?_
     rw[zJl]
     by_cases h4:days.any never=true∨told.any never=true
     ·rw[if_pos (by
       show sel (days.any never) true (bif days.any never then false else told.any never)=true
       cases hh:days.any never with
       |true=>rfl
       |false=>rw[hh]at h4;simpa[sel] using h4),if_pos h4,Comp.zB]
     ·rw[if_neg (by
       show ¬sel (days.any never) true (bif days.any never then false else told.any never)=true
       rw[not_or]at h4
       have a1:days.any never=false:=by simpa using h4.1
       have a2:told.any never=false:=by simpa using h4.2
       rw[a1,a2];simp[sel]),if_neg h4]
      obtain⟨hl0,hck⟩:=SK h0
      have hin:=Qm hl0
      have hsub:=I7 (j:=j) (want:=want) (done:=done)
      have hvl:=I8 (j:=j) (want:=want) (done:=done)
      generalize hv:(YA j want done).1=v at hsub hvl
      have hw:=jV v.length (fun k l=>match v[k]? with|some n=>l++[(n,HD done shops days told n,(opn j.2.2.1 n).2.2.1,())]|none=>l) (fun k l=>l++Vw j done shops days told (v.drop k)) (fun l k=>l.length=k)
       (body:=(fun (x:List (Int×Int×Int×Unit)×Int)=>if ltI x.2 (zF v)=true then
                (idx v x.2).bind fun x_2=>(Go.F.yg done x_2).bind fun x_3=>(idx shops x_3.1).bind fun x_4=>(idx days x_3.1).bind fun x_5=>(idx told x_4).bind fun x_6=>jn
                      (fun (x_7:Int)=>(idx j.2.2.1 x_2).bind fun (x_8 :
                          List (List (Pln))×List (List (Pln))×Int×List Int×Unit) =>
                        (app x.1 [(x_2,x_7,x_8.2.2.1,())]).bind fun zs=>Comp.pure (Comp.Step.next (zs,zI .i64 x.2 1)))
                      fun (j:Int→Comp (Comp.Step (List (Int×Int×Int×Unit)×Int) (List (Int×Int×Int×Unit))))=>if gtI x_5 x_6=true then j x_4 else j (-1)
               else Comp.pure (Comp.Step.done x.1)))
       (fun l k hk hI=>by
        obtain⟨n,hn⟩:=zQ (xs:=v) (k:=k) hk
        have hnd:=hsub n (List.mem_of_getElem? hn)
        obtain⟨g1,g2⟩:=Us hnd
        have hil:=zM g2
        have hi:(yg done n).val=some (((ix done n:Nat):Int),()):=by rw[IZ (by omega),g1];rfl
        obtain⟨s,hs'⟩:=zQ (xs:=shops) (k:=ix done n) (by omega)
        obtain⟨d,hd'⟩:=zQ (xs:=days) (k:=ix done n) (by omega)
        have hsr:0≤s∧s<told.length:=by
         have:shops.any (uB told.length)=false:=by simpa using h3
         rw[List.any_eq_false]at this
         have:=this s (List.mem_of_getElem? hs')
         unfold uB at this
         simp at this
         omega
        obtain⟨t,ht'⟩:=zQ (xs:=told) (k:=s.toNat) (by omega)
        refine⟨?_,by rw[hn];simp[hI],by rw[drop_cons hn,hn];simp[Vw]⟩
        rw[hn]
        simp only
        rw[if_pos (by rw[zG,zC];show (k:Int)<_;omega),zA,zJ hn,zJl,zA,hi,zJl,zA,zJ hs',zJl,zA,zJ hd',zJl,zA,KU hsr.1 ht',zJl,vi]
        have hjn:∀pay:Int,((idx j.2.2.1 n).bind fun (x_8 :
                          List (List (Pln))×List (List (Pln))×Int×List Int×Unit) =>
                        (app l [(n,pay,x_8.2.2.1,())]).bind fun zs=>(Comp.pure (Comp.Step.next (zs,zI .i64 (k:Int) 1)):Comp (Comp.Step (List Chg×Int) (List Chg)))).val=some (.next (l++[(n,pay,(opn j.2.2.1 n).2.2.1,())],((k+1:Nat):Int))):=fun pay=>by
         rw[zA,Je (hin n hnd),zJl,zA,zr (by simp only[zJq];unfold LIM;omega),zJl,Comp.zB,zN (by omega)]
        have hpay:HD done shops days told n=if t<d then s else -1:=by
         unfold HD
         rw[yq hs',yq hd',yq ht']
        rw[hpay]
        by_cases hlt:t<d
        ·rw[if_pos (by rw[yQ];exact hlt),if_pos hlt];exact hjn s
        ·rw[if_neg (by rw[yQ];exact hlt),if_neg hlt];exact hjn (-1))
       (fun l=>by rw[if_neg (by rw[zG,zC];simp),Comp.zB]) (fun l=>by rw[List.drop_length];simp[Vw]) 0 [] (Nat.zero_le _) rfl
      rw[zA]
      refine(congrArg (fun o=>Option.bind o _) hw).trans ?_
      rw[zJl,Comp.zB]
      simp
 ·rw[if_pos (by rw[zd];exact h0),if_neg h0,Comp.zB]
abbrev Drw:=List Int×Int×Unit
def DOk (n:Int) (d:Drw):Prop:=0≤d.2.1∧d.2.1≤n
theorem Qj {n m:Int} (hm:1≤m∧m≤1000000):Ok (jM n m) fun r=>0≤r.1∧r.1<m:=by
 unfold jM
 rw[if_neg (by rw[zG];omega),Ok.bind,Ok.rem (by omega),Ok.bind]
 have h1 : -m<n.tmod m∧n.tmod m<m:=by
  have:=Int.tmod_lt_of_pos n (show 0<m by omega)
  have h2 : -m<n.tmod m:=by
   rcases Int.le_total 0 n with hn|hn
   ·have:=Int.tmod_nonneg m hn;omega
   ·have h3:=Int.tmod_lt_of_pos (-n) (show 0<m by omega)
    rw[Int.neg_tmod]at h3;omega
  exact⟨h2,this⟩
 rw[vJ (by omega),Ok.rem (by omega),Ok.pure]
 have h3:0≤n.tmod m+m:=by omega
 refine⟨?_,?_⟩
 ·show 0≤(n.tmod m+m).tmod m
  exact Int.tmod_nonneg m h3
 ·show (n.tmod m+m).tmod m<m
  exact Int.tmod_lt_of_pos _ (by omega)
theorem Ug {d:Drw} {m k:Int} (hm:1≤m∧m≤1000000) (hk:0≤k∧k≤1000000000) (hd:DOk k d):Ok (zH d m) fun r=>DOk (k+1) r.1.1∧(0≤r.2.1∧r.2.1<m):=by
 obtain⟨h1,h2⟩:=hd
 unfold zH
 by_cases h:(zF d.1)≤d.2.1
 ·rw[if_pos (by rw[Kz];exact h),Ok.pure]
  refine⟨⟨h1,?_⟩,?_⟩
  ·show d.2.1≤k+1;omega
  ·show 0≤(0:Int)∧(0:Int)<m;omega
 ·rw[zC]at h
  rw[if_neg (by rw[Kz,zC];exact h),vJ (by omega),YI (by omega),show d.2.1+1-1=d.2.1 by omega,Ok.bind]
  obtain⟨x,hx⟩:=zQ (xs:=d.1) (k:=d.2.1.toNat) (by omega)
  rw[Ok.idx h1 hx,Ok.bind]
  refine(Qj hm).mono fun r hr=>?_
  rw[Ok.pure]
  refine⟨⟨?_,?_⟩,hr⟩
  ·show 0≤d.2.1+1;omega
  ·show d.2.1+1≤k+1;omega
theorem zCf (a b:V3):Ok (yG a b) fun r=>r.1.length=6:=by
 unfold yG
 rw[Ok.pure];rfl
def kG (b n:Nat) (C:List Cell):Prop:=C.length≤n∧∀c∈C,c≠[]∧c.length≤b
abbrev u5:=kG 10
theorem kG.snoc {b n:Nat} {C:List Cell} {c:Cell} (h:kG b n C) (hc:c≠[]∧c.length≤b):kG b (n+1) (C++[c]) :=
by
  refine⟨?_,fun d hd=>?_⟩
  · rw[zJo,zJq];have:=h.1;omega
  · rcases List.mem_append.1 hd with hd|hd
    · exact h.2 d hd
    · rw[List.mem_singleton.1 hd];exact hc
theorem kG.mono {b n m:Nat} {C:List Cell} (h:kG b n C) (hnm:n≤m):kG b m C:=⟨Nat.le_trans h.1 hnm,h.2⟩
theorem kG.wide {b d n:Nat} {C:List Cell} (h:kG b n C) (hbd:b≤d):kG d n C:=⟨h.1,fun c hc=>⟨(h.2 c hc).1,Nat.le_trans (h.2 c hc).2 hbd⟩⟩
theorem QB {c:Cell} (h:c.length=6):c≠[]∧c.length≤6:=by
 refine⟨fun e=>?_,?_⟩
 ·rw[e]at h;cases h
 ·omega
theorem yZ {d:Drw} {m k:Int} {f:((Drw×Unit)×Int×Unit)→Comp α} {P:α→Prop} (hd:DOk k d) (hm:1≤m∧m≤1000000) (hk:0≤k∧k≤1000000000)
  (h:∀d' v,DOk (k+1) d'→0≤v→v<m→Ok (f ((d',()),v,())) P):Ok ((zH d m).bind f) P:=by
 rw[Ok.bind]
 exact(Ug hm hk hd).mono fun r hr=>h r.1.1 r.2.1 hr.1 hr.2.1 hr.2.2
theorem jN {k:α→Comp β} {b:(α→Comp β)→Comp β} {P:β→Prop} (I:α→Prop) (hb:∀j,(∀x,I x→Ok (j x) P)→Ok (b j) P) (hk:∀x,I x→Ok (k x) P):Ok (jn k b) P:=hb k hk
theorem d0 (x:List Int):DOk 0 (x,0,()):=by unfold DOk;show (0:Int)≤0∧(0:Int)≤0;omega
theorem ZO {xs:List β} {i:Int} {f:β→Comp α} {P:α→Prop} (h0:0≤i) (h1:i<xs.length) (h:∀x,x∈xs→Ok (f x) P):Ok ((idx xs i).bind f) P:=by
 obtain⟨x,hx⟩:=zQ (xs:=xs) (k:=i.toNat) (by omega)
 rw[Ok.bind,Ok.idx h0 hx]
 exact h x (List.mem_of_getElem? hx)
theorem Ed:1000000≤LIM:=by decide
theorem gA {xs ys:List β} {f:List β→Comp α} {P:α→Prop} (hl:xs.length+ys.length≤1000000) (h:Ok (f (xs++ys)) P):Ok ((app xs ys).bind f) P:=by
 rw[Ok.bind,Ok.app (by have:=Ed;omega)];exact h
theorem Ec {a b:V3} {f:Cell×Unit→Comp α} {P:α→Prop} (h:∀c:Cell,c.length=6→Ok (f (c,())) P):Ok ((yG a b).bind f) P:=by
 rw[Ok.bind]
 exact(zCf a b).mono fun r hr=>h r.1 hr
theorem VY {ys:Cell} {f:Cell→Comp α} {P:α→Prop} (hn:ys≠[]) (hl:ys.length≤1000000) (h:Ok (f ys) P):Ok ((Vz ys).bind f) P:=by
 cases ys with
 |nil=>exact(hn rfl).elim
 |cons y ys =>
  show Ok ((app [] (y::ys)).bind f) P
  exact gA (by simpa using hl) h
theorem CH {a b:Bool} (h:sel a b false=true):a=true∧b=true:=by cases a<;>cases b<;>simp_all [sel]
def ZN (p:Part):Prop:=u5 12 p.2.1∧p.2.1≠[]∧p.2.2.1.length=p.2.1.length
theorem U7 {x0:List (List Int)} {p:Part} (hp:ZN p):Ok (y8 x0 p) fun r=>r.1.length≤4:=by
 unfold y8
 rw[Ok.bind]
 have hq:∀n:Nat,n<9223372036854775807→True:=fun _ _=>trivial
 refine(Ok.loop (fun s:List Cell×Int=>0≤s.2∧s.2≤4∧(s.1.length:Int)=s.2) (fun s=>(4-s.2).toNat) (P:=fun r=>r.length≤4) ?_ ?_).mono fun r hr=>?_
 ·exact⟨by show (0:Int)≤0;omega,by show (0:Int)≤4;omega,rfl⟩
 ·rintro⟨C,i⟩ ⟨h1,h2,h3⟩
  dsimp only at h1 h2 h3 ⊢
  have hl:0<p.2.1.length:=by cases hc:p.2.1 with
   |nil=>exact(hp.2.1 hc).elim
   |cons _ _=>simp
  have hl2:=hp.1.1
  split
  ·rename_i hc
   obtain⟨c1,c2⟩:=CH hc
   rw[zG]at c1 c2
   rw[zC]at c1
   refine ZO h1 c1 fun d hd=>?_
   refine yZ (d0 d) (by decide) (by decide) fun d1 v1 e1 g1 g1'=>?_
   refine yZ e1 (by rw[zC];omega) (by decide) fun d2 v2 e2 g2 g2'=>?_
   rw[zC]at g2'
   refine ZO g2 g2' fun c hc=>?_
   obtain⟨k1,k2⟩:=hp.1.2 c hc
   refine VY k1 (by omega) ?_
   refine jN (fun x=>DOk 4 x.2) (fun j hj=>?_) fun x hx=>?_
   ·dsimp only
    split
    ·refine yZ e2 (by decide) (by decide) fun d3 v3 e3 g3 g3'=>?_
     refine yZ e3 (by decide) (by decide) fun d4 v4 e4 g4 g4'=>?_
     refine gA (by simp;omega) ?_
     exact hj _ e4
    ·exact hj _ ⟨e2.1,by have:=e2.2;show d2.2.1≤4;omega⟩
   ·refine jN (fun _=>True) (fun j hj=>?_) fun y _=>?_
    ·dsimp only
     split
     ·refine yZ hx (by decide) (by decide) fun d3 v3 e3 g3 g3'=>?_
      refine yZ e3 (by decide) (by decide) fun d4 v4 e4 g4 g4'=>?_
      refine yZ e4 (by decide) (by decide) fun d5 v5 e5 g5 g5'=>?_
      refine yZ e5 (by decide) (by decide) fun d6 v6 e6 g6 g6'=>?_
      refine yZ e6 (by decide) (by decide) fun d7 v7 e7 g7 g7'=>?_
      refine yZ e7 (by decide) (by decide) fun d8 v8 e8 g8 g8'=>?_
      exact Ec fun c _=>hj _ trivial
     ·exact hj _ trivial
    ·refine gA (by simp;omega) ?_
     rw[Ok.pure]
     dsimp only
     rw[vJ (by omega)]
     refine⟨⟨by omega,by omega,by rw[zJo,zJq];omega⟩,by omega⟩
  ·rw[Ok.pure];dsimp only;omega
 ·rw[Ok.pure];exact hr
theorem VX {c:Cell} {f:Bool×Unit→Comp α} {P:α→Prop} (hc:c.length≤100) (h:∀b,Ok (f (b,())) P):Ok ((zu c).bind f) P:=by
 rw[Ok.yL (YU c)];exact h _
theorem DOk.up {k n:Int} {d:Drw} (h:DOk k d) (hk:k≤n):DOk n d:=⟨h.1,by have:=h.2;omega⟩
theorem kG.set {b n:Nat} {C:List Cell} {c:Cell} (h:kG b n C) (hc:c≠[]∧c.length≤b) (i:Int):kG b n (jJ C i c):=by
 unfold jJ
 refine⟨by rw[List.length_set];exact h.1,fun d hd=>?_⟩
 rcases List.mem_or_eq_of_mem_set hd with hd|hd
 ·exact h.2 d hd
 ·rw[hd];exact hc
theorem Uw (p:Pln):Ok (vA p) fun _=>True:=by
 unfold vA Z7;rw[Ok.bind,Ok.pure,Ok.pure];trivial
theorem UC (x0:List (List Int)):Ok (j6 x0) fun r=>ZN r.1:=by
 unfold j6
 rw[Ok.bind]
 refine(Ok.loop (fun s:Int×List (List Int)=>0≤s.1∧s.1≤2∧s.2.length=2) (fun s=>(2-s.1).toNat) (P:=fun r=>r.length=2) ?_ ?_).mono fun L hL=>?_
 ·exact⟨by show (0:Int)≤0;omega,by show (0:Int)≤2;omega,rfl⟩
 ·rintro⟨i,L⟩ ⟨h1,h2,h3⟩
  dsimp only at h1 h2 h3 ⊢
  split
  ·rename_i hc
   obtain⟨c1,c2⟩:=CH hc
   rw[zG]at c1 c2
   rw[zC]at c1
   refine ZO h1 c1 fun d hd=>?_
   rw[Ok.yL (jm ⟨h1,by omega⟩),Ok.pure]
   dsimp only
   rw[vJ (by omega)]
   refine⟨⟨by omega,by omega,by unfold jJ;rw[List.length_set];exact h3⟩,by omega⟩
  ·rw[Ok.pure];exact h3
 refine ZO (by decide) (by rw[hL];decide) fun l0 _=>?_
 refine yZ (d0 l0) (by decide) (by decide) fun d1 v1 e1 g1 g1'=>?_
 refine jN (fun x=>DOk 2 x.2) (fun j hj=>?_) fun x hx=>?_
 ·dsimp only
  refine yZ e1 (by decide) (by decide) fun d2 v2 e2 g2 g2'=>?_
  dsimp only
  split
  ·exact hj _ e2
  ·exact hj _ e2
 dsimp only
 refine yZ hx (by decide) (by decide) fun d2 v2 e2 g2 g2'=>?_
 refine yZ e2 (by decide) (by decide) fun d3 v3 e3 g3 g3'=>?_
 dsimp only at e3 ⊢
 have hg1:v1<3:=g1'
 rw[Ok.bind]
 refine(Ok.loop (fun s:Int×Int×Part×Drw=>0≤s.2.1∧s.2.1≤2+v1∧kG 6 (2 * s.2.1).toNat s.2.2.1.2.1∧s.2.1≤s.2.2.1.2.1.length∧s.2.2.1.2.2.1=[]∧DOk (4+s.2.1) s.2.2.2) (fun s=>(2+v1-s.2.1).toNat)
  (P:=fun r=>kG 6 8 r.1.2.1∧2≤r.1.2.1.length∧r.1.2.2.1=[]∧DOk 8 r.2) ?_ ?_).mono fun R hR=>?_
 ·refine⟨by show (0:Int)≤0;omega,by show (0:Int)≤2+v1;omega,⟨Nat.zero_le _,fun _ h=>by cases h⟩,by show (0:Int)≤(0:Nat);omega,rfl,e3.up (by show (2:Int)+1+1≤4+0;omega)⟩
 ·rintro⟨X,i,⟨nm,C,w,u⟩,d⟩ ⟨h1,h2,h3,h4,h5,h6⟩
  dsimp only at h1 h2 h3 h4 h5 h6 ⊢
  rw[vJ (m:=2) (n:=v1) (by omega)]
  split
  ·rename_i hc
   rw[zG]at hc
   refine yZ h6 (by decide) (by omega) fun d4 v4 e4 g4 g4'=>?_
   refine Ec fun c hc6=>?_
   have hl:=h3.1
   refine gA (by simp;omega) ?_
   refine jN (fun y=>kG 6 (2 * (i+1)).toNat y.2.1∧i+1≤y.2.1.length∧y.2.2.1=[]) (fun j hj=>?_) fun y hy=>?_
   ·dsimp only
    have s1:kG 6 ((2 * i).toNat+1) (C++[c]):=h3.snoc (QB hc6)
    split
    ·refine Ec fun c2 hc62=>?_
     refine gA (by simp;omega) ?_
     refine hj _ ⟨(s1.snoc (QB hc62)).mono (by omega),?_,h5⟩
     dsimp only
     rw[zJo,zJo,zJq];omega
    ·refine hj _ ⟨s1.mono (by omega),?_,h5⟩
     dsimp only
     rw[zJo,zJq];omega
   ·rw[Ok.pure]
    dsimp only
    rw[vJ (m:=i) (n:=1) (by omega)]
    exact⟨⟨by omega,by omega,hy.1,hy.2.1,hy.2.2,e4.up (by omega)⟩,by omega⟩
  ·rename_i hc
   rw[zG]at hc
   rw[Ok.pure]
   exact⟨h3.mono (by omega),by dsimp only;omega,h5,h6.up (by omega)⟩
 obtain⟨q1,q2,q3,q4⟩:=hR
 obtain⟨⟨nm,C,w,u⟩,d⟩:=R
 dsimp only at q1 q2 q3 q4 ⊢
 refine jN (fun x=>DOk 9 x.2) (fun j hj=>?_) fun x hx=>?_
 ·skip
  refine yZ q4 (by decide) (by decide) fun d4 v4 e4 g4 g4'=>?_
  dsimp only
  split
  ·exact hj _ e4
  ·exact hj _ e4
 skip
 refine jN (fun y=>u5 9 y.2.1∧2≤y.2.1.length∧y.2.2.1=[]) (fun j hj=>?_) fun y hy=>?_
 ·skip
  have k0:∀nm u,(fun y:Part=>u5 9 y.2.1∧2≤y.2.1.length∧y.2.2.1=[]) (nm,C,w,u):=fun _ _=>⟨(q1.wide (by decide)).mono (by omega),q2,q3⟩
  split
  ·have hl:=q1.1
   refine yZ hx (by rw[zC];omega) (by decide) fun d4 v4 e4 g4 g4'=>?_
   refine yZ e4 (by decide) (by decide) fun d5 v5 e5 g5 g5'=>?_
   rw[zC]at g4'
   dsimp only
   refine ZO g4 g4' fun c hc=>?_
   obtain⟨m1,m2⟩:=q1.2 c hc
   refine gA (by simp;omega) ?_
   refine gA (by simp;omega) ?_
   refine ZO g4 g4' fun c' hc'=>?_
   obtain⟨m1',m2'⟩:=q1.2 c' hc'
   refine gA (by simp;omega) ?_
   rw[Ok.bind]
   refine(Uw _).mono fun fl _=>?_
   refine gA (by simp;omega) ?_
   refine VX (by simp;omega) fun b1=>?_
   rw[Ok.bind]
   refine Ok.CA (fun _=>(Ok.jB (YU _)).2 ?_) (fun _=>?_)
   all_goals
    refine jN (fun y=>u5 9 y.2.1∧2≤y.2.1.length∧y.2.2.1=[]) (fun j' hj'=>?_) fun y hy=>hj _ hy
    dsimp only
    split
    ·rw[Ok.yL (jm ⟨g4,g4'⟩)]
     have t3:∀z:Cell,(jJ C v4 z).length=C.length:=fun z=>by unfold jJ;rw[List.length_set]
     refine gA (by rw[zJq,t3];omega) ?_
     refine hj' _ ⟨((q1.wide (by decide)).set (by simp;omega) v4).snoc (by simp;omega),?_,q3⟩
     dsimp only
     rw[zJo,zJq,t3];omega
    ·exact hj' _ ⟨(q1.wide (by decide)).mono (by omega),q2,q3⟩
  ·exact hj _ (k0 _ _)
 skip
 refine ZO (by decide) (by rw[hL];decide) fun l1 _=>?_
 obtain⟨nm2,C2,w2,u2⟩:=y
 obtain⟨y1,y2,y3⟩:=hy
 dsimp only at y1 y2 y3 ⊢
 subst y3
 rw[Ok.bind]
 refine(Ok.loop (fun s:Int×Part×Drw=>0≤s.1∧s.1≤C2.length∧s.2.1.2.1=C2∧(s.2.1.2.2.1.length:Int)=s.1∧DOk s.1 s.2.2) (fun s=>(C2.length-s.1).toNat)
  (P:=fun r=>ZN r) ?_ ?_).mono fun R hR=>?_
 ·exact⟨by show (0:Int)≤0;omega,by show (0:Int)≤C2.length;omega,rfl,rfl,d0 l1⟩
 ·rintro⟨i,⟨nm3,C3,w3,u3⟩,d⟩ ⟨h1,h2,h3,h4,h5⟩
  dsimp only at h1 h2 h3 h4 h5 ⊢
  subst h3
  have hl:=y1.1
  split
  ·rename_i hc
   rw[zG,zC]at hc
   refine yZ h5 (by decide) (by omega) fun d4 v4 e4 g4 g4'=>?_
   dsimp only
   refine ZO g4 g4' fun z _=>?_
   refine gA (by simp;omega) ?_
   rw[Ok.pure]
   dsimp only
   rw[vJ (m:=i) (n:=1) (by omega)]
   exact⟨⟨by omega,by omega,rfl,by rw[zJo,zJq];omega,e4⟩,by omega⟩
  ·rename_i hc
   rw[zG,zC]at hc
   rw[Ok.pure]
   refine⟨y1.mono (by omega),fun e=>?_,by dsimp only;omega⟩
   dsimp only at e
   rw[e]at y2;simp at y2
 ·rw[Ok.pure];exact hR
theorem zBz {p:Part} (hp:ZN p):Ok (kN p) fun _=>True:=by
 unfold kN
 have h1:=hp.1.1
 have:=Ed
 rw[Ok.bind,Ok.mk (by rw[zC];omega),Ok.bind,Ok.mk (by rw[zC];omega),Ok.pure];trivial
def nJ (x:Eff):Prop:=x.1.length≤50∧x.2.1.length≤50∧x.2.2.2.1.length≤50
theorem qu {xs:List β} {l h:Int} {f:List β→Comp α} {P:α→Prop} (hr:0≤l∧l≤h∧h≤xs.length) (k:∀ys,ys.length=(h-l).toNat→Ok (f ys) P):Ok ((sub xs l h).bind f) P:=by
 rw[Ok.bind,Ok.sub hr]
 exact k _ (by rw[List.length_drop,List.length_take];omega)
theorem mT {x0:List (List Int)} {p:Part} {f:List Cell×Unit→Comp α} {P:α→Prop} (hp:ZN p) (k:∀C:List Cell,C.length≤4→Ok (f (C,())) P):Ok ((y8 x0 p).bind f) P:=by
 rw[Ok.bind];exact(U7 hp).mono fun r hr=>k r.1 hr
theorem Zu (m n:Int):Gy m n=min m n:=rfl
theorem Ig {p:Part} {x1:List Int} {x2:Int} (hp:ZN p):Ok (y6 p x1 x2) fun r=>nJ r.1:=by
 unfold y6
 have hl:=hp.1.1
 refine yZ (d0 x1) (by decide) (by decide) fun d1 v1 e1 g1 g1'=>?_
 refine jN (fun x=>DOk 2 x.2) (fun j hj=>?_) fun x hx=>?_
 ·dsimp only
  split
  ·refine yZ e1 (by decide) (by decide) fun d2 v2 e2 g2 g2'=>?_
   exact hj _ e2
  ·exact hj _ (e1.up (by decide))
 refine jN (fun x:Eff=>x.1=[]∧x.2.1=[]∧x.2.2.2.1.length≤50) (fun j hj=>?_) fun y hy=>?_
 ·dsimp only
  split
  ·exact hj _ ⟨rfl,rfl,by show 1≤50;omega⟩
  ·exact hj _ ⟨rfl,rfl,by show 0≤50;omega⟩
 refine yZ hx (by decide) (by decide) fun d2 v2 e2 g2 g2'=>?_
 rw[Ok.bind]
 refine(Ok.loop (fun s:Int×Eff×Drw=>0≤s.1∧s.1≤p.2.1.length∧(s.2.1.1.length≤s.1∧s.2.1.2.1=[]∧s.2.1.2.2.2.1.length≤50)∧DOk (4+2 * s.1) s.2.2) (fun s=>(p.2.1.length-s.1).toNat)
  (P:=fun r:Eff=>r.1.length≤12∧r.2.1=[]∧r.2.2.2.1.length≤50) ?_ ?_).mono fun R hR=>?_
 ·exact⟨by show (0:Int)≤0;omega,by show (0:Int)≤p.2.1.length;omega,⟨by show ((y.1.length:Nat):Int)≤0;rw[hy.1];decide,hy.2.1,hy.2.2⟩,e2.up (by show (2:Int)+1≤4+2 * 0;omega)⟩
 ·rintro⟨i,⟨cu,to,co,ne,u⟩,d⟩ ⟨h1,h2,⟨h3,h4,h5⟩,h6⟩
  dsimp only at h1 h2 h3 h4 h5 h6 ⊢
  split
  ·rename_i hc
   rw[zG,zC]at hc
   refine yZ h6 (by decide) (by omega) fun d4 v4 e4 g4 g4'=>?_
   dsimp only
   refine ZO h1 (by rw[hp.2.2];exact hc) fun z _=>?_
   refine jN (fun x=>DOk (4+2 * (i+1)) x.2) (fun j hj=>?_) fun x hx=>?_
   ·skip
    split
    ·refine jN (fun x=>DOk (4+2 * (i+1)) x.2) (fun j' hj'=>?_) fun x hx=>hj _ hx
     skip
     split
     ·refine yZ e4 (by decide) (by omega) fun d5 v5 e5 g5 g5'=>?_
      exact hj' _ (e5.up (by omega))
     ·exact hj' _ (e4.up (by omega))
    ·exact hj _ (e4.up (by omega))
   ·refine jN (fun x:Eff=>x.1.length≤i+1∧x.2.1=[]∧x.2.2.2.1.length≤50) (fun j hj=>?_) fun y hy=>?_
    ·skip
     split
     ·refine ZO h1 hc fun c hcc=>?_
      obtain⟨m1,m2⟩:=hp.1.2 c hcc
      refine gA (by simp;omega) ?_
      refine gA (by simp;omega) ?_
      refine hj _ ⟨?_,h4,h5⟩
      dsimp only
      rw[zJo,zJq];omega
     ·exact hj _ ⟨by dsimp only;omega,h4,h5⟩
    ·rw[Ok.pure]
     dsimp only
     rw[vJ (m:=i) (n:=1) (by omega)]
     exact⟨⟨by omega,by omega,hy,hx⟩,by omega⟩
  ·rename_i hc
   rw[zG,zC]at hc
   rw[Ok.pure]
   exact⟨by dsimp only;omega,h4,h5⟩
 refine jN (fun x:Eff=>x.1.length≤50∧x.2.1.length≤50∧x.2.2.2.1.length≤50) (fun j hj=>?_) fun y hy=>?_
 ·dsimp only
  split
  ·refine qu ⟨by rw[Zu,zC];omega,by rw[Zu];omega,by rw[zC];omega⟩ fun ys hys=>?_
   refine mT hp fun C hC=>?_
   have hr1:=hR.1
   refine gA (by dsimp only;omega) ?_
   refine hj _ ⟨?_,?_,hR.2.2⟩
   ·dsimp only;rw[zJo];omega
   ·dsimp only;rw[hR.2.1];exact Nat.zero_le _
  ·refine hj _ ⟨by have:=hR.1;dsimp only;omega,?_,hR.2.2⟩
   dsimp only;rw[hR.2.1];exact Nat.zero_le _
 refine jN (fun x:Eff=>x.1.length≤50∧x.2.1.length≤50∧x.2.2.2.1.length≤50) (fun j hj=>?_) fun y hy=>?_
 ·dsimp only
  split
  ·refine qu ⟨by rw[Zu,zC];omega,by rw[Zu];omega,by rw[zC];omega⟩ fun ys hys=>?_
   refine mT hp fun C hC=>?_
   exact hj _ ⟨hy.1,by dsimp only;omega,hy.2.2⟩
  ·exact hj _ hy
 rw[Ok.pure]
 exact hy
theorem pP {p:Part} {x1:List Int} {x2:Int} {f:Eff×Unit→Comp α} {P:α→Prop} (hp:ZN p) (k:∀e:Eff,nJ e→Ok (f (e,())) P):Ok ((y6 p x1 x2).bind f) P:=by
 rw[Ok.bind];exact(Ig hp).mono fun r hr=>k r.1 hr
structure JobOk (j:Job):Prop where
 p:ZN j.1
 e:∀x∈j.2.2.1,nJ x
 n:j.2.2.1.length≤8
theorem nJ.sm {x:Eff} (h:nJ x):SmE x:=⟨Nat.le_trans h.1 (by decide),Nat.le_trans h.2.1 (by decide),Nat.le_trans h.2.2 (by decide)⟩
theorem ZN.w {p:Part} (h:ZN p):p.2.2.1.length<9223372036854775807:=by rw[h.2.2];have:=h.1.1;omega
theorem Iq {j:Job} {P:Int×Unit→Prop} (hj:JobOk j) (k:P (ckJ j,())):Ok (gL j) P:=(Ok.jB (uD hj.p.w fun x hx=>(hj.e x hx).sm)).2 k
theorem Ur (x0:List (List Int)):Ok (j5 x0) fun r=>JobOk r.1∧1≤r.1.2.2.1.length:=by
 unfold j5
 refine qu ⟨by decide,by rw[Zu,zC];omega,by rw[Zu,zC];omega⟩ fun x hx=>?_
 rw[Ok.bind]
 refine(UC x).mono ?_
 rintro⟨p,u⟩ hp
 rw[Ok.bind]
 refine(zBz hp).mono ?_
 rintro⟨pc,u'⟩ -
 dsimp only at hp ⊢
 refine jN (fun y:Job=>ZN y.1∧y.2.2.1=[]) (fun j hj=>?_) fun y hy=>?_
 ·skip
  split
  ·rename_i hc
   rw[yQ,zC]at hc
   refine ZO (by decide) (by omega) fun d hd=>?_
   refine yZ (d0 d) (by decide) (by decide) fun d1 v1 e1 g1 g1'=>?_
   refine jN (fun y:Job=>ZN y.1∧y.2.2.1=[]) (fun j' hj'=>?_) fun y hy=>hj _ hy
   dsimp only
   split
   ·obtain⟨d2,hd2⟩:=zQ (xs:=x0) (k:=2) (by omega)
    rw[Ok.bind,Ok.idx (by decide) hd2,Ok.bind,Ok.idx (by decide) hd2]
    refine qu ⟨by rw[Zu,zC];omega,by rw[Zu];omega,by rw[zC];omega⟩ fun ys hys=>?_
    refine mT hp fun C hC=>?_
    rw[Ok.yL (C9 hp.w (by dsimp only;omega) (by decide))]
    refine jN (fun y:Job=>ZN y.1∧y.2.2.1=[]) (fun j'' hj''=>?_) fun y hy=>hj' _ hy
    split
    ·exact hj'' _ ⟨hp,rfl⟩
    ·exact hj'' _ ⟨hp,rfl⟩
   ·exact hj' _ ⟨hp,rfl⟩
  ·exact hj _ ⟨hp,rfl⟩
 rw[Ok.bind]
 refine(Ok.loop (fun s:Int×Job=>3≤s.1∧s.1≤7∧ZN s.2.1∧(∀x∈s.2.2.2.1,nJ x)∧(s.2.2.2.1.length:Int)=s.1-3) (fun s=>(7-s.1).toNat)
  (P:=fun r:Job=>JobOk r∧r.2.2.1.length≤4) ?_ ?_).mono fun R hR=>?_
 ·exact⟨by show (3:Int)≤3;omega,by show (3:Int)≤7;omega,hy.1,fun x (hx:x∈y.2.2.1)=>(by rw[hy.2]at hx;cases hx),by show ((y.2.2.1.length:Nat):Int)=3-3;rw[hy.2];rfl⟩
 ·rintro⟨i,p',pc',es,u''⟩ ⟨h1,h2,h3,h4,h5⟩
  dsimp only at h1 h2 h3 h4 h5 ⊢
  split
  ·rename_i hc
   obtain⟨c1,c2⟩:=CH hc
   rw[zG]at c1 c2
   rw[zC]at c1
   refine ZO (by omega) c1 fun d hd=>?_
   refine pP hp fun e he=>?_
   refine gA (by simp;omega) ?_
   rw[Ok.pure]
   dsimp only
   rw[vJ (by omega)]
   refine⟨⟨by omega,by omega,h3,fun x hx=>?_,by rw[zJo,zJq];omega⟩,by omega⟩
   rcases List.mem_append.1 hx with hx|hx
   ·exact h4 x hx
   ·rw[List.mem_singleton.1 hx];exact he
  ·rw[Ok.pure]
   exact⟨⟨h3,h4,by dsimp only;omega⟩,by dsimp only;omega⟩
 refine jN (fun y:Job=>JobOk y∧1≤y.2.2.1.length) (fun j hj=>?_) fun y hy=>?_
 ·skip
  split
  ·refine pP hp fun e he=>?_
   have:=hR.2
   refine gA (by simp;omega) ?_
   refine hj _ ⟨⟨hR.1.p,fun x hx=>?_,?_⟩,?_⟩
   ·rcases List.mem_append.1 hx with hx|hx
    ·exact hR.1.e x hx
    ·rw[List.mem_singleton.1 hx];exact he
   ·dsimp only;rw[zJo,zJq];omega
   ·dsimp only;rw[zJo,zJq];omega
  ·rename_i hc
   rw[y5,zC]at hc
   exact hj _ ⟨⟨hR.1.p,hR.1.e,hR.1.n⟩,by dsimp only;omega⟩
 rw[Ok.bind]
 refine(Ok.loop (fun s:Job=>JobOk s∧1≤s.2.2.1.length) (fun s=>s.2.2.1.length)
  (P:=fun r:Job=>JobOk r∧1≤r.2.2.1.length) hy ?_).mono fun R hR=>?_
 ·rintro⟨p',pc',es,u''⟩ ⟨hs,hs1⟩
  have hn:=hs.n
  dsimp only at hs hs1 hn ⊢
  rw[Ok.bind]
  have fin:∀x7:Int×Unit,Ok (if sel (gtI (zF es) 1) (eqI x7.1 2) false=true then jn (fun x:Job=>Comp.pure (Comp.Step.next (x.1,x.2.1,x.2.2.1,()))) fun j=>(sub es 0 (gX .i64 (zF es) 1)).bind fun ys=>j (p',pc',ys,()) else Comp.pure (Comp.Step.done (p',pc',es,())))
    (fun t:Comp.Step Job Job=>match t with|.next s'=>(JobOk s'∧1≤s'.2.2.1.length)∧s'.2.2.1.length<es.length|.done r=>JobOk r∧1≤r.2.2.1.length):=by
   intro x7
   split
   ·rename_i hc
    obtain⟨c1,c2⟩:=CH hc
    rw[yQ,zC]at c1
    rw[zC,YI (by omega)]
    refine jN (fun y:Job=>(JobOk y∧1≤y.2.2.1.length)∧y.2.2.1.length<es.length) (fun j hj=>?_) fun y hy=>?_
    ·show Ok ((sub es 0 ((es.length:Int)-1)).bind fun ys=>j (p',pc',ys,())) _
     rw[Ok.bind,Ok.sub (by omega)]
     refine hj _ ⟨⟨⟨hs.p,fun x hx=>hs.e x (List.mem_of_mem_take (List.mem_of_mem_drop hx)),?_⟩,?_⟩,?_⟩
     ·dsimp only;rw[List.length_drop,List.length_take];omega
     ·dsimp only;rw[List.length_drop,List.length_take];omega
     ·dsimp only;rw[List.length_drop,List.length_take];omega
    ·rw[Ok.pure];exact hy
   ·rw[Ok.pure];exact⟨hs,hs1⟩
  refine Ok.CA (fun _=>Iq ⟨hs.p,hs.e,hs.n⟩ ?_) (fun _=>?_)
  ·refine(fin _).mono fun t ht=>?_
   cases t<;>exact ht
  ·refine(fin _).mono fun t ht=>?_
   cases t<;>exact ht
 ·rw[Ok.pure];exact hR
theorem I6 {j:Job} {x1:List Int} (hj:JobOk j):Ok (jd j x1) fun r=>1≤r.1.length∧r.1.length≤12:=by
 unfold jd
 have hl:=hj.p.1.1
 have hw:=hj.p.2.2
 have hne:=List.length_pos_iff.2 hj.p.2.1
 rw[Ok.bind]
 refine(Ok.loop (fun s:List Int×Int×Drw=>0≤s.2.1∧s.2.1≤j.1.2.2.1.length∧(s.1.length:Int)=s.2.1∧DOk s.2.1 s.2.2) (fun s=>(j.1.2.2.1.length-s.2.1).toNat)
  (P:=fun r=>1≤r.length∧r.length≤12) ?_ ?_).mono fun R hR=>?_
 ·exact⟨by show (0:Int)≤0;omega,by show (0:Int)≤j.1.2.2.1.length;omega,rfl,d0 x1⟩
 ·rintro⟨l,i,d⟩ ⟨h1,h2,h3,h4⟩
  dsimp only at h1 h2 h3 h4 ⊢
  split
  ·rename_i hc
   rw[zG,zC]at hc
   refine yZ h4 (by decide) (by omega) fun d4 v4 e4 g4 g4'=>?_
   refine ZO h1 hc fun z _=>?_
   refine jN (fun _=>True) (fun j hj=>?_) fun y _=>?_
   ·split
    ·exact hj _ trivial
    ·exact hj _ trivial
   ·refine gA (by simp;omega) ?_
    rw[Ok.pure]
    dsimp only
    rw[vJ (m:=i) (n:=1) (by omega)]
    exact⟨⟨by omega,by omega,by rw[zJo,zJq];omega,e4⟩,by omega⟩
  ·rename_i hc
   rw[zG,zC]at hc
   rw[Ok.pure];dsimp only;omega
 ·rw[Ok.pure];exact hR
theorem U2 {j:Job} {x1:List Int} (hj:JobOk j) (h1:1≤j.2.2.1.length):Ok (j4 j x1) fun r=>r.1.length≤4:=by
 unfold j4
 have hl:=hj.n
 rw[Ok.bind]
 refine(Ok.loop (fun s:List Int×Int=>0≤s.2∧s.2≤4∧(s.1.length:Int)≤s.2) (fun s=>(4-s.2).toNat)
  (P:=fun r=>r.length≤4) ?_ ?_).mono fun R hR=>?_
 ·exact⟨by show (0:Int)≤0;omega,by show (0:Int)≤4;omega,by show ((0:Nat):Int)≤0;omega⟩
 ·rintro⟨l,i⟩ ⟨h1,h2,h3⟩
  dsimp only at h1 h2 h3 ⊢
  split
  ·rename_i hc
   obtain⟨c1,c2⟩:=CH hc
   rw[zG]at c1 c2
   rw[zC]at c1
   refine ZO h1 c1 fun z _=>?_
   rw[Ok.bind]
   refine(Qj (by rw[zC];omega)).mono fun r hr=>?_
   rw[Ok.bind]
   refine(Ok.loop (fun s:Bool×Int=>0≤s.2∧s.2≤l.length) (fun s=>(l.length-s.2).toNat) (P:=fun _=>True) ?_ ?_).mono fun b _=>?_
   ·exact⟨by show (0:Int)≤0;omega,by show (0:Int)≤l.length;omega⟩
   ·rintro⟨b,k⟩ ⟨k1,k2⟩
    dsimp only at k1 k2 ⊢
    split
    ·rename_i hk
     rw[zG,zC]at hk
     obtain⟨w,hw⟩:=zQ (xs:=l) (k:=k.toNat) (by omega)
     rw[Ok.bind]
     refine Ok.CA (fun _=>(Ok.idx k1 hw).2 ?_) (fun _=>?_)
     all_goals
      rw[Ok.pure]
      dsimp only
      rw[vJ (m:=k) (n:=1) (by omega)]
      exact⟨⟨by omega,by omega⟩,by omega⟩
    ·rw[Ok.pure];trivial
   ·refine jN (fun y:List Int=>(y.length:Int)≤i+1) (fun j hj=>?_) fun y hy=>?_
    ·split
     ·refine gA (by simp;omega) ?_
      refine hj _ ?_
      rw[zJo,zJq];omega
     ·refine hj _ ?_
      omega
    ·rw[Ok.pure]
     dsimp only
     rw[vJ (m:=i) (n:=1) (by omega)]
     exact⟨⟨by omega,by omega,hy⟩,by omega⟩
  ·rw[Ok.pure];dsimp only;omega
 ·rw[Ok.pure];exact hR
abbrev Case:=List (List Int)×List Int×List Int×Unit
abbrev Made:=Job×List Int×List Int×Unit
def zCm (m:Made):Prop:=JobOk m.1∧(1≤m.2.1.length∧m.2.1.length≤12)∧m.2.2.1.length≤4
theorem Un (c:Case):Ok (vz c) zCm:=by
 unfold vz
 refine qu ⟨by decide,by rw[Zu,zC];omega,by rw[Zu,zC];omega⟩ fun x hx=>?_
 rw[Ok.bind]
 refine(Ur x).mono fun j hj=>?_
 rw[Ok.bind]
 refine(I6 hj.1).mono fun w hw=>?_
 rw[Ok.bind]
 refine(U2 hj.1 hj.2).mono fun d hd=>?_
 rw[Ok.pure]
 exact⟨hj.1,hw,hd⟩
def tot:List Chg→Int
 | []=>0
 |c::l=>c.2.2.1+tot l
theorem Q2 {n:Nat}:∀ {L:List Eff} {k:Nat},efs n L k=0→∀x∈L,1≤x.2.2.1∧x.2.2.1≤1048576
 | [],_,_,x,hx=>by cases hx
 |y::L,k,h,x,hx=>by
  unfold efs at h
  split at h
  ·rename_i h1
   rcases List.mem_cons.1 hx with e|e
   ·subst e
    unfold eE at h1
    split at h1
    ·split at h1
     ·cases h1
     ·rename_i h2;omega
    ·rename_i h2;exact absurd h1 h2
   ·exact Q2 h x e
  ·rename_i h1;exact absurd h h1
theorem Nq {j:Job} (h:ckJ j=0):∀x∈j.2.2.1,1≤x.2.2.1∧x.2.2.1≤1048576:=by
 unfold ckJ at h
 split at h
 ·split at h
  ·cases h
  ·split at h
   ·rename_i h1;exact Q2 h1
   ·rename_i h1;exact absurd h h1
 ·rename_i h1;exact absurd h h1
def z8:List Bool:=[false,false,false,false,false,false,false,false]
def B8 (s:List Bool) (k:Nat):Bool:=s.getD k false
def m8 (g:Nat→Bool):List Bool:=(List.range 8).map g
theorem XF (g:Nat→Bool):(m8 g).length=8:=by simp[m8]
theorem zCJ {g:Nat→Bool} {k:Nat} (h:k<8):(m8 g)[k]?=some (g k):=by simp[m8,h]
theorem mX {g:Nat→Bool} {k:Nat} (h:k<8):B8 (m8 g) k=g k:=by unfold B8;exact yq (zCJ h)
theorem J9 {s:List Bool} (hs:s.length=8) {k:Nat} (h:k<8):s[k]?=some (B8 s k):=by
 have:s[k]?=some s[k]:=List.getElem?_eq_getElem (by omega)
 unfold B8;rw[yq this];exact this
theorem Ce {s:List Bool} (hs:s.length=8) {k:Nat} (h:8≤k):B8 s k=false:=by
 unfold B8;rw[List.getD_eq_getElem?_getD,List.getElem?_eq_none (by omega)];rfl
theorem Vr {s t:List Bool} (hs:s.length=8) (ht:t.length=8) (h:∀k,k<8→B8 s k=B8 t k):s=t:=by
 refine List.ext_getElem? fun k=>?_
 by_cases hk:k<8
 ·rw[J9 hs hk,J9 ht hk,h k hk]
 ·rw[List.getElem?_eq_none (by omega),List.getElem?_eq_none (by omega)]
theorem w9 {s:List Bool} (hs:s.length=8) {i:Nat} (hi:i<8) (v:Bool) (k:Nat):B8 (s.set i v) k=if k=i then v else B8 s k:=by
 unfold B8
 rw[List.getD_eq_getElem?_getD,List.getD_eq_getElem?_getD,List.getElem?_set]
 by_cases h:i=k
 ·subst h;simp[hs,hi]
 ·rw[if_neg h,if_neg (Ne.symm h)]
theorem EP {g:Nat→Bool} {i:Nat} (hi:i<8):(m8 fun k=>decide (k<i) && g k).set i (g i)=m8 fun k=>decide (k<i+1) && g k:=by
 refine Vr (by simp[XF]) (XF _) fun k hk=>?_
 rw[w9 (XF _) hi,mX hk,mX hk]
 by_cases h:k=i
 ·subst h;simp
 ·rw[if_neg h]
  have:decide (k<i)=decide (k<i+1):=by rw[decide_eq_decide];omega
  rw[this]
theorem zDg {g:Nat→Bool}:z8=m8 fun k=>decide (k<0) && g k:=rfl
theorem YO (xs:List α) (k:Nat) (v:α):jJ xs (k:Int) v=xs.set k v:=rfl
theorem mK {xs ys:List Bool}:(eqA (fun a b=>eqB a b) xs ys=true)↔xs=ys:=by
 induction xs generalizing ys with
 |nil=>cases ys<;>simp[eqA]
 |cons x xs ih =>
  cases ys with
  |nil=>simp[eqA]
  |cons y ys =>
   simp only[eqA,List.cons.injEq]
   rw[←ih]
   cases x<;>cases y<;>simp[eqB,adB]
def sl (s:List Bool):List Nat:=(List.range 8).filter (B8 s)
def slI (s:List Bool):List Int:=(sl s).map fun k:Nat=>(k:Int)
theorem YK {s:List Bool} {k:Nat}:k∈sl s↔k<8∧B8 s k=true:=by simp[sl]
theorem mc (s:List Bool):(sl s).length≤8:=by
 have:=List.length_filter_le (B8 s) (List.range 8)
 simpa[sl] using this
theorem Kh (s:List Bool):(slI s).length≤8:=by simpa[slI] using mc s
theorem Ev {s:List Bool} {i:Nat} {x:Int} (h:(slI s)[i]?=some x):∃k:Nat,x=(k:Int)∧k<8∧B8 s k=true:=by
 have:=List.mem_of_getElem? h
 obtain⟨k,hk,rfl⟩:=List.mem_map.1 this
 exact⟨k,rfl,YK.1 hk⟩
theorem JH {s:List Bool} (hs:s.length=8):(vo s).val=some (slI s,()):=by
 unfold vo
 refine Ok.val ?_
 rw[Ok.bind]
 refine(Ok.count 8 (fun i (x:List Int×Int)=>x.2=(i:Int)∧x.1=((List.range i).filter (B8 s)).map fun k:Nat=>(k:Int)) (P:=fun r=>r=slI s) ⟨rfl,rfl⟩ ?_ ?_).mono fun r hr=>by rw[Ok.pure,hr]
 ·rintro i ⟨l,n⟩ hi ⟨h1,h2⟩
  dsimp only at h1 h2
  subst h1 h2
  have hle:=List.length_filter_le (B8 s) (List.range i)
  rw[List.length_range]at hle
  rw[if_pos (by rw[zG];omega),Ok.bind,Ok.uN (J9 hs hi)]
  refine jN (fun y=>y=((List.range (i+1)).filter (B8 s)).map fun k:Nat=>(k:Int)) (fun j hj=>?_) fun y hy=>?_
  ·split
   ·rename_i hb
    refine gA (by simp;omega) (hj _ ?_)
    rw[List.range_succ,List.filter_append,List.map_append]
    simp[hb]
   ·rename_i hb
    refine hj _ ?_
    rw[List.range_succ,List.filter_append,List.map_append]
    simp[hb]
  ·rw[Ok.pure]
   exact⟨zN (by omega),hy⟩
 ·rintro⟨l,n⟩ ⟨h1,h2⟩
  dsimp only at h1 h2
  subst h1 h2
  rw[if_neg (by rw[zG];show ¬((8:Nat):Int)<8;omega),Ok.pure]
  rfl
def cst (L:List Eff) (l:List Nat):Int:=(l.map fun k:Nat=>(opn L (k:Int)).2.2.1).sum
theorem U8 (L:List Eff) (l m:List Nat):cst L (l++m)=cst L l+cst L m:=by simp[cst]
theorem EY {L:List Eff} {m:Int}:∀ {l:List Nat},(∀k∈l,1≤(opn L (k:Int)).2.2.1∧(opn L (k:Int)).2.2.1≤m)→0≤cst L l∧cst L l≤l.length * m
 | [],_=>by simp[cst]
 |k::l,h=>by
  have h1:=EY (l:=l) fun j hj=>h j (by simp[hj])
  have h2:=h k (by simp)
  have:cst L (k::l)=(opn L (k:Int)).2.2.1+cst L l:=by simp[cst]
  rw[this,List.length_cons]
  have:((l.length+1:Nat):Int) * m=l.length * m+m:=by rw[Int.natCast_add,Int.add_mul];simp
  omega
def zGX (L:List Eff):Prop:=∀k:Nat,k<L.length→1≤(opn L (k:Int)).2.2.1∧(opn L (k:Int)).2.2.1≤1048576
theorem Bm {j:Job} {sp s:List Bool} (hs:s.length=8) (hin:∀k,B8 s k=true→k<j.2.2.1.length) (hc:zGX j.2.2.1):(gw (j,sp,()) s).val=some (cst j.2.2.1 (sl s),()):=by
 unfold gw
 refine Ok.val ?_
 rw[Ok.yL (JH hs)]
 dsimp only
 rw[Ok.bind]
 have hln:=Kh s
 refine(Ok.count (slI s).length (fun i (x:Int×Int)=>x.2=(i:Int)∧x.1=cst j.2.2.1 ((sl s).take i)) (P:=fun r=>r=cst j.2.2.1 (sl s)) ⟨rfl,by simp[cst]⟩ ?_ ?_).mono fun r hr=>by rw[Ok.pure,hr]
 ·rintro i ⟨c,n⟩ hi ⟨h1,h2⟩
  dsimp only at h1 h2
  subst h1 h2
  obtain⟨k,hk⟩:=zQ (xs:=sl s) (k:=i) (by simpa[slI] using hi)
  have hk2:(slI s)[i]?=some (k:Int):=by simp[slI,hk]
  have hkm:=YK.1 (List.mem_of_getElem? hk)
  have hkl:=hin k hkm.2
  rw[if_pos (by rw[zG,zC];omega),Ok.bind,Ok.uN hk2,Ok.bind,Ok.jB (Je ⟨by omega,by omega⟩),Ok.pure]
  refine⟨zN (by omega),?_⟩
  have ht:(sl s).take (i+1)=(sl s).take i++[k]:=by rw[List.take_add_one,hk];rfl
  have hb:=EY (L:=j.2.2.1) (m:=1048576) (l:=(sl s).take i) fun q hq=>hc q (hin q (YK.1 (List.mem_of_mem_take hq)).2)
  have hlt:((sl s).take i).length≤8:=by have:=mc s;rw[List.length_take];omega
  have hck:=hc k hkl
  rw[ht,U8]
  show zI .i64 _ _=_
  have e1:cst j.2.2.1 [k]=(opn j.2.2.1 (k:Int)).2.2.1:=by simp[cst]
  rw[e1,vJ (by omega)]
 ·rintro⟨c,n⟩ ⟨h1,h2⟩
  dsimp only at h1 h2
  subst h1 h2
  rw[if_neg (by rw[zG,zC];omega),Ok.pure]
  have:(sl s).take (slI s).length=sl s:=List.take_of_length_le (by simp[slI])
  rw[this]
def u4 (L:List Eff):Prop:=∀k:Nat,(opn L (k:Int)).2.2.2.1=[]
def rs (n:Nat) (sp out:List Bool):List Bool:=m8 fun k=>decide (k<n) && (!B8 out k && !B8 sp k)
theorem Mi {s:List Bool} (hs:s.length=8) {k:Nat} (hk:k<8) (h:B8 s k=true):s.set k true=s:=by
 refine Vr (by simp[hs]) hs fun i hi=>?_
 rw[w9 hs hk]
 split
 ·rename_i e;rw[e,h]
 ·rfl
theorem An {j:Job} {sp out:List Bool} (hsp:sp.length=8) (ho:out.length=8) (hn:j.2.2.1.length≤8) (hnn:u4 j.2.2.1):(jx (j,sp,()) out).val=some (rs j.2.2.1.length sp out,()):=by
 unfold jx
 dsimp only
 refine Ok.val ?_
 rw[Ok.bind]
 refine(Ok.count j.2.2.1.length (fun i (x:Int×List Bool)=>x.1=(i:Int)∧x.2=m8 fun k=>decide (k<i) && (!B8 out k && !B8 sp k)) (P:=fun r=>r=rs j.2.2.1.length sp out) ⟨rfl,rfl⟩ ?_ ?_).mono fun r hr=>?_
 ·rintro i ⟨n,s⟩ hi ⟨h1,h2⟩
  dsimp only at h1 h2
  subst h1 h2
  rw[if_pos (by rw[zG,zC];omega),Ok.bind,Ok.uN (J9 ho (by omega)),Ok.bind]
  have hg:Ok (Comp.gd (ntB (B8 out i)) (idx sp (i:Int)) false) fun b=>sel (ntB (B8 out i)) (ntB b) false=(!B8 out i && !B8 sp i):=by
   cases hb:B8 out i with
   |true=>exact Ok.CA (fun h=>nomatch h) fun _=>rfl
   |false=>exact Ok.CA (fun _=>(Ok.uN (J9 hsp (by omega))).2 (by cases B8 sp i<;>rfl)) fun h=>nomatch h
  refine hg.mono fun b hb=>?_
  rw[Ok.yL (jm ⟨by omega,by omega⟩),Ok.pure]
  refine⟨zN (by omega),?_⟩
  dsimp only
  rw[hb,YO]
  exact EP (g:=fun k=>!B8 out k && !B8 sp k) (by omega)
 ·rintro⟨n,s⟩ ⟨h1,h2⟩
  dsimp only at h1 h2
  subst h1 h2
  rw[if_neg (by rw[zG,zC];omega),Ok.pure];rfl
 ·subst hr
  rw[Ok.bind]
  have hl:(rs j.2.2.1.length sp out).length=8:=XF _
  generalize hrs:rs j.2.2.1.length sp out=s at hl
  have hs:∀k,B8 s k=true→k<j.2.2.1.length:=fun k hk=>by
   by_cases h8:k<8
   ·rw[←hrs]at hk
    unfold rs at hk
    rw[mX h8]at hk
    simp only[zJn,decide_eq_true_eq]at hk
    exact hk.1
   ·rw[Ce hl (by omega)]at hk;cases hk
  refine(Ok.loop (fun x:List Bool×List Bool=>x.2=s∧x.1.length=8) (fun x=>if x.1=s then 0 else 1) (P:=fun r=>r=s) ⟨rfl,rfl⟩ ?_).mono fun r hr=>by rw[Ok.pure,hr]
  rintro⟨l,s'⟩ ⟨h1,h2⟩
  dsimp only at h1 h2
  subst h1
  by_cases he:l=s'
  ·subst he
   rw[if_neg (by rw[yb,mK.2 rfl];simp),Ok.pure]
  ·rw[if_pos (by rw[yb];cases h:eqA (fun a b=>eqB a b) l s' with|true=>exact absurd (mK.1 h) he|false=>rfl),Ok.yL (JH hl)]
   dsimp only
   rw[Ok.bind]
   have hin:Ok (Comp.loop (fun (x_2:Int×List Bool)=>if ltI x_2.1 (zF (slI s'))=true then (idx (slI s') x_2.1).bind fun x=>(idx j.2.2.1 x).bind fun x_3=>(zR x_3.2.2.2.1 fun (z:Int×Unit)=>gK z.1 x_2.2).bind fun x_4=>(inb 8 x).bind fun x_5=>.pure (.next (zI .i64 x_2.1 1,jJ x_2.2 x (ntB x_4.1))) else .pure (.done x_2.2)) (0,s')) fun r=>r=s':=by
    have hln:=Kh s'
    refine Ok.count (slI s').length (fun i (x:Int×List Bool)=>x.1=(i:Int)∧x.2=s') ⟨rfl,rfl⟩ ?_ ?_
    ·rintro i ⟨n,t⟩ hi ⟨q1,q2⟩
     dsimp only at q1 q2
     subst q1 q2
     obtain⟨x,hx⟩:=zQ hi
     obtain⟨k,rfl,hk8,hkb⟩:=Ev hx
     have hkl:=hs k hkb
     rw[if_pos (by rw[zG,zC];omega),Ok.bind,Ok.uN hx,Ok.bind,Ok.jB (Je ⟨by omega,by omega⟩)]
     have hc:(zR (opn j.2.2.1 (k:Int)).2.2.2.1 fun (z:Int×Unit)=>gK z.1 t).val=some (false,()):=by
      rw[hnn k]
      exact kH (xs:=([]:List Int)) (f:=fun z=>gK z.1 t) (p:=fun _=>false) (by decide) fun x hx=>nomatch hx
     rw[Ok.yL hc,Ok.yL (jm ⟨by omega,by omega⟩),Ok.pure]
     refine⟨zN (by omega),?_⟩
     dsimp only
     rw[YO]
     exact Mi hl hk8 hkb
    ·rintro⟨n,t⟩ ⟨q1,q2⟩
     dsimp only at q1 q2
     subst q1 q2
     rw[if_neg (by rw[zG,zC];omega),Ok.pure]
   refine hin.mono fun r hr=>?_
   subst hr
   rw[Ok.pure]
   exact⟨⟨rfl,hl⟩,by dsimp only;rw[if_pos rfl,if_neg he];exact Nat.zero_lt_one⟩
def alw (n:Nat) (sp s:List Bool):Bool:=(List.range 8).all fun k=>!B8 s k || (decide (k<n) && !B8 sp k)
theorem Kq {n:Nat} {sp s:List Bool} (hs:s.length=8):alw n sp s=true↔∀k,B8 s k=true→k<n∧B8 sp k=false:=by
 unfold alw
 rw[List.all_eq_true]
 refine⟨fun h k hk=>?_,fun h k _=>?_⟩
 rotate_left
 ·cases hb:B8 s k with
  |false=>rfl
  |true=>obtain⟨h1,h2⟩:=h k hb;simp[h1,h2]
 by_cases h8:k<8
 ·have:=h k (List.mem_range.2 h8)
  rw[hk]at this
  simpa using this
 ·rw[Ce hs (by omega)]at hk;cases hk
theorem AP {j:Job} {sp s:List Bool} (hsp:sp.length=8) (hs:s.length=8) (hn:j.2.2.1.length≤8) (hnn:u4 j.2.2.1):(jc (j,sp,()) s).val=some (alw j.2.2.1.length sp s,()):=by
 unfold jc
 dsimp only
 refine Ok.val ?_
 rw[Ok.bind]
 refine(Ok.count j.2.2.1.length (fun i (x:Int×List Bool)=>x.1=(i:Int)∧x.2=m8 fun k=>decide (k<i) && !B8 s k) (P:=fun r=>r=m8 fun k=>decide (k<j.2.2.1.length) && !B8 s k) ⟨rfl,rfl⟩ ?_ ?_).mono fun r hr=>?_
 ·rintro i ⟨n,t⟩ hi ⟨h1,h2⟩
  dsimp only at h1 h2
  subst h1 h2
  rw[if_pos (by rw[zG,zC];omega),Ok.bind,Ok.uN (J9 hs (by omega)),Ok.yL (jm ⟨by omega,by omega⟩),Ok.pure]
  refine⟨zN (by omega),?_⟩
  dsimp only
  rw[YO]
  exact EP (g:=fun k=>!B8 s k) (by omega)
 ·rintro⟨n,t⟩ ⟨h1,h2⟩
  dsimp only at h1 h2
  subst h1 h2
  rw[if_neg (by rw[zG,zC];omega),Ok.pure]
 ·subst hr
  rw[Ok.yL (An hsp (XF _) hn hnn),Ok.pure]
  dsimp only
  refine Prod.ext ?_ rfl
  dsimp only
  rw[Bool.eq_iff_iff,mK,Kq hs]
  refine⟨fun h k hk=>?_,fun h=>Vr (XF _) hs fun k hk=>?_⟩
  ·by_cases h8:k<8
   ·rw[←h]at hk
    unfold rs at hk
    rw[mX h8,mX h8]at hk
    simp only[zJn,decide_eq_true_eq,Bool.not_eq_true']at hk
    exact⟨hk.1,hk.2.2⟩
   ·rw[Ce hs (by omega)]at hk;cases hk
  ·unfold rs
   rw[mX hk,mX hk]
   cases hb:B8 s k with
   |true=>obtain⟨g1,g2⟩:=h k hb;simp[g1,g2]
   |false=>simp;omega
def enR (p:Part) (x:yF) (cuts:List Cell):Nat→Nat→Bool×Int
 |_,0=>(true,0)
 |i,m+1=>if wt p i≠2∨x.1.getD i false=true then enR p x cuts (i+1) m else if (cov (nr cuts (cl p i)) (cl p i)).1=true then enR p x cuts (i+1) m else (false,(cov (nr cuts (cl p i)) (cl p i)).2)
def ctS (j:Job) (s:List Bool):List Cell:=j.2.1.2.2.1++(sl s).flatMap fun k:Nat=>(opn j.2.2.1 (k:Int)).1
def enq (j:Job) (s:List Bool):Bool×Int:=enR j.1 j.2.1 (ctS j s) 0 j.1.2.1.length
def enO:Bool×Int→Unit⊕Bool×Int
 |(true,_)=>.inl ()
 |(false,e)=>.inr (false,e)
theorem EX {p:Part} {x:yF} {cuts:List Cell}:∀ {m i:Nat},(enR p x cuts i m).1=true→(enR p x cuts i m).2=0
 |0,_,_=>rfl
 |m+1,i,h=>by
  unfold enR at h ⊢
  split
  ·rename_i h1;rw[if_pos h1]at h;exact EX h
  ·rename_i h1
   rw[if_neg h1]at h
   split
   ·rename_i h2;rw[if_pos h2]at h;exact EX h
   ·rename_i h2;rw[if_neg h2]at h;cases h
def scan (g:Nat→Option ε) (d:ε):Nat→Nat→ε
 |_,0=>d
 |a,m+1=>match g a with
  |some e=>e
  |none=>scan g d (a+1) m
def scS (o:Option ε) (i:Nat):Comp.Step Int ε:=match o with
 |some e=>.done e
 |none=>.next ((i+1:Nat):Int)
theorem Ah {body:Int→Comp (Comp.Step Int ε)} (g:Nat→Option ε) {d:ε}:∀(m a:Nat),(∀(i:Nat),a≤i→i<a+m→(body (i:Int)).val=some (scS (g i) i))→(body ((a+m:Nat):Int)).val=some (.done d)→(Comp.loop body (a:Int)).val=some (scan g d a m)
 |0,a,hb,he=>by rw[zL];rw[Nat.add_zero]at he;rw[he];rfl
 |m+1,a,hb,he=>by
  have ih:=Ah g m (a+1) (fun i h1 h2=>hb i (by omega) (by omega)) (by rw[show a+1+m=a+(m+1) by omega];exact he)
  rw[zL,hb a (zJp _) (by omega)]
  unfold scan
  cases hg:g a with
  |some e=>rfl
  |none=>exact ih
def enG (p:Part) (x:yF) (cuts:List Cell) (i:Nat):Option (Unit⊕Bool×Int):=if wt p i≠2∨x.1.getD i false=true then none else if (cov (nr cuts (cl p i)) (cl p i)).1=true then none else some (.inr (false,(cov (nr cuts (cl p i)) (cl p i)).2))
theorem Bh {p:Part} {x:yF} {cuts:List Cell}:∀ {m i:Nat},enO (enR p x cuts i m)=scan (enG p x cuts) (.inl ()) i m
 |0,_=>rfl
 |m+1,i=>by
  have ih:=Bh (p:=p) (x:=x) (cuts:=cuts) (m:=m) (i:=i+1)
  unfold scan enR enG
  split
  ·exact ih
  ·split
   ·exact ih
   ·rfl
theorem DT {j:Job} {sp s:List Bool} (hs:s.length=8) (hin:∀k,B8 s k=true→k<j.2.2.1.length) (hw:j.1.2.2.1.length=j.1.2.1.length) (hx:j.2.1.1.length=j.1.2.1.length) (hpc:j.2.1.2.2.1.length≤1000) (hsm:∀x∈j.2.2.1,x.1.length≤100000) (hcl:j.1.2.1.length≤1000) :
  (vr (j,sp,()) s).val=some ((enq j s).1,(enq j s).2,()):=by
 unfold vr
 dsimp only
 refine Ok.val ?_
 have hLIM:=Ed
 have hcl0:∀ {c:List Cell},c.length≤1000000→(zh c).val=some (c,()):=fun {c} h=>Jh (Nat.le_trans h hLIM)
 rw[Ok.yL (hcl0 (by omega)),Ok.yL (JH hs)]
 dsimp only
 rw[Ok.bind]
 have hln:=Kh s
 have hol:∀k:Nat,((opn j.2.2.1 (k:Int)).1).length≤100000:=fun k=>by
  unfold opn
  rw[List.getD_eq_getElem?_getD]
  cases h:j.2.2.1[((k:Int)).toNat]? with
  |none=>simp
  |some x=>exact hsm x (List.mem_of_getElem? h)
 have hbd:∀l:List Nat,(l.flatMap fun k:Nat=>(opn j.2.2.1 (k:Int)).1).length≤l.length * 100000:=by
  intro l
  induction l with
  |nil=>simp
  |cons k l ih=>have:=hol k;simp only[List.flatMap_cons,zJo,List.length_cons];omega
 refine(Ok.count (slI s).length (fun i (x:List Cell×Int)=>x.2=(i:Int)∧x.1=j.2.1.2.2.1++((sl s).take i).flatMap fun k:Nat=>(opn j.2.2.1 (k:Int)).1) (P:=fun r=>r=ctS j s) ⟨rfl,by simp⟩ ?_ ?_).mono fun r hr=>?_
 ·rintro i ⟨c,n⟩ hi ⟨h1,h2⟩
  dsimp only at h1 h2
  subst h1 h2
  obtain⟨k,hk⟩:=zQ (xs:=sl s) (k:=i) (by simpa[slI] using hi)
  have hk2:(slI s)[i]?=some (k:Int):=by simp[slI,hk]
  have hkm:=YK.1 (List.mem_of_getElem? hk)
  have hkl:=hin k hkm.2
  rw[if_pos (by rw[zG,zC];omega),Ok.bind,Ok.uN hk2,Ok.bind,Ok.jB (Je ⟨by omega,by omega⟩)]
  have hb:=hbd ((sl s).take i)
  have hlt:((sl s).take i).length≤8:=by have:=mc s;rw[List.length_take];omega
  have ho:=hol k
  refine gA (by rw[zJo];omega) ?_
  rw[Ok.pure]
  refine⟨zN (by omega),?_⟩
  have ht:(sl s).take (i+1)=(sl s).take i++[k]:=by rw[List.take_add_one,hk];rfl
  rw[ht,List.flatMap_append,←List.append_assoc]
  simp
 ·rintro⟨c,n⟩ ⟨h1,h2⟩
  dsimp only at h1 h2
  subst h1 h2
  rw[if_neg (by rw[zG,zC];omega),Ok.pure]
  have:(sl s).take (slI s).length=sl s:=List.take_of_length_le (by simp[slI])
  rw[this];rfl
 ·subst hr
  have hcs:(ctS j s).length≤900000:=by
   have:=hbd (sl s)
   have:=mc s
   unfold ctS
   rw[zJo];omega
  generalize hC:ctS j s=C at hcs
  rw[Ok.bind]
  have h2:∀i:Nat,i<j.1.2.1.length→(if ltI (i:Int) (zF j.1.2.1)=true then jn (fun (x:Unit)=>Comp.pure (Comp.Step.next (zI .i64 (i:Int) 1))) fun (j':Unit→Comp (Comp.Step Int (Unit⊕Bool×Int)))=>(idx j.1.2.1 (i:Int)).bind fun x_2=>(idx j.1.2.2.1 (i:Int)).bind fun x_3=>(Comp.gd (ntB (neI x_3 2)) (idx j.2.1.1 (i:Int)) false).bind fun x_4=>if sel (neI x_3 2) true x_4=true then j' () else (zh C).bind fun y=>(zl y.1 fun (z:Cell×Unit)=>yT z.1 x_2).bind fun ys=>(gP ys x_2).bind fun x=>if ntB x.1=true then Comp.pure (Comp.Step.done (Sum.inr (false,x.2.1))) else j' () else Comp.pure (Comp.Step.done (Sum.inl ()))).val=some (scS (enG j.1 j.2.1 C i) i):=by
   intro i hi
   obtain⟨c,hc⟩:=zQ (xs:=j.1.2.1) (k:=i) (by omega)
   obtain⟨wv,hwv⟩:=zQ (xs:=j.1.2.2.1) (k:=i) (by omega)
   obtain⟨sv,hsv⟩:=zQ (xs:=j.2.1.1) (k:=i) (by omega)
   have ew:wt j.1 i=wv:=by unfold wt;exact yq hwv
   have ec:cl j.1 i=c:=by unfold cl;exact yq hc
   have es:j.2.1.1.getD i false=sv:=yq hsv
   have hnx:zI .i64 (i:Int) 1=((i+1:Nat):Int):=zN (by omega)
   rw[if_pos (by rw[zG,zC];omega),vi,zA,zJ hc,zJl,zA,zJ hwv,zJl,zA,hnx]
   unfold enG
   rw[ew,ec,es]
   by_cases hw2:wv=2
   ·have e1:neI wv 2=false:=by rw[hw2];rfl
    rw[e1]
    show Option.bind (idx j.2.1.1 (i:Int)).val _=_
    rw[zJ hsv,zJl]
    cases sv with
    |true=>rw[if_pos (by rfl),Comp.zB,if_pos (.inr rfl)];rfl
    |false =>
     rw[if_neg (by simp[sel]),if_neg (by simp[hw2]),zA,hcl0 (by omega),zJl,zA]
     have hd:(zl C fun (z:Cell×Unit)=>yT z.1 c).val=some (nr C c) :=
      mN (z:=([]:Cell)) (f:=fun z=>yT z.1 c) (p:=fun q=>apa q c) (by omega) fun q _=>by
       show (yT q c).val=_
       unfold yT
       rw[zA,gz,zJl,Comp.zB]
     rw[hd,zJl,zA,tn,zJl]
     dsimp only
     cases hcv:(cov (nr C c) c).1 with
     |true=>rw[if_neg (by simp[ntB]),Comp.zB,if_pos rfl];rfl
     |false=>rw[if_pos (by rfl),Comp.zB,if_neg (by simp)];rfl
   ·have e1:neI wv 2=true:=by rw[zd];exact hw2
    rw[e1]
    show Option.bind (Comp.pure false).val _=_
    rw[Comp.zB,zJl,if_pos (by rfl),Comp.zB,if_pos (.inl hw2)];rfl
  refine⟨enO (enq j s),?_,?_⟩
  ·have e:enO (enq j s)=scan (enG j.1 j.2.1 C) (.inl ()) 0 j.1.2.1.length:=by unfold enq;rw[hC];exact Bh
   rw[e]
   show (Comp.loop _ ((0:Nat):Int)).val=_
   refine Ah _ _ _ (fun i _ hi=>h2 i (by omega)) ?_
   rw[if_neg (by rw[zG,zC];omega),Comp.zB]
  ·cases hq:enq j s with
   |mk b e =>
    have:=@EX j.1 j.2.1 (ctS j s) j.1.2.1.length 0
    change (enq j s).1=true→(enq j s).2=0 at this
    rw[hq]at this
    cases b with
    |true=>have he:e=0:=this rfl;subst he;exact(Ok.pure (P:=fun x=>x=(true,(0:Int),()))).2 rfl
    |false=>exact(Ok.pure (P:=fun x=>x=(false,e,()))).2 rfl
def kp (p:Part):List Cell:=((List.range p.2.1.length).filter fun i=>decide (wt p i=1)).map (cl p)
def spk (K:List Cell) (e:Eff):Bool:=(e.1.any fun c=>!sap c K) || e.2.1.any fun c=>!sap c K
def bgn (j:Job):List Bool:=m8 fun k=>decide (k<j.2.2.1.length) && spk (kp j.1) (opn j.2.2.1 (k:Int))
theorem Ik {j:Job} (hw:j.1.2.2.1.length=j.1.2.1.length) (hcl:j.1.2.1.length≤1000) (hn:j.2.2.1.length≤8) (hsm:∀x∈j.2.2.1,x.1.length≤100000∧x.2.1.length≤100000):(XY j).val=some ((j,bgn j,()),()):=by
 unfold XY
 refine Ok.val ?_
 rw[Ok.bind]
 refine(Ok.count j.1.2.1.length (fun i (x:Int×List Cell)=>x.1=(i:Int)∧x.2=((List.range i).filter fun i=>decide (wt j.1 i=1)).map (cl j.1)) (P:=fun r=>r=kp j.1) ⟨rfl,rfl⟩ ?_ ?_).mono fun K hK=>?_
 ·rintro i ⟨n,s⟩ hi ⟨h1,h2⟩
  dsimp only at h1 h2
  subst h1 h2
  obtain⟨c,hc⟩:=zQ (xs:=j.1.2.1) (k:=i) hi
  obtain⟨wv,hwv⟩:=zQ (xs:=j.1.2.2.1) (k:=i) (by omega)
  have ew:wt j.1 i=wv:=by unfold wt;exact yq hwv
  have ec:cl j.1 i=c:=by unfold cl;exact yq hc
  have hle:=List.length_filter_le (fun i=>decide (wt j.1 i=1)) (List.range i)
  rw[List.length_range]at hle
  have hr:((List.range (i+1)).filter fun i=>decide (wt j.1 i=1)).map (cl j.1)=((List.range i).filter fun i=>decide (wt j.1 i=1)).map (cl j.1)++if wv=1 then [c] else []:=by
   rw[List.range_succ,List.filter_append,List.map_append]
   by_cases h:wv=1
   ·simp[ew,h,ec]
   ·simp[ew,h]
  rw[if_pos (by rw[zG,zC];omega),Ok.bind,Ok.uN hc,Ok.bind,Ok.uN hwv]
  refine jN (fun y=>y=((List.range (i+1)).filter fun i=>decide (wt j.1 i=1)).map (cl j.1)) (fun j' hj=>?_) fun y hy=>?_
  ·split
   ·rename_i hb
    rw[y5]at hb
    refine gA (by simp;omega) (hj _ ?_)
    rw[hr,if_pos hb]
   ·rename_i hb
    rw[y5]at hb
    refine hj _ ?_
    rw[hr,if_neg hb,List.append_nil]
  ·rw[Ok.pure]
   exact⟨zN (by omega),hy⟩
 ·rintro⟨n,s⟩ ⟨h1,h2⟩
  dsimp only at h1 h2
  subst h1 h2
  rw[if_neg (by rw[zG,zC];omega),Ok.pure];rfl
 ·subst hK
  have hkl:(kp j.1).length≤1000:=by
   have:=List.length_filter_le (fun i=>decide (wt j.1 i=1)) (List.range j.1.2.1.length)
   rw[List.length_range]at this
   unfold kp;rw[List.length_map];omega
  have hm:∀c:Cell,(vp c (kp j.1)).val=some (!sap c (kp j.1),()):=fun c=>by
   unfold vp
   rw[zA,gG c (by omega),zJl,Comp.zB];rfl
  have hcf:∀l:List Cell,l.length≤100000→(zK l fun (z:Cell×Unit)=>vp z.1 (kp j.1)).val=some (l.any fun c=>!sap c (kp j.1),()):=fun l hl=>kH (xs:=l) (f:=fun z=>vp z.1 (kp j.1)) (p:=fun c=>!sap c (kp j.1)) (by omega) fun c _=>hm c
  rw[Ok.bind]
  refine(Ok.count j.2.2.1.length (fun i (x:Int×Job×List Bool×Unit)=>x=((i:Int),j,(m8 fun k=>decide (k<i) && spk (kp j.1) (opn j.2.2.1 (k:Int))),())) (P:=fun r=>r=(j,bgn j,())) rfl ?_ ?_).mono fun r hr=>by rw[Ok.pure,hr]
  ·rintro i x hi rfl
   dsimp only
   obtain⟨e,he⟩:=zQ (xs:=j.2.2.1) (k:=i) hi
   have heo:opn j.2.2.1 (i:Int)=e:=by unfold opn;exact yq he
   obtain⟨s1,s2⟩:=hsm e (List.mem_of_getElem? he)
   rw[if_pos (by rw[zG,zC];omega),Ok.bind,Ok.uN he,Ok.yL (hcf e.1 s1),Ok.bind]
   dsimp only
   have hg:Ok (Comp.gd (ntB (e.1.any fun c=>!sap c (kp j.1))) (zK e.2.1 fun (z:Cell×Unit)=>vp z.1 (kp j.1)) (false,())) fun b=>sel (e.1.any fun c=>!sap c (kp j.1)) true b.1=spk (kp j.1) e:=by
    unfold spk
    cases hb:(e.1.any fun c=>!sap c (kp j.1)) with
    |true=>exact Ok.CA (fun h=>nomatch h) fun _=>rfl
    |false=>exact Ok.CA (fun _=>(Ok.jB (hcf e.2.1 s2)).2 rfl) fun h=>nomatch h
   refine hg.mono fun b hb=>?_
   rw[Ok.yL (jm ⟨by omega,by omega⟩),Ok.pure]
   show _=_
   rw[hb,YO,←heo,EP (g:=fun k=>spk (kp j.1) (opn j.2.2.1 (k:Int))) (by omega),zN (by omega)]
  ·rintro x rfl
   dsimp only
   rw[if_neg (by rw[zG,zC];omega),Ok.pure];rfl
structure PlOk (j:Job):Prop where
 w:j.1.2.2.1.length=j.1.2.1.length
 x:j.2.1.1.length=j.1.2.1.length
 pc:j.2.1.2.2.1.length≤1000
 sm:∀x∈j.2.2.1,x.1.length≤100000∧x.2.1.length≤100000
 cl:j.1.2.1.length≤1000
 n:j.2.2.1.length≤8
 nn:u4 j.2.2.1
 cs:zGX j.2.2.1
def Bel (s:List Bool) (k:Nat):Prop:=s.length=8∧∀i,B8 s i=true→i<k
theorem Bel.set {s:List Bool} {k:Nat} (h:Bel s k) (hk:k<8):Bel (s.set k true) (k+1):=⟨by simp[h.1],fun i hi=>by
 rw[w9 h.1 hk]at hi
 split at hi
 ·omega
 ·have:=h.2 i hi;omega⟩
theorem Bel.le {s:List Bool} {k m:Nat} (h:Bel s k) (hm:k≤m):Bel s m:=⟨h.1,fun i hi=>Nat.lt_of_lt_of_le (h.2 i hi) hm⟩
theorem W0 {n:Nat} {sp out:List Bool}:Bel (rs n sp out) n:=⟨XF _,fun i hi=>by
 by_cases h8:i<8
 ·unfold rs at hi
  rw[mX h8]at hi
  simp only[zJn,decide_eq_true_eq]at hi
  exact hi.1
 ·rw[Ce (show (rs n sp out).length=8 from XF _) (by omega)]at hi;cases hi⟩
def tz:Nat→Nat
 |0=>1
 |d+1=>2 * tz d+1
theorem Wq:∀d,1≤tz d
 |0=>zJp _
 |d+1=>by unfold tz;omega
theorem qe:Bel z8 0:=⟨rfl,fun i hi=>by
 by_cases h8:i<8
 ·rw[zDg (g:=fun _=>true),mX h8]at hi;simp at hi
 ·rw[Ce rfl (by omega)]at hi;cases hi⟩
section
variable {j:Job} (hj:PlOk j)
include hj
theorem PlOk.Q0 {sp s:List Bool} (hs:Bel s j.2.2.1.length):(vr (j,sp,()) s).val=some ((enq j s).1,(enq j s).2,()) :=
 DT hs.1 hs.2 hj.w hj.x hj.pc (fun x hx=>(hj.sm x hx).1) hj.cl
theorem PlOk.short {sp inn out:List Bool} (hsp:sp.length=8) (hi:inn.length=8) (ho:out.length=8):Ok (jK (j,sp,()) inn out) fun _=>True:=by
 unfold jK
 rw[Ok.yL (An hsp ho hj.n hj.nn),Ok.yL (JH hi)]
 dsimp only
 rw[Ok.bind]
 have hln:=Kh inn
 refine(Ok.count (slI inn).length (fun i (x:Int)=>x=(i:Int)) (P:=fun _=>True) rfl ?_ ?_).mono fun r _=>?_
 ·rintro i x hi' rfl
  obtain⟨y,hy⟩:=zQ hi'
  obtain⟨k,rfl,hk8,hkb⟩:=Ev hy
  rw[if_pos (by rw[zG,zC];omega),Ok.bind,Ok.uN hy,Ok.bind,Ok.uN (J9 (show (rs j.2.2.1.length sp out).length=8 from XF _) hk8)]
  split
  ·rw[Ok.pure];trivial
  ·rw[Ok.pure];exact zN (by omega)
 ·rintro x rfl
  rw[if_neg (by rw[zG,zC];omega),Ok.pure];trivial
 ·cases r with
  |inl u=>dsimp only;rw[Ok.yL (hj.Q0 W0),Ok.pure];trivial
  |inr b=>dsimp only;rw[Ok.pure];trivial
theorem PlOk.tree {sp:List Bool} (hsp:sp.length=8) {lim:Int}:∀(m:Nat) (k:Nat) (inn out:List Bool) (y:List (Int×Int×Unit)),j.2.2.1.length-k<m→k≤j.2.2.1.length→Bel inn k→Bel out k→y.length+tz (j.2.2.1.length-k)≤1000→Ok (ja m (k:Int) inn out lim (j,sp,()) y) fun r=>∃y',r=.inr (y',())∧y'.length≤y.length+tz (j.2.2.1.length-k):=by
 intro m
 induction m with
 |zero=>intro k inn out y h;omega
 |succ m ih =>
  intro k inn out y hm hk hi ho hy
  show Ok (kD (ja m) (k:Int) inn out lim (j,sp,()) y) _
  have hn:=hj.n
  have htp:=Wq (j.2.2.1.length-k)
  unfold kD
  rw[Ok.bind]
  have hcost:Ok (Comp.gd (gtI lim 0) (gw (j,sp,()) inn) (0,())) fun _=>True:=Ok.CA (fun _=>(Ok.jB (Bm hi.1 (fun i h=>Nat.lt_of_lt_of_le (hi.2 i h) hk) hj.cs)).2 trivial) fun _=>trivial
  refine hcost.mono fun c _=>?_
  refine jN (fun y'=>y'.length≤y.length+tz (j.2.2.1.length-k)) (fun j' hj'=>?_) fun y' hy'=>by rw[Ok.pure];exact⟨y',rfl,hy'⟩
  split
  ·exact gA (by simp;omega) (hj' _ (by simp;omega))
  ·rw[Ok.bind]
   have hsh:Ok (Comp.gd (ntB (geI (k:Int) (zF (j,sp,()).1.2.2.1))) (jK (j,sp,()) inn out) (false,())) fun _=>True:=Ok.CA (fun _=>hj.short hsp hi.1 ho.1) fun _=>trivial
   refine hsh.mono fun b _=>?_
   refine jN (fun y'=>y'.length≤y.length+tz (j.2.2.1.length-k)) (fun j2 hj2=>?_) fun y' hy'=>hj' _ hy'
   split
   ·exact gA (by simp;omega) (hj2 _ (by simp;omega))
   ·rename_i hns
    have hlt:k<j.2.2.1.length:=by
     by_cases h:k<j.2.2.1.length
     ·exact h
     ·exfalso
      refine hns ?_
      have:geI (k:Int) (zF (j,sp,()).1.2.2.1)=true:=by rw[Kz];show (j.2.2.1.length:Int)≤(k:Int);omega
      rw[this];rfl
    have hd:j.2.2.1.length-k=(j.2.2.1.length-(k+1))+1:=by omega
    have htz:tz (j.2.2.1.length-k)=2 * tz (j.2.2.1.length-(k+1))+1:=by rw[hd];rfl
    refine gA (by simp;omega) ?_
    rw[Ok.yL (jm ⟨by omega,by omega⟩),Ok.yL (jm ⟨by omega,by omega⟩),zN (by omega),YO,YO,Ok.bind]
    have e1:(y++[(1,(k:Int),())]).length=y.length+1:=by simp
    refine(ih (k+1) (inn.set k true) out _ (by omega) (by omega) (hi.set (by omega)) (ho.le (by omega)) (by rw[e1];omega)).mono ?_
    rintro r ⟨y1,rfl,hy1⟩
    dsimp only
    rw[Ok.bind]
    refine(ih (k+1) inn (out.set k true) y1 (by omega) (by omega) (hi.le (by omega)) (ho.set (by omega)) (by rw[e1]at hy1;omega)).mono ?_
    rintro r ⟨y2,rfl,hy2⟩
    refine hj2 _ ?_
    dsimp only
    rw[e1]at hy1
    omega
theorem PlOk.V7 {sp:List Bool} (hsp:sp.length=8) (lim:Int):Ok (jw (j,sp,()) lim) fun _=>True:=by
 unfold jw
 rw[Ok.bind]
 have hn:=hj.n
 have htz:∀d,d≤8→tz d≤511:=fun d hd=>by
  match d,hd with
  |0,_|1,_|2,_|3,_|4,_|5,_|6,_|7,_|8,_=>decide
 refine(hj.tree hsp 40 0 z8 z8 [] (by omega) (by omega) qe qe (by have:=htz j.2.2.1.length hn;simp;omega)).mono ?_
 rintro r ⟨y,rfl,_⟩
 dsimp only
 rw[Ok.pure];trivial
end
theorem lL {k:α→Comp β} {b:(α→Comp β)→Comp β} {P:β→Prop} (h:Ok (b k) P):Ok (jn k b) P:=h
def Fnd (j:Job) (sp:List Bool) (b:Int) (f:List Bool):Prop:=b = -1∨(Bel f j.2.2.1.length∧alw j.2.2.1.length sp f=true∧(enq j f).1=true∧b=cst j.2.2.1 (sl f))
def Bst (j:Job) (sp:List Bool) (b:Int) (T:List Bool→Prop):Prop:=∀t,Bel t j.2.2.1.length→alw j.2.2.1.length sp t=true→T t→(enq j t).1=true→0≤b∧b≤cst j.2.2.1 (sl t)
def Agr (s t:List Bool) (k:Nat):Prop:=∀i,i<k→B8 t i=B8 s i
structure Vst (j:Job) (sp:List Bool) (b:Int) (T:List Bool→Prop) (b':Int) (f':List Bool):Prop where
 fnd:Fnd j sp b' f'
 dn:0≤b→0≤b'∧b'≤b
 bst:Bst j sp b' T
section
variable {j:Job} (hj:PlOk j)
include hj
theorem PlOk.zJZ {s:List Bool} (hs:Bel s j.2.2.1.length):0≤cst j.2.2.1 (sl s):=(EY (m:=1048576) fun k hk=>hj.cs k (hs.2 k (YK.1 hk).2)).1
theorem PlOk.visit {sp:List Bool} (hsp:sp.length=8):∀(m k:Nat) (s:List Bool) (b:Int) (f:List Bool),j.2.2.1.length-k<m→k≤j.2.2.1.length→Bel s k→Fnd j sp b f→Ok (YF m (k:Int) s (j,sp,()) b f) fun r=>match r with|.inl e=>e≠0|.inr y=>Vst j sp b (fun t=>Agr s t k) y.1 y.2.1:=by
 intro m
 induction m with
 |zero=>intro k s b f h;omega
 |succ m ih =>
  intro k s b f hm hk hs hf
  show Ok (YY (YF m) (k:Int) s (j,sp,()) b f) _
  have hn:=hj.n
  have hsn:=hs.le hk
  unfold YY
  rw[Ok.yL (AP hsp hs.1 hj.n hj.nn)]
  dsimp only
  refine jN (fun x:Int×List Bool=>Vst j sp b (fun t=>t=s) x.1 x.2) (fun j' hj'=>?_) ?_
  ·by_cases ha:alw j.2.2.1.length sp s=true
   ·rw[if_pos ha,Ok.yL (hj.Q0 hsn)]
    dsimp only
    by_cases he:(enq j s).2=0
    ·rw[if_neg (by rw[zd];simp[he]),Ok.yL (Bm hs.1 (fun i h=>hsn.2 i h) hj.cs)]
     dsimp only
     have h0:=hj.zJZ hsn
     refine jN (fun x:Int×List Bool=>Vst j sp b (fun t=>t=s) x.1 x.2) (fun j2 hj2=>?_) fun x hx=>hj' _ hx
     cases hq:(enq j s).1 with
     |false =>
      rw[if_neg (by simp[sel])]
      exact hj2 _ ⟨hf,fun h=>⟨h,Int.le_refl _⟩,fun t _ _ ht h=>by subst ht;rw[hq]at h;cases h⟩
     |true =>
      by_cases hlt:b<0∨cst j.2.2.1 (sl s)<b
      ·rw[if_pos (by
        show sel true (sel (ltI b 0) true (ltI (cst j.2.2.1 (sl s)) b)) false=true
        cases h:ltI b 0 with
        |true=>rfl
        |false =>
         show ltI (cst j.2.2.1 (sl s)) b=true
         rw[zG]
         rcases hlt with h2|h2
         ·rw[←zG,h]at h2;cases h2
         ·exact h2)]
       exact hj2 _ ⟨.inr ⟨hsn,ha,hq,rfl⟩,fun h=>⟨h0,by omega⟩,fun t _ _ ht _=>by subst ht;exact⟨h0,Int.le_refl _⟩⟩
      ·rw[if_neg (by
        show ¬sel true (sel (ltI b 0) true (ltI (cst j.2.2.1 (sl s)) b)) false=true
        cases h:ltI b 0 with
        |true=>rw[zG]at h;exact absurd (.inl h) hlt
        |false =>
         show ¬ltI (cst j.2.2.1 (sl s)) b=true
         rw[zG]
         exact fun h2=>hlt (.inr h2))]
       exact hj2 _ ⟨hf,fun h=>⟨h,Int.le_refl _⟩,fun t _ _ ht _=>by subst ht;omega⟩
    ·rw[if_pos (by rw[zd];exact he),Ok.pure];exact he
   ·rw[if_neg ha]
    exact hj' _ ⟨hf,fun h=>⟨h,Int.le_refl _⟩,fun t _ h2 ht _=>by subst ht;exact absurd h2 ha⟩
  ·rintro⟨b1,f1⟩ h1
   dsimp only at h1
   rw[Ok.bind]
   refine(Ok.count (j.2.2.1.length-k) (fun i (x:Int×Int×List Bool)=>x.1=((k+i:Nat):Int)∧Vst j sp b (fun t=>t=s∨Agr s t k∧∃q,k≤q∧q<k+i∧B8 t q=true) x.2.1 x.2.2) (P:=fun r:Int×List Bool⊕Int=>match r with|.inl y=>Vst j sp b (fun t=>Agr s t k) y.1 y.2|.inr e=>e≠0) ?_ ?_ ?_).mono ?_
   ·refine⟨by simp,h1.fnd,h1.dn,fun t g1 g2 g3 g4=>h1.bst t g1 g2 ?_ g4⟩
    rcases g3 with g|⟨_,q,q1,q2,_⟩
    ·exact g
    ·omega
   ·rintro i ⟨n,b2,f2⟩ hi ⟨e1,h2⟩
    dsimp only at e1 h2
    subst e1
    rw[if_pos (by rw[zG,zC];omega),Ok.yL (jm ⟨by omega,by omega⟩),zN (by omega),YO,Ok.bind]
    refine(ih (k+i+1) (s.set (k+i) true) b2 f2 (by omega) (by omega) ((hs.le (by omega)).set (by omega)) h2.fnd).mono ?_
    rintro(e|⟨b3,f3,u⟩) hr
    ·dsimp only at hr ⊢
     rw[Ok.pure];exact hr
    ·dsimp only at hr ⊢
     rw[Ok.pure]
     have hd:∀c:Int,0≤b2∧b2≤c→0≤b3∧b3≤c:=fun c h=>by have:=hr.dn h.1;omega
     refine⟨by rw[Nat.add_assoc],hr.fnd,fun h=>hd _ (h2.dn h),fun t g1 g2 g3 g4=>?_⟩
     by_cases hold:t=s∨Agr s t k∧∃q,k≤q∧q<k+i∧B8 t q=true
     ·exact hd _ (h2.bst t g1 g2 hold g4)
     ·refine hr.bst t g1 g2 ?_ g4
      rcases g3 with g|⟨g,q,q1,q2,q3⟩
      ·exact absurd (.inl g) hold
      ·have hq:q=k+i:=by
        by_cases h:q<k+i
        ·exact absurd (.inr ⟨g,q,q1,h,q3⟩) hold
        ·omega
       subst hq
       intro p hp
       rw[w9 hs.1 (by omega)]
       split
       ·rename_i h;rw[h];exact q3
       ·by_cases hpk:p<k
        ·exact g p hpk
        ·have c1:B8 s p=false:=by
          cases h:B8 s p with
          |false=>rfl
          |true=>have:=hs.2 p h;omega
         rw[c1]
         cases h:B8 t p with
         |false=>rfl
         |true=>exact absurd (.inr ⟨g,p,by omega,by omega,h⟩) hold
   ·rintro⟨n,b2,f2⟩ ⟨e1,h2⟩
    dsimp only at e1 h2
    subst e1
    rw[if_neg (by rw[zG,zC];show ¬((k+(j.2.2.1.length-k):Nat):Int)<(j.2.2.1.length:Int);omega),Ok.pure]
    refine⟨h2.fnd,h2.dn,fun t g1 g2 g3 g4=>h2.bst t g1 g2 ?_ g4⟩
    by_cases h:∃q,k≤q∧B8 t q=true
    ·obtain⟨q,q1,q2⟩:=h
     have:=g1.2 q q2
     exact .inr ⟨g3,q,q1,by omega,q2⟩
    ·refine .inl (Vr g1.1 hs.1 fun p hp=>?_)
     by_cases hpk:p<k
     ·exact g3 p hpk
     ·have c1:B8 s p=false:=by
       cases h:B8 s p with
       |false=>rfl
       |true=>have:=hs.2 p h;omega
      rw[c1]
      cases h2:B8 t p with
      |false=>rfl
      |true=>exact absurd ⟨p,by omega,h2⟩ h
   ·rintro(⟨b2,f2⟩|e) hr
    ·dsimp only at hr ⊢
     rw[Ok.pure];exact hr
    ·dsimp only at hr ⊢
     rw[Ok.pure];exact hr
end
structure SmB (j:Job):Prop where
 s:SmJ j
 c:j.1.2.1.length≤1000
 nn:u4 j.2.2.1
theorem SmB.pl {j:Job} (h:SmB j) (hc:ckJ j=0):PlOk j:=by
 have hcost:=Nq hc
 unfold ckJ at hc
 split at hc
 ·rename_i hf
  obtain⟨_,_,f1,f2,f3,f4,f5,f6⟩:=w8 hf
  split at hc
  ·cases hc
  ·rename_i h8
   exact⟨f6,f1,by omega,fun x hx=>⟨(h.s.e x hx).1,(h.s.e x hx).2.1⟩,h.c,by omega,h.nn,fun k hk=>by
    obtain⟨x,hx⟩:=zQ hk
    have e:opn j.2.2.1 (k:Int)=x:=by unfold opn;exact yq hx
    rw[e];exact hcost x (List.mem_of_getElem? hx)⟩
 ·rename_i hf;exact absurd hc hf
def Wm (j:Job) (l:List Int):Prop:=l=[]∨∃t,l=slI t∧Bel t j.2.2.1.length∧alw j.2.2.1.length (bgn j) t=true∧(enq j t).1=true∧∀u,Bel u j.2.2.1.length→alw j.2.2.1.length (bgn j) u=true→(enq j u).1=true→cst j.2.2.1 (sl t)≤cst j.2.2.1 (sl u)
theorem VM {j:Job} (h:SmB j):Ok (JU j) fun r=>(r.2.2.2.1≠0→r.1=[])∧(r.2.2.2.1=0→ckJ j=0∧Wm j r.1):=by
 unfold JU
 rw[Ok.yL (Xy h.s.w h.s.e)]
 dsimp only
 by_cases hc:ckJ j=0
 ·have hj:=h.pl hc
  have hb:(bgn j).length=8:=XF _
  have hn:=hj.n
  rw[if_neg (by rw[zd];simp[hc]),Ok.yL (Ik hj.w hj.cl hj.n hj.sm),Ok.bind]
  dsimp only
  refine(hj.visit hb 40 0 z8 (-1) z8 (by omega) (by omega) qe (.inl rfl)).mono ?_
  rintro(e|⟨b,f,u⟩) hr
  ·dsimp only at hr ⊢
   refine lL ?_
   rw[Ok.pure]
   exact⟨fun _=>rfl,fun h=>absurd h hr⟩
  ·dsimp only at hr ⊢
   by_cases h1:b = -1
   ·rw[if_pos (by rw[y5];exact h1),Ok.bind]
    refine(hj.V7 hb 0).mono fun y _=>?_
    refine lL ?_
    rw[Ok.pure]
    exact⟨fun _=>rfl,fun h=>by cases h⟩
   ·rw[if_neg (by rw[y5];exact h1)]
    by_cases h0:b=0
    ·rw[if_pos (by rw[y5];exact h0)]
     refine lL ?_
     rw[Ok.pure]
     exact⟨fun _=>rfl,fun _=>⟨hc,.inl rfl⟩⟩
    ·rcases hr.fnd with g|⟨g1,g2,g3,g4⟩
     ·exact absurd g h1
     ·rw[if_neg (by rw[y5];exact h0),Ok.yL (JH g1.1),Ok.bind]
      refine(hj.V7 hb b).mono fun y _=>?_
      refine lL ?_
      rw[Ok.pure]
      refine⟨fun h=>absurd rfl h,fun _=>⟨hc,.inr ⟨f,rfl,g1,g2,g3,fun t t1 t2 t3=>?_⟩⟩⟩
      rw[←g4]
      exact(hr.bst t t1 t2 (fun i hi=>absurd hi (by omega)) t3).2
 ·rw[if_pos (by rw[zd];exact hc),Ok.pure]
  exact⟨fun _=>rfl,fun h=>absurd h hc⟩
def bx (a b c d e f:Int):Cell:=[((1,0,0,()),d,()),((-1,0,0,()),-a,()),((0,1,0,()),e,()),((0,-1,0,()),-b,()),((0,0,1,()),f,()),((0,0,-1,()),-c,())]
def b1:=bx 0 0 0 2 2 2
def b2:=bx 2 0 0 4 2 2
def b3:=bx 4 0 0 6 2 2
def ex:Job:=(([],[b1,b2,b3],[1,2,3],()),([false,false,false],[false,false,false],[],()),[([b2],[],3,[],()),([b3],[],4,[],()),([b2,b3],[],5,[],())],())
theorem v1:YA ex [1,2,3] [0,1]=([1],0):=by decide +kernel
theorem v2:YA ex [1,3,2] [0,1]=([0],0):=by decide +kernel
theorem v3:YA ex [3,3,3] [0,1]=([0,1],0):=by decide +kernel
theorem v4:YA ex [1,2,1] [0,1]=([0,1],0):=by decide +kernel
theorem v5:YA ex [1,2,3] [0,3]=([],5):=by decide +kernel
theorem v6:YA ex [1,2,3] [0,0]=([],6):=by decide +kernel
theorem v7:YA ex [1,2] [0,1]=([],1):=by decide +kernel
theorem c1:chg ex [1,3,2] [0,1] [1,0] [5,6] [9,4]=([(0,1,3,())],0):=by unfold chg;rw[v2];decide +kernel
theorem c2:chg ex [1,3,2] [0,1] [1,0] [4,6] [9,4]=([(0, -1,3,())],0):=by unfold chg;rw[v2];decide +kernel
theorem AF:gf.val=some (ex,()):=by
 have h:gf.run 20=some (ex,()):=by kernel_rfl
 exact YM h
theorem HU:SmJ ex where
 w:=by decide
 e:=fun x hx=>by
  have:x=([b2],[],3,[],())∨x=([b3],[],4,[],())∨x=([b2,b3],[],5,[],()):=by
   rcases List.mem_cons.1 hx with e|hx
   ·exact .inl e
   ·rcases List.mem_cons.1 hx with e|hx
    ·exact .inr (.inl e)
    ·rcases List.mem_cons.1 hx with e|hx
     ·exact .inr (.inr e)
     ·cases hx
  rcases this with e|e|e<;>rw[e]<;>exact⟨by decide,by decide,by decide⟩
 n:=by decide
theorem lD {w d v:List Int} (hv:YA ex w d=(v,0)) (hw:w.length<1000) (hd:d.length≤1000) (hs:(vO v v).run 20=some (true,())):(vy ex w d v).val=some (true,()):=by
 unfold vy
 rw[zA,KN HU (by omega) hd,zJl,hv]
 show ((Comp.gd true (vO v v) (false,())).bind fun x=>Comp.pure (sel true x.1 false,())).val=_
 rw[zA]
 show Option.bind (vO v v).val _=_
 rw[YM hs,zJl,Comp.zB];rfl
theorem wI {w d:List Int} {n:Int} (hv:YA ex w d=([],n)) (hw:w.length<1000) (hd:d.length≤1000):(vU ex w d n).val=some (true,()):=by
 unfold vU
 rw[zA,KN HU (by omega) hd,zJl,hv,Comp.zB]
 have:eqI n n=true:=by rw[y5]
 dsimp only
 rw[this];rfl
theorem C0:jF.val=some (true,()):=by
 unfold jF
 rw[zA,AF,zJl,vi]
 dsimp only
 rw[zA,lD v1 (by decide) (by decide) (by kernel_rfl),zJl,if_pos rfl,
  zA,lD v2 (by decide) (by decide) (by kernel_rfl),zJl,if_pos rfl,
  zA,lD v3 (by decide) (by decide) (by kernel_rfl),zJl,if_pos rfl,
  zA,lD v4 (by decide) (by decide) (by kernel_rfl),zJl,vi,
  zA,wI (n:=Int.ofNat 5) v5 (by decide) (by decide),zJl,if_pos rfl,
  zA,wI (n:=Int.ofNat 6) v6 (by decide) (by decide),zJl,if_pos rfl,
  zA,wI (n:=Int.ofNat 1) v7 (by decide) (by decide),zJl,
  zA,wk HU (by decide) (by decide) (by decide) (by decide) (by decide),zJl,c1,
  zA,wk HU (by decide) (by decide) (by decide) (by decide) (by decide),zJl,c2,vi]
 refine YM (n:=20) ?_
 kernel_rfl
def I4 (e:Int):Prop:=e=0∨e=9∨e=2
theorem zDh {pcs:List Cell} {q:Cell}:(wth pcs q).2=0∨(wth pcs q).2=9:=by
 unfold wth
 split
 ·split
  ·exact .inr rfl
  ·split
   ·exact .inr rfl
   ·exact .inl rfl
 ·exact .inl rfl
theorem GJ:∀ {s pcs:List Cell},(Xi pcs s).2=0∨(Xi pcs s).2=9
 | [],_=>.inl rfl
 |q::s,pcs=>by
  unfold Xi
  split
  ·exact GJ
  ·exact zDh
theorem zFU {s:List Cell} {c:Cell} (hc:chk c=0) (hs:∀q∈s,chk q=0):I4 (cov s c).2:=by
 show I4 (mns c s).2
 unfold mns
 rw[if_pos hc]
 split
 ·split
  ·rcases GJ (s:=s) (pcs:=[ln c]) with h|h
   ·exact .inl h
   ·exact .inr (.inl h)
  ·exact .inl rfl
 ·unfold sck
  split
  ·exact .inr (.inr rfl)
  ·exact .inl (kR.2 hs)
theorem Wl {all:List Cell} (ha:∀q∈all,chk q=0):∀ {C:List Cell} {S:List Bool},(∀c∈C,chk c=0)→I4 (apE all C S)
 | [],_,_=>.inl rfl
 |c::C,[],_=>.inl rfl
 |c::C,s::S,h=>by
  have ih:=Wl ha (C:=C) (S:=S) fun d hd=>h d (List.mem_cons_of_mem _ hd)
  unfold apE
  cases s with
  |true=>exact ih
  |false =>
   dsimp only [cond_false]
   split
   ·exact ih
   ·exact zFU (h c (by simp)) fun q hq=>ha q (List.mem_filter.1 hq).1
theorem B5:∀ {l seen:List Cell},uP seen l=true→∀c∈l,chk c=0
 | [],_,_,c,hc=>by cases hc
 |d::l,seen,h,c,hc=>by
  unfold uP at h
  simp only[zJn]at h
  rcases List.mem_cons.1 hc with e|e
  ·subst e
   have:=h.1
   unfold ful at this
   simp only[zJn,decide_eq_true_eq]at this
   exact this.1
  ·exact B5 h.2.2 c e
theorem VF {p:Part} (h:ckP p=0):∀c∈p.2.1,chk c=0:=by
 unfold ckP at h
 split at h
 ·cases h
 ·split at h
  ·cases h
  ·cases hb:uP [] p.2.1 with
   |true=>exact B5 hb
   |false=>rw[hb]at h;cases h
theorem pH {n:Nat}:∀ {L:List Eff} {k:Nat},efs n L k=0→∀x∈L,∀c∈x.1++x.2.1,chk c=0
 | [],_,_,x,hx=>by cases hx
 |y::L,k,h,x,hx=>by
  unfold efs at h
  split at h
  ·rename_i h1
   rcases List.mem_cons.1 hx with e|e
   ·subst e
    unfold eE at h1
    split at h1
    ·rename_i h2;exact kR.1 h2
    ·rename_i h2;exact absurd h1 h2
   ·exact pH h x e
  ·rename_i h1;exact absurd h h1
theorem VG {j:Job} (h:ckJ j=0):fit j.1 j.2.1=0∧∀x∈j.2.2.1,∀c∈x.1++x.2.1,chk c=0:=by
 unfold ckJ at h
 split at h
 ·rename_i hf
  split at h
  ·cases h
  ·split at h
   ·rename_i h1;exact⟨hf,pH h1⟩
   ·rename_i h1;exact absurd h h1
 ·rename_i h1;exact absurd h h1
theorem N4:∀ {l seen:List Int},l.Nodup→(∀k∈l,k ∉ seen)→twc seen l=false
 | [],_,_,_=>rfl
 |k::l,seen,h,hs=>by
  have hn:=List.nodup_cons.1 h
  unfold twc
  rw[N4 hn.2 fun q hq=>by
   rw[List.mem_append,List.mem_singleton]
   rintro(h1|h1)
   ·exact hs q (by simp[hq]) h1
   ·subst h1;exact hn.1 hq]
  simp[hs k (by simp)]
theorem Sw {t:List Bool} {n:Nat} (h:Bel t n):lsd n (slI t)=0:=by
 have h1:(slI t).any (uB n)=false:=by
  rw[List.any_eq_false]
  intro k hk
  obtain⟨q,hq,rfl⟩:=List.mem_map.1 hk
  have:=h.2 q (YK.1 hq).2
  unfold uB
  simp;omega
 have h2:(slI t).Nodup:=by
  unfold slI sl
  refine List.Pairwise.map _ (R:=fun a b:Nat=>a≠b) (fun a b hab h=>hab (by omega)) ?_
  exact List.Pairwise.filter _ List.nodup_range
 unfold lsd
 rw[h1,N4 h2 (by simp)];rfl
theorem tI {t:List Bool} (ht:t.length=8) {k:Nat} (hk:k<8):sl (t.set k false)=(sl t).filter fun i=>decide (i≠k):=by
 unfold sl
 rw[List.filter_filter]
 refine List.filter_congr fun i hi=>?_
 rw[w9 ht hk]
 by_cases h:i=k
 ·simp[h]
 ·simp[h]
theorem KD {G:Nat→List Cell} {k:Nat} (h:G k=[]):∀l:List Nat,(l.filter fun i=>decide (i≠k)).flatMap G=l.flatMap G
 | []=>rfl
 |a::l=>by
  have ih:=KD h l
  rw[List.filter_cons]
  split
  ·rw[List.flatMap_cons,List.flatMap_cons,ih]
  ·rename_i h1
   have:a=k:=by simpa using h1
   subst this
   rw[List.flatMap_cons,h,ih];rfl
theorem wb {L:List Eff} {k:Nat}:∀l:List Nat,(∀i∈l,1≤(opn L (i:Int)).2.2.1)→cst L (l.filter fun i=>decide (i≠k))≤cst L l∧(k∈l→cst L (l.filter fun i=>decide (i≠k))<cst L l)
 | [],_=>⟨Int.le_refl _,fun h=>nomatch h⟩
 |a::l,h=>by
  have ih:=wb (k:=k) l fun i hi=>h i (List.mem_cons_of_mem _ hi)
  have ha:=h a (by simp)
  have e:∀m,cst L (a::m)=(opn L (a:Int)).2.2.1+cst L m:=fun m=>by simp[cst]
  rw[List.filter_cons]
  split
  ·rename_i h1
   rw[e,e]
   refine⟨by omega,fun hm=>?_⟩
   rcases List.mem_cons.1 hm with h2|h2
   ·subst h2;simp at h1
   ·have:=ih.2 h2;omega
  ·rw[e]
   exact⟨by omega,fun _=>by omega⟩
theorem pG {p:Part} {x:yF} {A B:List Cell}:∀ {m i:Nat},(∀q,i≤q→q<i+m→wt p q=2→nr A (cl p q)=nr B (cl p q))→enR p x A i m=enR p x B i m
 |0,_,_=>rfl
 |m+1,i,h=>by
  have ih:=pG (p:=p) (x:=x) (A:=A) (B:=B) (m:=m) (i:=i+1) fun q h1 h2 h3=>h q (by omega) (by omega) h3
  unfold enR
  rw[ih]
  by_cases hw:wt p i=2
  ·rw[h i (zJp _) (by omega) hw]
  ·rw[if_pos (.inl hw),if_pos (.inl hw)]
theorem Qe {j:Job} {s:List Bool} {c:Cell}:nr (ctS j s) c=nr j.2.1.2.2.1 c++(sl s).flatMap fun k:Nat=>nr (opn j.2.2.1 (k:Int)).1 c:=by
 unfold nr ctS
 rw[List.filter_append,List.filter_flatMap]
theorem Wp {p:Part} {cuts:List Cell} (h:usl p cuts=true) {i:Nat} (hi:i<p.2.1.length) (hw:wt p i=2):nr cuts (cl p i)=[]:=by
 unfold usl at h
 rw[Bool.not_eq_true']at h
 unfold anyI at h
 rw[List.any_eq_false]at h
 have:=h i (List.mem_range.2 hi)
 simp only[hw,decide_true,Bool.true_and,Bool.not_eq_true',Bool.not_eq_false]at this
 unfold nr
 refine List.filter_eq_nil_iff.2 fun q hq=>?_
 unfold sap at this
 rw[List.all_eq_true]at this
 rw[qa,this q hq];simp
theorem AG {j:Job} {t:List Bool} (ht:t.length=8) {k:Nat} (hk:k<8) (hu:usl j.1 (opn j.2.2.1 (k:Int)).1=true):enq j (t.set k false)=enq j t:=by
 unfold enq
 refine pG fun q _ hq hw=>?_
 rw[Qe,Qe,tI ht hk,KD (Wp hu (by omega) hw)]
theorem UG {L:List Eff} (k:Nat) (h:k<L.length):∃x,L[k]?=some x∧opn L (k:Int)=x:=by
 obtain⟨x,hx⟩:=zQ h
 exact⟨x,hx,by unfold opn;exact yq hx⟩
theorem Bk {L:List Eff} {t:List Bool}:kW L (slI t)=(sl t).flatMap fun k:Nat=>(opn L (k:Int)).1:=by
 unfold kW slI
 rw[List.flatMap_map]
theorem Sn {L:List Eff} {t:List Bool}:Xs L (slI t)=(sl t).flatMap fun k:Nat=>(opn L (k:Int)).2.1:=by
 unfold Xs slI
 rw[List.flatMap_map]
theorem SI {p:Part} {x y:yF} (hf:fit p x=0) (hv:vd p x≠35) {B:List Cell} (hy:y.2.2.1=x.2.2.1++B) (hB:∀i,i<p.2.1.length→wt p i=1→∀q∈B,apa (cl p i) q=true):vd p y≠35:=by
 have h1:anyI p.2.1.length (vS p x)=false:=by
  cases h:anyI p.2.1.length (vS p x) with
  |false=>rfl
  |true=>unfold vd at hv;rw[if_pos hf,h]at hv;exact absurd rfl hv
 have h2:anyI p.2.1.length (vS p y)=false:=by
  unfold anyI at h1 ⊢
  rw[List.any_eq_false]at h1 ⊢
  intro i hi h
  refine h1 i hi ?_
  unfold vS at h ⊢
  rw[zJn,decide_eq_true_eq,Bool.not_eq_true']at h ⊢
  refine⟨h.1,?_⟩
  obtain⟨hw,hs⟩:=h
  rw[hy]at hs
  unfold sap at hs ⊢
  rw[List.all_append]at hs
  have:(B.all fun q=>apa (cl p i) q)=true:=List.all_eq_true.2 fun q hq=>hB i (List.mem_range.1 hi) hw q hq
  rw[this,Bool.and_true]at hs
  exact hs
 unfold vd
 rw[h2]
 split
 ·intro h;revert h
  cases anyI p.2.1.length (vT p y)<;>cases anyI p.2.1.length (vL p y)<;>(intro h;cases h)
 ·rename_i hf2
  intro h
  unfold fit at h
  split at h
  ·revert h;cases Yh p y<;>(intro h;cases h)
  ·unfold ckP at h
   split at h
   ·cases h
   ·split at h
    ·cases h
    ·revert h;cases uP [] p.2.1<;>(intro h;cases h)
theorem St {p:Part} {e:Eff} (h:spk (kp p) e=false) {i:Nat} (hi:i<p.2.1.length) (hw:wt p i=1):∀q∈e.1,apa (cl p i) q=true:=by
 intro q hq
 unfold spk at h
 rw[Bool.or_eq_false_iff]at h
 have h1:=List.any_eq_false.1 h.1 q hq
 simp only[Bool.not_eq_true',Bool.not_eq_false]at h1
 unfold sap at h1
 rw[List.all_eq_true]at h1
 rw[qa]
 refine h1 _ ?_
 unfold kp
 refine List.mem_map.2 ⟨i,?_,rfl⟩
 rw[List.mem_filter]
 exact⟨List.mem_range.2 hi,by simp[hw]⟩
theorem Hi {j:Job} (hs:SmB j) (hc:ckJ j=0) {l:List Int} (hb:Wm j l) (hv:vd j.1 j.2.1≠35):(YA j j.1.2.2.1 l).1=[]∧I4 (YA j j.1.2.2.1 l).2:=by
 have hj:=hs.pl hc
 obtain⟨hf,hce⟩:=VG hc
 obtain⟨hck,_,f1,f2,f3,f4,f5,f6⟩:=w8 hf
 have key:∀t,Bel t j.2.2.1.length→alw j.2.2.1.length (bgn j) t=true→(∀k∈sl t,usl j.1 (opn j.2.2.1 (k:Int)).1=false)→(YA j j.1.2.2.1 (slI t)).1=[]∧I4 (YA j j.1.2.2.1 (slI t)).2:=by
  intro t ht ha hu
  have hal:=(Kq ht.1).1 ha
  have hcl:∀k∈sl t,∀c∈(opn j.2.2.1 (k:Int)).1++(opn j.2.2.1 (k:Int)).2.1,chk c=0:=fun k hk c hm=>by
   obtain⟨x,hx,hx2⟩:=UG (L:=j.2.2.1) k (ht.2 k (YK.1 hk).2)
   rw[hx2]at hm
   exact hce x (List.mem_of_getElem? hx) c hm
  have hC:∀c∈kW j.2.2.1 (slI t)++Xs j.2.2.1 (slI t),chk c=0:=fun c hm=>by
   rw[Bk,Sn,List.mem_append]at hm
   rcases hm with hm|hm
   ·obtain⟨k,hk,hm⟩:=List.mem_flatMap.1 hm
    exact hcl k hk c (List.mem_append_left _ hm)
   ·obtain⟨k,hk,hm⟩:=List.mem_flatMap.1 hm
    exact hcl k hk c (List.mem_append_right _ hm)
  have ep:Yp j j.1.2.2.1=j.1:=rfl
  unfold YA
  rw[ep,if_pos hc,if_pos hck,if_pos (Sw ht)]
  have hap:apl j.1 j.2.1 (kW j.2.2.1 (slI t)) (Xs j.2.2.1 (slI t))=apl j.1 j.2.1 (kW j.2.2.1 (slI t)) (Xs j.2.2.1 (slI t)):=rfl
  generalize hA:apl j.1 j.2.1 (kW j.2.2.1 (slI t)) (Xs j.2.2.1 (slI t))=A
  have hA2:I4 A.2∧(A.2=0→A.1.2.2.1=j.2.1.2.2.1++kW j.2.2.1 (slI t)):=by
   rw[←hA]
   unfold apl
   rw[if_pos hf,if_pos (kR.2 hC)]
   split
   ·exact⟨.inr (.inr rfl),fun h=>by cases h⟩
   ·split
    ·exact⟨.inl rfl,fun _=>rfl⟩
    ·rename_i h
     refine⟨Wl (fun q hq=>?_) (VF hck),fun h2=>absurd h2 h⟩
     rcases List.mem_append.1 hq with hq|hq
     ·exact kR.1 f4 q hq
     ·exact hC q (List.mem_append_left _ hq)
  split
  ·rename_i h0
   have hv2:vd j.1 A.1≠35:=SI hf hv (hA2.2 h0) fun i hi hw q hq=>by
    rw[Bk]at hq
    obtain⟨k,hk,hq⟩:=List.mem_flatMap.1 hq
    obtain⟨hkn,hkb⟩:=hal k (YK.1 hk).2
    have hsp:spk (kp j.1) (opn j.2.2.1 (k:Int))=false:=by
     unfold bgn at hkb
     rw[mX (YK.1 hk).1]at hkb
     cases h:spk (kp j.1) (opn j.2.2.1 (k:Int)) with
     |false=>rfl
     |true=>rw[h]at hkb;simp at hkb;omega
    exact St hsp hi hw q hq
   rw[if_neg hv2]
   refine⟨?_,.inl rfl⟩
   refine List.filter_eq_nil_iff.2 fun k hk=>?_
   obtain⟨q,hq,rfl⟩:=List.mem_map.1 hk
   rw[hu q hq];simp
  ·exact⟨rfl,hA2.1⟩
 rcases hb with rfl|⟨t,rfl,t1,t2,t3,t4⟩
 ·have hz:Bel z8 j.2.2.1.length:=qe.le (Nat.zero_le _)
  have hz0:∀k,B8 z8 k≠true:=fun k h=>by have:=qe.2 k h;omega
  exact key z8 hz ((Kq hz.1).2 fun k h=>absurd h (hz0 k)) fun k hk=>absurd (YK.1 hk).2 (hz0 k)
 ·refine key t t1 t2 fun k hk=>?_
  obtain⟨hk8,hkb⟩:=YK.1 hk
  cases hu:usl j.1 (opn j.2.2.1 (k:Int)).1 with
  |false=>rfl
  |true =>
   exfalso
   have hset:∀i,B8 (t.set k false) i=true→B8 t i=true:=fun i hi=>by
    rw[w9 t1.1 hk8]at hi
    split at hi
    ·cases hi
    ·exact hi
   have hu1:Bel (t.set k false) j.2.2.1.length:=⟨by simp[t1.1],fun i hi=>t1.2 i (hset i hi)⟩
   have:=t4 (t.set k false) hu1 ((Kq hu1.1).2 fun i hi=>(Kq t1.1).1 t2 i (hset i hi)) (by rw[AG t1.1 hk8 hu];exact t3)
   rw[tI t1.1 hk8]at this
   have h2:=(wb (L:=j.2.2.1) (k:=k) (sl t) fun i hi=>(hj.cs i (t1.2 i (YK.1 hi).2)).1).2 hk
   omega
def clr (x:Eff):Eff:=(x.1,x.2.1,x.2.2.1,[],())
theorem NO (c:Case):Ok (jj c) fun r=>r.1=true:=by
 unfold jj
 rw[Ok.yL C0,Ok.bind]
 refine(Un c).mono ?_
 rintro⟨j,want,done,u⟩ ⟨hj,hw,hdn⟩
 dsimp only at hj hw hdn ⊢
 have hn:=hj.n
 rw[Ok.bind]
 refine(Ok.count j.2.2.1.length (fun i (x:Int×Part×yF×List Eff×Unit)=>x.1=(i:Int)∧x.2.1=j.1∧x.2.2.1=j.2.1∧x.2.2.2.1.length=j.2.2.1.length∧∀q,x.2.2.2.1[q]?=if q<i then j.2.2.1[q]?.map clr else j.2.2.1[q]?) (P:=fun r:Job=>r=(j.1,j.2.1,j.2.2.1.map clr,())) ⟨rfl,rfl,rfl,rfl,fun q=>by simp⟩ ?_ ?_).mono fun r hr=>?_
 ·rintro i ⟨n,p,x,L,u⟩ hi ⟨h1,h2,h3,h4,h5⟩
  dsimp only at h1 h2 h3 h4 h5
  subst h1 h2 h3
  obtain⟨e,he⟩:=zQ (xs:=j.2.2.1) (k:=i) hi
  have he2:L[i]?=some e:=by rw[h5 i,if_neg (Nat.lt_irrefl i)];exact he
  rw[if_pos (by rw[zG,zC];omega),Ok.yL (jm ⟨by omega,by show (i:Int)<(L.length:Int);omega⟩),Ok.bind,Ok.uN he2,Ok.pure]
  refine⟨zN (by omega),rfl,rfl,?_,fun q=>?_⟩
  ·show (jJ L (i:Int) _).length=_
   rw[YO,List.length_set];exact h4
  ·show (jJ L (i:Int) _)[q]?=_
   rw[YO,List.getElem?_set]
   by_cases hq:i=q
   ·subst hq
    rw[if_pos rfl,if_pos (by omega),if_pos (by omega),he];rfl
   ·rw[if_neg hq,h5 q]
    by_cases h:q<i
    ·rw[if_pos h,if_pos (by omega)]
    ·rw[if_neg h,if_neg (by omega)]
 ·rintro⟨n,p,x,L,u⟩ ⟨h1,h2,h3,h4,h5⟩
  dsimp only at h1 h2 h3 h4 h5
  subst h1 h2 h3
  rw[if_neg (by rw[zG,zC];omega),Ok.pure]
  have:L=j.2.2.1.map clr:=List.ext_getElem? fun q=>by
   rw[h5 q,List.getElem?_map]
   split
   ·rfl
   ·rw[List.getElem?_eq_none (by omega)];rfl
  rw[this]
 ·subst hr
  generalize hJ:((j.1,j.2.1,j.2.2.1.map clr,()):Job)=J
  have hsb:SmB J:=by
   subst hJ
   refine⟨⟨hj.p.w,fun x hx=>?_,?_⟩,?_,fun k=>?_⟩
   ·obtain⟨y,hy,rfl⟩:=List.mem_map.1 hx
    obtain⟨s1,s2,s3⟩:=(hj.e y hy).sm
    exact⟨s1,s2,by simp[clr]⟩
   ·show (j.2.2.1.map clr).length≤1000000
    rw[List.length_map];omega
   ·exact Nat.le_trans hj.p.1.1 (by decide)
   ·show (opn (j.2.2.1.map clr) (k:Int)).2.2.2.1=[]
    unfold opn
    rw[List.getD_eq_getElem?_getD,List.getElem?_map]
    cases j.2.2.1[((k:Int)).toNat]?<;>rfl
  rw[Ok.bind]
  refine(VM hsb).mono ?_
  rintro⟨l,cost,proof,e,u⟩ ⟨h1,h2⟩
  dsimp only at h1 h2 ⊢
  rw[Ok.bind]
  by_cases he:e=0
  ·obtain⟨hc,hb⟩:=h2 he
   have e1:neI e 0=false:=by rw[he];rfl
   rw[e1]
   show Ok (jP J.1 J.2.1) _
   rw[Ok.jB (wN hsb.s.w)]
   dsimp only
   by_cases hv:vd J.1 J.2.1=35
   ·rw[if_pos (by show eqI _ _=true;rw[y5];exact hv),Ok.pure]
    have:eqI e 0=true:=by rw[y5];exact he
    rw[this];rfl
   ·have hln:l.length≤1000:=by
     rcases hb with rfl|⟨t,rfl,_⟩
     ·simp
     ·have:=Kh t;omega
    rw[if_neg (by show ¬eqI _ _=true;rw[y5];exact hv),Ok.yL (KN hsb.s hsb.s.w hln),Ok.pure]
    obtain⟨g1,g2⟩:=Hi hsb hc hb hv
    dsimp only
    rw[g1]
    rcases g2 with g|g|g<;>rw[g]<;>rfl
  ·have hl:=h1 he
   have e1:neI e 0=true:=by rw[zd];exact he
   have e2:eqI e 0=false:=by rw[←Bool.not_eq_true,y5];exact he
   rw[e1]
   show Ok (Comp.pure _) _
   rw[Ok.pure,if_pos (by rfl),Ok.pure,e2,hl];rfl
end Go.Geo
end
noncomputable section
namespace Go.Dn
open Go Go.Proofs Go.RowKit Go.Eng Go.Lift Go.Den
abbrev prog:Program:=Tryz.prog
theorem mixed:prog.follows .mixedOrders=true:=by kernel_rfl
def t3:Ty:=.int .i64
def t4:Ty:=.bool
def t9:Ty:=.str
def t23:Ty:=.sl t3
def t22:Ty:=.sl t23
def t25:Ty:=.cons t22 (.cons t23 (.cons t23 .nil))
def t26:Ty:=.arr 3 t3
def t104:Ty:=.cons t3 (.cons t3 (.cons t3 .nil))
def t106:Ty:=.cons t104 (.cons t3 .nil)
def t107:Ty:=.sl t106
def t28:Ty:=.sl t107
def t30:Ty:=.cons t9 (.cons t28 (.cons t23 .nil))
def t31:Ty:=.sl t4
def t33:Ty:=.cons t31 (.cons t31 (.cons t28 .nil))
def t62:Ty:=.cons t28 (.cons t28 (.cons t3 (.cons t23 .nil)))
def t34:Ty:=.sl t62
def t36:Ty:=.cons t30 (.cons t33 (.cons t34 .nil))
def t41:Ty:=.arr 2 t23
def t43:Ty:=.int .i64
def t48:Ty:=.arr 4 t3
def t60:Ty:=.cons t3 (.cons t3 (.cons t3 .nil))
def t51:Ty:=.sl t60
def t81:Ty:=.cons t3 (.cons t3 .nil)
def t73:Ty:=.sl t81
def t109:Ty:=.fn (.nil) (.cons t43 .nil)
def t112:Ty:=.sl t109
def t117:Ty:=.fn (.cons t3 .nil) (.cons t4 .nil)
def t122:Ty:=.mp t3 t3
def t130:Ty:=.cons t23 (.cons t3 .nil)
def t136:Ty:=.arr 8 t4
def t140:Ty:=.cons t36 (.cons t136 .nil)
def t147:Ty:=.fn (.cons t3 (.cons t136 .nil)) (.nil)
def t162:Ty:=.cons t30 (.cons t33 .nil)
def t163:Ty:=.cons t117 (.cons t43 .nil)
def t164:Ty:=.sl t163
def t166:Ty:=.fn (.cons t107 .nil) (.cons t4 .nil)
def t173:Ty:=.fn (.cons t3 (.cons t107 .nil)) (.cons t4 .nil)
def t185:Ty:=.fn (.cons t3 (.cons t136 (.cons t136 .nil))) (.nil)
def t189:Ty:=.sl t106
def t191:Ty:=.sl t28
def t198:Ty:=.fn (.cons t106 .nil) (.cons t4 .nil)
def t202:Ty:=.sl t104
def t208:Ty:=.cons t3 (.cons t3 (.cons t3 (.cons t3 .nil)))
def t203:Ty:=.sl t208
def t210:Ty:=.fn (.cons t208 .nil) (.cons t4 .nil)
def t220:Ty:=.mp t208 t4
def t224:Ty:=.arr 3 t106
def t233:Ty:=.fn (.cons t106 (.cons t106 .nil)) (.cons t3 .nil)
def t245:Ty:=.int .u64
def t246:Ty:=.arr 2 t3
def t247:Ty:=.sl t246
theorem eq3:EqT prog 3 t3 1:=mH (z:=.int .i64 0) (sz:=1) (by_:=8) ⟨by kernel_rfl,by kernel_rfl⟩
def i3:TI:=⟨.int .i64,.int .i64 0,1,8,[],t3,1,true⟩
theorem ok3:i3.ok prog 3:=yR ⟨by kernel_rfl,by kernel_rfl⟩ rfl (fun _=>⟨eq3,by decide,fun _=>by kernel_rfl⟩) (fun _=>KeyB.int (z:=.int .i64 0) (sz:=1) (by_:=8) ⟨by kernel_rfl,by kernel_rfl⟩)
theorem eq4:EqT prog 4 t4 1:=Nb (z:=.bool false) (sz:=1) (by_:=1) ⟨by kernel_rfl,by kernel_rfl⟩
def i4:TI:=⟨.bool,.bool false,1,1,[],t4,1,false⟩
theorem ok4:i4.ok prog 4:=yR ⟨by kernel_rfl,by kernel_rfl⟩ rfl (fun _=>⟨eq4,by decide,fun _=>by kernel_rfl⟩) (yV rfl)
theorem eq9:EqT prog 9 t9 1:=Uy (z:=.string ⟨#[]⟩) (sz:=1) (by_:=16) ⟨by kernel_rfl,by kernel_rfl⟩
def i9:TI:=⟨.string,.string ⟨#[]⟩,1,16,[],t9,1,false⟩
theorem ok9:i9.ok prog 9:=yR ⟨by kernel_rfl,by kernel_rfl⟩ rfl (fun _=>⟨eq9,by decide,fun _=>by kernel_rfl⟩) (yV rfl)
def i22:=iS 23 t22
theorem zJM:i22.ok prog 22:=Y1 ⟨by kernel_rfl,by kernel_rfl⟩
def i23:=iS 3 t23
theorem zJL:i23.ok prog 23:=Y1 ⟨by kernel_rfl,by kernel_rfl⟩
def i25:TI:=⟨.struct (prog.fieldsOf 25),.agg #[.slice none 0 0,.slice none 0 0,.slice none 0 0],3,72,[(22,0,0),(23,1,0),(23,2,0)],t25,0,false⟩
theorem zJK:i25.ok prog 25:=vY ⟨by kernel_rfl,by kernel_rfl⟩ (⟨⟨by kernel_rfl,by kernel_rfl,by kernel_rfl⟩,⟨⟨by kernel_rfl,by kernel_rfl,by kernel_rfl⟩,⟨⟨by kernel_rfl,by kernel_rfl,by kernel_rfl⟩,trivial⟩⟩⟩) ⟨by kernel_rfl,fun w=>by kernel_rfl⟩ (kU rfl) (yV rfl)
theorem zJX:EqT prog 26 t26 2:=Kn (z:=.agg #[.int .i64 0,.int .i64 0,.int .i64 0]) (sz:=3) (by_:=24) ⟨by kernel_rfl,by kernel_rfl⟩ (dd':=.int .i64) (z':=.int .i64 0) (k:=1) (by_':=8) ⟨by kernel_rfl,by kernel_rfl⟩ rfl rfl eq3
def i26:TI:=⟨.array 3 3,.agg #[.int .i64 0,.int .i64 0,.int .i64 0],3,24,[],t26,2,false⟩
theorem zJJ:i26.ok prog 26:=yR ⟨by kernel_rfl,by kernel_rfl⟩ rfl (fun _=>⟨zJX,by decide,fun _=>by kernel_rfl⟩) (yV rfl)
def i28:=iS 107 t28
theorem zJI:i28.ok prog 28:=Y1 ⟨by kernel_rfl,by kernel_rfl⟩
def i30:TI:=⟨.struct (prog.fieldsOf 30),.agg #[.string ⟨#[]⟩,.slice none 0 0,.slice none 0 0],3,64,[(9,0,0),(28,1,0),(23,2,0)],t30,0,false⟩
theorem zJH:i30.ok prog 30:=vY ⟨by kernel_rfl,by kernel_rfl⟩ (⟨⟨by kernel_rfl,by kernel_rfl,by kernel_rfl⟩,⟨⟨by kernel_rfl,by kernel_rfl,by kernel_rfl⟩,⟨⟨by kernel_rfl,by kernel_rfl,by kernel_rfl⟩,trivial⟩⟩⟩) ⟨by kernel_rfl,fun w=>by kernel_rfl⟩ (kU rfl) (yV rfl)
def i31:=iS 4 t31
theorem zJG:i31.ok prog 31:=Y1 ⟨by kernel_rfl,by kernel_rfl⟩
def i33:TI:=⟨.struct (prog.fieldsOf 33),.agg #[.slice none 0 0,.slice none 0 0,.slice none 0 0],3,72,[(31,0,0),(31,1,0),(28,2,0)],t33,0,false⟩
theorem zJF:i33.ok prog 33:=vY ⟨by kernel_rfl,by kernel_rfl⟩ (⟨⟨by kernel_rfl,by kernel_rfl,by kernel_rfl⟩,⟨⟨by kernel_rfl,by kernel_rfl,by kernel_rfl⟩,⟨⟨by kernel_rfl,by kernel_rfl,by kernel_rfl⟩,trivial⟩⟩⟩) ⟨by kernel_rfl,fun w=>by kernel_rfl⟩ (kU rfl) (yV rfl)
def i34:=iS 62 t34
theorem zJE:i34.ok prog 34:=Y1 ⟨by kernel_rfl,by kernel_rfl⟩
def i36:TI:=⟨.struct (prog.fieldsOf 36),.agg #[.string ⟨#[]⟩,.slice none 0 0,.slice none 0 0,.slice none 0 0,.slice none 0 0,.slice none 0 0,.slice none 0 0],7,160,[(30,0,2),(33,3,2),(34,6,0)],t36,0,false⟩
theorem zJD:i36.ok prog 36:=vY ⟨by kernel_rfl,by kernel_rfl⟩ (⟨⟨by kernel_rfl,by kernel_rfl,by kernel_rfl⟩,⟨⟨by kernel_rfl,by kernel_rfl,by kernel_rfl⟩,⟨⟨by kernel_rfl,by kernel_rfl,by kernel_rfl⟩,trivial⟩⟩⟩) ⟨by kernel_rfl,fun w=>by kernel_rfl⟩ (kU rfl) (yV rfl)
def i41:TI:=⟨.array 2 23,.agg #[.slice none 0 0,.slice none 0 0],2,48,[],t41,0,false⟩
theorem zJC:i41.ok prog 41:=yR ⟨by kernel_rfl,by kernel_rfl⟩ rfl (kU rfl) (yV rfl)
theorem zJW:EqT prog 43 t43 1:=mH (z:=.int .i64 0) (sz:=1) (by_:=8) ⟨by kernel_rfl,by kernel_rfl⟩
def i43:TI:=⟨.int .i64,.int .i64 0,1,8,[],t43,1,false⟩
theorem zJB:i43.ok prog 43:=yR ⟨by kernel_rfl,by kernel_rfl⟩ rfl (fun _=>⟨zJW,by decide,fun _=>by kernel_rfl⟩) (yV rfl)
theorem zJV:EqT prog 48 t48 2:=Kn (z:=.agg #[.int .i64 0,.int .i64 0,.int .i64 0,.int .i64 0]) (sz:=4) (by_:=32) ⟨by kernel_rfl,by kernel_rfl⟩ (dd':=.int .i64) (z':=.int .i64 0) (k:=1) (by_':=8) ⟨by kernel_rfl,by kernel_rfl⟩ rfl rfl eq3
def i48:TI:=⟨.array 4 3,.agg #[.int .i64 0,.int .i64 0,.int .i64 0,.int .i64 0],4,32,[],t48,2,false⟩
theorem zJA:i48.ok prog 48:=yR ⟨by kernel_rfl,by kernel_rfl⟩ rfl (fun _=>⟨zJV,by decide,fun _=>by kernel_rfl⟩) (yV rfl)
def i51:=iS 60 t51
theorem zIz:i51.ok prog 51:=Y1 ⟨by kernel_rfl,by kernel_rfl⟩
theorem zJU:EqT prog 60 t60 2:=Yc (fs:=prog.fieldsOf 60) (z:=.agg #[.int .i64 0,.int .i64 0,.int .i64 0]) (sz:=3) (by_:=24) ⟨by kernel_rfl,by kernel_rfl⟩ rfl rfl (by kernel_rfl) (Jg (D:=1) (ZX eq3 (XN _)) (by kernel_rfl))
def i60:TI:=⟨.struct (prog.fieldsOf 60),.agg #[.int .i64 0,.int .i64 0,.int .i64 0],3,24,[(3,0,0),(3,1,0),(3,2,0)],t60,2,false⟩
theorem zIy:i60.ok prog 60:=vY ⟨by kernel_rfl,by kernel_rfl⟩ (⟨⟨by kernel_rfl,by kernel_rfl,by kernel_rfl⟩,⟨⟨by kernel_rfl,by kernel_rfl,by kernel_rfl⟩,⟨⟨by kernel_rfl,by kernel_rfl,by kernel_rfl⟩,trivial⟩⟩⟩) ⟨by kernel_rfl,fun w=>by kernel_rfl⟩ (fun _=>⟨zJU,by decide,fun _=>by kernel_rfl⟩) (yV rfl)
def i62:TI:=⟨.struct (prog.fieldsOf 62),.agg #[.slice none 0 0,.slice none 0 0,.int .i64 0,.slice none 0 0],4,80,[(28,0,0),(28,1,0),(3,2,0),(23,3,0)],t62,0,false⟩
theorem zIx:i62.ok prog 62:=vY ⟨by kernel_rfl,by kernel_rfl⟩ (⟨⟨by kernel_rfl,by kernel_rfl,by kernel_rfl⟩,⟨⟨by kernel_rfl,by kernel_rfl,by kernel_rfl⟩,⟨⟨by kernel_rfl,by kernel_rfl,by kernel_rfl⟩,⟨⟨by kernel_rfl,by kernel_rfl,by kernel_rfl⟩,trivial⟩⟩⟩⟩) ⟨by kernel_rfl,fun w=>by kernel_rfl⟩ (kU rfl) (yV rfl)
def i73:=iS 81 t73
theorem zIw:i73.ok prog 73:=Y1 ⟨by kernel_rfl,by kernel_rfl⟩
theorem zJT:EqT prog 81 t81 2:=Yc (fs:=prog.fieldsOf 81) (z:=.agg #[.int .i64 0,.int .i64 0]) (sz:=2) (by_:=16) ⟨by kernel_rfl,by kernel_rfl⟩ rfl rfl (by kernel_rfl) (Jg (D:=1) (ZX eq3 (XN _)) (by kernel_rfl))
def i81:TI:=⟨.struct (prog.fieldsOf 81),.agg #[.int .i64 0,.int .i64 0],2,16,[(3,0,0),(3,1,0)],t81,2,false⟩
theorem zIv:i81.ok prog 81:=vY ⟨by kernel_rfl,by kernel_rfl⟩ (⟨⟨by kernel_rfl,by kernel_rfl,by kernel_rfl⟩,⟨⟨by kernel_rfl,by kernel_rfl,by kernel_rfl⟩,trivial⟩⟩) ⟨by kernel_rfl,fun w=>by kernel_rfl⟩ (fun _=>⟨zJT,by decide,fun _=>by kernel_rfl⟩) (yV rfl)
theorem Wg:EqT prog 104 t104 2:=Yc (fs:=prog.fieldsOf 104) (z:=.agg #[.int .i64 0,.int .i64 0,.int .i64 0]) (sz:=3) (by_:=24) ⟨by kernel_rfl,by kernel_rfl⟩ rfl rfl (by kernel_rfl) (Jg (D:=1) (ZX eq3 (XN _)) (by kernel_rfl))
def zGJ:TI:=⟨.struct (prog.fieldsOf 104),.agg #[.int .i64 0,.int .i64 0,.int .i64 0],3,24,[(3,0,0),(3,1,0),(3,2,0)],t104,2,false⟩
theorem zFJ:zGJ.ok prog 104:=vY ⟨by kernel_rfl,by kernel_rfl⟩ (⟨⟨by kernel_rfl,by kernel_rfl,by kernel_rfl⟩,⟨⟨by kernel_rfl,by kernel_rfl,by kernel_rfl⟩,⟨⟨by kernel_rfl,by kernel_rfl,by kernel_rfl⟩,trivial⟩⟩⟩) ⟨by kernel_rfl,fun w=>by kernel_rfl⟩ (fun _=>⟨Wg,by decide,fun _=>by kernel_rfl⟩) (yV rfl)
theorem Wd:EqT prog 106 t106 3:=Yc (fs:=prog.fieldsOf 106) (z:=.agg #[.int .i64 0,.int .i64 0,.int .i64 0,.int .i64 0]) (sz:=4) (by_:=32) ⟨by kernel_rfl,by kernel_rfl⟩ rfl rfl (by kernel_rfl) (Jg (D:=2) (ZX eq3 (ZX Wg (XN _))) (by kernel_rfl))
def zDQ:TI:=⟨.struct (prog.fieldsOf 106),.agg #[.int .i64 0,.int .i64 0,.int .i64 0,.int .i64 0],4,32,[(104,0,2),(3,3,0)],t106,3,false⟩
theorem zFI:zDQ.ok prog 106:=vY ⟨by kernel_rfl,by kernel_rfl⟩ (⟨⟨by kernel_rfl,by kernel_rfl,by kernel_rfl⟩,⟨⟨by kernel_rfl,by kernel_rfl,by kernel_rfl⟩,trivial⟩⟩) ⟨by kernel_rfl,fun w=>by kernel_rfl⟩ (fun _=>⟨Wd,by decide,fun _=>by kernel_rfl⟩) (yV rfl)
def i107:=iS 106 t107
theorem zFH:i107.ok prog 107:=Y1 ⟨by kernel_rfl,by kernel_rfl⟩
def i109:TI:=⟨.func #[] #[43] false,.nilFunc,1,8,[],t109,0,false⟩
theorem zFG:i109.ok prog 109:=yR ⟨by kernel_rfl,by kernel_rfl⟩ rfl (kU rfl) (yV rfl)
def zGI:=iS 109 t112
theorem zFF:zGI.ok prog 112:=Y1 ⟨by kernel_rfl,by kernel_rfl⟩
def i117:TI:=⟨.func #[3] #[4] false,.nilFunc,1,8,[],t117,0,false⟩
theorem zFE:i117.ok prog 117:=yR ⟨by kernel_rfl,by kernel_rfl⟩ rfl (kU rfl) (yV rfl)
def zGH:TI:=⟨.map 3 3,.map none,1,8,[],t122,0,false⟩
theorem zFD:zGH.ok prog 122:=yR ⟨by kernel_rfl,by kernel_rfl⟩ rfl (kU rfl) (yV rfl)
def i130:TI:=⟨.struct (prog.fieldsOf 130),.agg #[.slice none 0 0,.int .i64 0],2,32,[(23,0,0),(3,1,0)],t130,0,false⟩
theorem zFC:i130.ok prog 130:=vY ⟨by kernel_rfl,by kernel_rfl⟩ (⟨⟨by kernel_rfl,by kernel_rfl,by kernel_rfl⟩,⟨⟨by kernel_rfl,by kernel_rfl,by kernel_rfl⟩,trivial⟩⟩) ⟨by kernel_rfl,fun w=>by kernel_rfl⟩ (kU rfl) (yV rfl)
theorem zFS:EqT prog 136 t136 2:=Kn (z:=.agg #[.bool false,.bool false,.bool false,.bool false,.bool false,.bool false,.bool false,.bool false]) (sz:=8) (by_:=8) ⟨by kernel_rfl,by kernel_rfl⟩ (dd':=.bool) (z':=.bool false) (k:=1) (by_':=1) ⟨by kernel_rfl,by kernel_rfl⟩ rfl rfl eq4
def zGG:TI:=⟨.array 8 4,.agg #[.bool false,.bool false,.bool false,.bool false,.bool false,.bool false,.bool false,.bool false],8,8,[],t136,2,false⟩
theorem zFB:zGG.ok prog 136:=yR ⟨by kernel_rfl,by kernel_rfl⟩ rfl (fun _=>⟨zFS,by decide,fun _=>by kernel_rfl⟩) (yV rfl)
def zGF:TI:=⟨.struct (prog.fieldsOf 140),.agg #[.string ⟨#[]⟩,.slice none 0 0,.slice none 0 0,.slice none 0 0,.slice none 0 0,.slice none 0 0,.slice none 0 0,.bool false,.bool false,.bool false,.bool false,.bool false,.bool false,.bool false,.bool false],15,168,[(36,0,6),(136,7,7)],t140,0,false⟩
theorem zFA:zGF.ok prog 140:=vY ⟨by kernel_rfl,by kernel_rfl⟩ (⟨⟨by kernel_rfl,by kernel_rfl,by kernel_rfl⟩,⟨⟨by kernel_rfl,by kernel_rfl,by kernel_rfl⟩,trivial⟩⟩) ⟨by kernel_rfl,fun w=>by kernel_rfl⟩ (kU rfl) (yV rfl)
def zGE:TI:=⟨.func #[3,136] #[] false,.nilFunc,1,8,[],t147,0,false⟩
theorem zEz:zGE.ok prog 147:=yR ⟨by kernel_rfl,by kernel_rfl⟩ rfl (kU rfl) (yV rfl)
def i162:TI:=⟨.struct (prog.fieldsOf 162),.agg #[.string ⟨#[]⟩,.slice none 0 0,.slice none 0 0,.slice none 0 0,.slice none 0 0,.slice none 0 0],6,136,[(30,0,2),(33,3,2)],t162,0,false⟩
theorem zEy:i162.ok prog 162:=vY ⟨by kernel_rfl,by kernel_rfl⟩ (⟨⟨by kernel_rfl,by kernel_rfl,by kernel_rfl⟩,⟨⟨by kernel_rfl,by kernel_rfl,by kernel_rfl⟩,trivial⟩⟩) ⟨by kernel_rfl,fun w=>by kernel_rfl⟩ (kU rfl) (yV rfl)
def zGD:TI:=⟨.struct (prog.fieldsOf 163),.agg #[.nilFunc,.int .i64 0],2,16,[(117,0,0),(43,1,0)],t163,0,false⟩
theorem zEx:zGD.ok prog 163:=vY ⟨by kernel_rfl,by kernel_rfl⟩ (⟨⟨by kernel_rfl,by kernel_rfl,by kernel_rfl⟩,⟨⟨by kernel_rfl,by kernel_rfl,by kernel_rfl⟩,trivial⟩⟩) ⟨by kernel_rfl,fun w=>by kernel_rfl⟩ (kU rfl) (yV rfl)
def i164:=iS 163 t164
theorem zEw:i164.ok prog 164:=Y1 ⟨by kernel_rfl,by kernel_rfl⟩
def zGC:TI:=⟨.func #[107] #[4] false,.nilFunc,1,8,[],t166,0,false⟩
theorem zEv:zGC.ok prog 166:=yR ⟨by kernel_rfl,by kernel_rfl⟩ rfl (kU rfl) (yV rfl)
def i173:TI:=⟨.func #[3,107] #[4] false,.nilFunc,1,8,[],t173,0,false⟩
theorem zEu:i173.ok prog 173:=yR ⟨by kernel_rfl,by kernel_rfl⟩ rfl (kU rfl) (yV rfl)
def zGB:TI:=⟨.func #[3,136,136] #[] false,.nilFunc,1,8,[],t185,0,false⟩
theorem zEt:zGB.ok prog 185:=yR ⟨by kernel_rfl,by kernel_rfl⟩ rfl (kU rfl) (yV rfl)
def zGA:=iS 106 t189
theorem zEs:zGA.ok prog 189:=Y1 ⟨by kernel_rfl,by kernel_rfl⟩
def zFz:=iS 28 t191
theorem zEr:zFz.ok prog 191:=Y1 ⟨by kernel_rfl,by kernel_rfl⟩
def i198:TI:=⟨.func #[106] #[4] false,.nilFunc,1,8,[],t198,0,false⟩
theorem zEq:i198.ok prog 198:=yR ⟨by kernel_rfl,by kernel_rfl⟩ rfl (kU rfl) (yV rfl)
def zFy:=iS 104 t202
theorem zEp:zFy.ok prog 202:=Y1 ⟨by kernel_rfl,by kernel_rfl⟩
def i203:=iS 208 t203
theorem zEo:i203.ok prog 203:=Y1 ⟨by kernel_rfl,by kernel_rfl⟩
theorem Wc:EqT prog 208 t208 2:=Yc (fs:=prog.fieldsOf 208) (z:=.agg #[.int .i64 0,.int .i64 0,.int .i64 0,.int .i64 0]) (sz:=4) (by_:=32) ⟨by kernel_rfl,by kernel_rfl⟩ rfl rfl (by kernel_rfl) (Jg (D:=1) (ZX eq3 (XN _)) (by kernel_rfl))
def i208:TI:=⟨.struct (prog.fieldsOf 208),.agg #[.int .i64 0,.int .i64 0,.int .i64 0,.int .i64 0],4,32,[(3,0,0),(3,1,0),(3,2,0),(3,3,0)],t208,2,true⟩
theorem zEn:i208.ok prog 208:=vY ⟨by kernel_rfl,by kernel_rfl⟩ (⟨⟨by kernel_rfl,by kernel_rfl,by kernel_rfl⟩,⟨⟨by kernel_rfl,by kernel_rfl,by kernel_rfl⟩,⟨⟨by kernel_rfl,by kernel_rfl,by kernel_rfl⟩,⟨⟨by kernel_rfl,by kernel_rfl,by kernel_rfl⟩,trivial⟩⟩⟩⟩) ⟨by kernel_rfl,fun w=>by kernel_rfl⟩ (fun _=>⟨Wc,by decide,fun _=>by kernel_rfl⟩) (fun _=>KeyB.agg Wc (by decide) rfl rfl (dd:=.struct (prog.fieldsOf 208)) (z:=.agg #[.int .i64 0,.int .i64 0,.int .i64 0,.int .i64 0]) (sz:=4) (by_:=32) ⟨by kernel_rfl,by kernel_rfl⟩ rfl (fun e x w=>by kernel_rfl))
def i210:TI:=⟨.func #[208] #[4] false,.nilFunc,1,8,[],t210,0,false⟩
theorem zEm:i210.ok prog 210:=yR ⟨by kernel_rfl,by kernel_rfl⟩ rfl (kU rfl) (yV rfl)
def zFx:TI:=⟨.map 208 4,.map none,1,8,[],t220,0,false⟩
theorem zEl:zFx.ok prog 220:=yR ⟨by kernel_rfl,by kernel_rfl⟩ rfl (kU rfl) (yV rfl)
theorem zFR:EqT prog 224 t224 4:=Kn (z:=.agg #[.int .i64 0,.int .i64 0,.int .i64 0,.int .i64 0,.int .i64 0,.int .i64 0,.int .i64 0,.int .i64 0,.int .i64 0,.int .i64 0,.int .i64 0,.int .i64 0]) (sz:=12) (by_:=96) ⟨by kernel_rfl,by kernel_rfl⟩ (dd':=.struct (prog.fieldsOf 106)) (z':=.agg #[.int .i64 0,.int .i64 0,.int .i64 0,.int .i64 0]) (k:=4) (by_':=32) ⟨by kernel_rfl,by kernel_rfl⟩ rfl rfl Wd
def zFw:TI:=⟨.array 3 106,.agg #[.int .i64 0,.int .i64 0,.int .i64 0,.int .i64 0,.int .i64 0,.int .i64 0,.int .i64 0,.int .i64 0,.int .i64 0,.int .i64 0,.int .i64 0,.int .i64 0],12,96,[],t224,4,false⟩
theorem zEk:zFw.ok prog 224:=yR ⟨by kernel_rfl,by kernel_rfl⟩ rfl (fun _=>⟨zFR,by decide,fun _=>by kernel_rfl⟩) (yV rfl)
def i233:TI:=⟨.func #[106,106] #[3] false,.nilFunc,1,8,[],t233,0,false⟩
theorem zEj:i233.ok prog 233:=yR ⟨by kernel_rfl,by kernel_rfl⟩ rfl (kU rfl) (yV rfl)
theorem zFQ:EqT prog 245 t245 1:=mH (z:=.int .u64 0) (sz:=1) (by_:=8) ⟨by kernel_rfl,by kernel_rfl⟩
def zFv:TI:=⟨.int .u64,.int .u64 0,1,8,[],t245,1,false⟩
theorem zEi:zFv.ok prog 245:=yR ⟨by kernel_rfl,by kernel_rfl⟩ rfl (fun _=>⟨zFQ,by decide,fun _=>by kernel_rfl⟩) (yV rfl)
theorem zFP:EqT prog 246 t246 2:=Kn (z:=.agg #[.int .i64 0,.int .i64 0]) (sz:=2) (by_:=16) ⟨by kernel_rfl,by kernel_rfl⟩ (dd':=.int .i64) (z':=.int .i64 0) (k:=1) (by_':=8) ⟨by kernel_rfl,by kernel_rfl⟩ rfl rfl eq3
def zFu:TI:=⟨.array 2 3,.agg #[.int .i64 0,.int .i64 0],2,16,[],t246,2,false⟩
theorem zEh:zFu.ok prog 246:=yR ⟨by kernel_rfl,by kernel_rfl⟩ rfl (fun _=>⟨zFP,by decide,fun _=>by kernel_rfl⟩) (yV rfl)
def zFt:=iS 246 t247
theorem zEg:zFt.ok prog 247:=Y1 ⟨by kernel_rfl,by kernel_rfl⟩
def T:TE:=[(3,i3),(4,i4),(9,i9),(22,i22),(23,i23),(25,i25),(26,i26),(28,i28),(30,i30),(31,i31),(33,i33),(34,i34),(36,i36),(41,i41),(43,i43),(48,i48),(51,i51),(60,i60),(62,i62),(73,i73),(81,i81),(104,zGJ),(106,zDQ),(107,i107),(109,i109),(112,zGI),(117,i117),(122,zGH),(130,i130),(136,zGG),(140,zGF),(147,zGE),(162,i162),(163,zGD),(164,i164),(166,zGC),(173,i173),(185,zGB),(189,zGA),(191,zFz),(198,i198),(202,zFy),(203,i203),(208,i208),(210,i210),(220,zFx),(224,zFw),(233,i233),(245,zFv),(246,zFu),(247,zFt)]
theorem zDb:TOk prog T:=zU ok3 (zU ok4 (zU ok9 (zU zJM (zU zJL (zU zJK (zU zJJ (zU zJI (zU zJH (zU zJG (zU zJF (zU zJE (zU zJD (zU zJC (zU zJB (zU zJA (zU zIz (zU zIy (zU zIx (zU zIw (zU zIv (zU zFJ (zU zFI (zU zFH (zU zFG (zU zFF (zU zFE (zU zFD (zU zFC (zU zFB (zU zFA (zU zEz (zU zEy (zU zEx (zU zEw (zU zEv (zU zEu (zU zEt (zU zEs (zU zEr (zU zEq (zU zEp (zU zEo (zU zEn (zU zEm (zU zEl (zU zEk (zU zEj (zU zEi (zU zEh (zU zEg (Sj _)))))))))))))))))))))))))))))))))))))))))))))))))))
theorem E0:EK prog T [] [] [] [] [] []:=e0 zDb mixed
end Go.Dn
end
section
namespace Go.Up
open Go
def EG (d:Nat) {β:Type} (e:Except String (World×β)):Prop:=∀r,e=.ok r→r.1.drawn=d
theorem EG.bind {d:Nat} {α β:Type} {x:Except String α} {f:α→Except String (World×β)} (h:∀a,EG d (f a)):EG d (x >>= f):=by
 intro r hr
 cases x with
 |error e=>cases hr
 |ok a=>exact h a r hr
theorem EG.throw {d:Nat} {β:Type} {s:String}:EG d (MonadExcept.throw s:Except String (World×β)):=fun r hr=>by cases hr
theorem pS (p:Program) (w:World) (a:Addr) (u:TypeId) (k:Addr) (v:Value) (b:Bool):EG w.drawn (w.viewStore p a u k v b):=by
 unfold World.viewStore
 dsimp only
 repeat' first
  |exact EG.throw
  |exact EG.error
  |(intro r hr;cases hr;rfl)
  |refine EG.bind fun _=>?_
  |split
theorem Ic (w:World) (a:Addr) (n:Nat):(w.freeze a n).drawn=w.drawn:=by unfold World.freeze;split<;>rfl
theorem zCh {α:Type} (k:Ask α):∀(w:World),w.drawn≤(w.ask k).2.drawn:=by
 induction k with
 |done a=>intro w;exact zJp _
 |ask what range k ih =>
  intro w
  unfold World.ask
  simp only[]
  split
  ·exact ih _ _
  ·exact Nat.le_trans (Nat.le_succ _) (ih _ { w with drawn:=w.drawn+1 })
theorem Wt (w:World) (c:Sys):w.drawn≤(w.sys c).2.drawn:=by
 unfold World.sys
 have h:=zCh (Kernel.perform c w.os) w
 split
 ·exact zJp _
 ·rename_i r os w' heq
  rw[heq]at h;exact h
def RU (d:Nat) {α:Type}:Result α→Prop
 |.ok _ w=>d≤w.drawn
 |.halt _ w=>d≤w.drawn
theorem RU.le {d d':Nat} {α:Type} {r:Result α} (h:RU d r) (hd:d'≤d):RU d' r:=by
 cases r<;>exact Nat.le_trans hd h
theorem AE {p:Program} {w w':World} {a:Addr} {v:Value} {b:Bool} {l:List Addr} (h:w.farStore p a v b=.ok (w',l)):w'.drawn=w.drawn:=by
 unfold World.farStore at h
 split at h
 ·split at h
  ·rename_i r hr
   cases h
   exact pS _ _ _ _ _ _ _ _ hr
  ·cases h
 ·cases h
theorem mf {α:Type} (p:Program) (e:Sem α):∀w:World,RU w.drawn (e.run p w):=by
 induction e with
 |pure a=>intro w;exact zJp _
 |load m a k ih =>
  intro w
  simp only[Sem.run]
  split
  ·exact ih _ _
  ·split
   ·exact ih _ _
   ·exact zJp _
 |store m a v k ih =>
  intro w
  have key:RU w.drawn (match w.cell? a with
   |some _=>if w.frozen? a then .halt (.unsupported (.unsafePointer "a write to bytes that a string shares")) w else k.run p (w.setCell a v)
   |none=>match w.farStore p a v (m == .atomic) with
    |.ok (w,_)=>k.run p w
    |.error h=>.halt h w):=by
   split
   ·split
    ·exact zJp _
    ·exact(ih (w.setCell a v)).le (by unfold World.setCell;exact zJp _)
   ·split
    ·rename_i w' l hw
     exact(ih _).le (by rw[AE hw];exact zJp _)
    ·exact zJp _
  cases v<;>first|exact key|exact zJp _
 |new o k ih=>intro w;exact ih _ { w with heap:=w.heap.push o }
 |shape r k ih=>intro w;exact ih _ _
 |freeze a n k ih=>intro w;exact(ih (w.freeze a n)).le (by rw[Ic];exact zJp _)
 |frozen a k ih=>intro w;exact ih _ _
 |getObj r k ih =>
  intro w
  simp only[Sem.run]
  split
  ·exact zJp _
  ·exact ih _ _
  ·exact zJp _
 |setObj r o k ih =>
  intro w
  simp only[Sem.run]
  split
  ·exact zJp _
  ·exact ih { w with heap:=w.heap.setIfInBounds r o }
  ·exact zJp _
 |choose q k ih =>
  intro w
  simp only[Sem.run]
  split
  ·exact ih _ _
  ·exact(ih _ { w with drawn:=w.drawn+1 }).le (Nat.le_succ _)
 |sys c k ih=>intro w;exact(ih _ _).le (Wt w c)
 |program k ih=>intro w;exact ih _ _
 |mark m k ih=>intro w;exact ih _
 |halt h=>intro w;exact zJp _
theorem Ez {α:Type} (p:Program) (e:Sem α) (w:World) (es:Array Event):RU w.drawn (e.runT p w es).1:=by
 rw[Sem.runT_fst];exact mf p e w
theorem km {α:Type} {p:Program} {e:Sem α} {w w':World} {a:α} (h:e.run p w=.ok a w'):w.drawn≤w'.drawn:=by
 have:=mf p e w;rw[h]at this;exact this
theorem Si {α:Type} {p:Program} {e:Sem α} {w w':World} {a:Halt} (h:e.run p w=.halt a w'):w.drawn≤w'.drawn:=by
 have:=mf p e w;rw[h]at this;exact this
def GU (d:Nat):GStep→Prop
 |.go _ w _|.comm _ _ _ _ w _|.spawn _ _ w _|.count _ w _|.timer _ _ w _|.alone _ _ w _|.newcoro _ _ _ w _|.coroswitch _ _ _ w _|.collect _ w _|.watch _ w _=>d≤w.drawn
 |.ended _ _ _=>True
theorem GU.le {d d':Nat} {s:GStep} (h:GU d s) (hd:d'≤d):GU d' s:=by
 cases s<;>first|exact Nat.le_trans hd h|trivial
theorem GU.after {d:Nat} {es:Array Event} {s:GStep} (h:GU d s):GU d (GStep.after es s):=by
 cases s<;>exact h
theorem Ng (fr:Frame) (a:List ByteArray) (m:String) (b:Bool) (w:World):GU w.drawn (dieOf fr a m b w):=zJp _
theorem Zn (fr:Frame) (m:String) (w:World):GU w.drawn (endThrow fr m w):=zJp _
theorem X6 (p:Program) (fr:Frame) (v:Value) (w:World):GU w.drawn (endPrinting p fr v w):=by
 unfold endPrinting;dsimp only;split
 ·exact Zn _ _ _
 ·trivial
theorem DV (w:World) (fd:Nat) (t:ByteArray) (o:Outcome):GU w.drawn (endWith w fd t o):=by
 unfold endWith;dsimp only
 split
 ·split<;>trivial
 ·trivial
 ·trivial
theorem wZ (p:Program) (fr:Frame) (callers:List Frame) (dying:Option Dying) (m:String) (w:World):GU w.drawn (endFatal p fr callers dying m w):=by
 unfold endFatal;dsimp only
 split
 ·rename_i h;exact(Ng _ _ _ _ _).le (km h)
 ·trivial
 ·trivial
theorem Kw {α:Type} {p:Program} {e:Sem α} {w:World} {es:Array Event} {r:Result α×Array Event} (h:e.runT p w es=r):RU w.drawn r.1:=by rw[←h];exact Ez p e w es
theorem Ci (p:Program) (fr:Frame) (d:Dying) (f:Fatal) (w:World):GU w.drawn (writeOn p fr d f w):=by
 unfold writeOn;dsimp only
 split
 ·trivial
 ·split
  ·rename_i h;exact Kw h
  ·rename_i h;exact Kw h
  ·trivial
  ·trivial
theorem Yy (p:Program) (main:Bool) (fr:Frame) (callers:List Frame) (dying:Option Dying) (v:Value) (w:World):GU w.drawn (doReturn p main fr callers dying v w):=by
 unfold doReturn
 split
 ·split<;>exact zJp _
 ·split
  ·exact zJp _
  ·trivial
  ·split
   ·exact zJp _
   ·split
    ·exact zJp _
    ·trivial
theorem zCb (p:Program) (fr:Frame) (d:Dying) (w:World):GU w.drawn (die p fr d w):=by
 unfold die;dsimp only
 split
 ·exact Ci _ _ _ _ _
 ·split
  ·split
   ·exact zJp _
   ·exact DV _ _ _ _
  ·split
   ·exact zJp _
   ·split
    ·rename_i h;exact km h
    ·trivial
   ·refine GU.after ?_
    generalize hr:(Sem.runT p _ w #[])=r
    have h:=Kw hr
    clear hr
    split<;>rename_i h'<;>first|trivial|skip
    ·rw[h']at h;exact h
    ·rw[h']at h;exact h
    ·rw[h']at h;exact(X6 _ _ _ _).le h
   ·trivial
theorem GU.ite {d:Nat} {p:Prop} [Decidable p] {a b:GStep} (h1:GU d a) (h2:GU d b):GU d (if p then a else b):=by split<;>assumption
theorem uF (p:Program) (fr:Frame) (callers:List Frame) (dying:Option Dying) (d:Deferred) (w:World):GU w.drawn (callDeferred p fr callers dying d w):=by
 unfold callDeferred
 refine GU.ite trivial ?_
 dsimp only
 refine GU.after ?_
 generalize hr:(Sem.runT p _ w #[])=r
 have h:=Kw hr
 clear hr
 split<;>rename_i h'<;>rw[h']at h<;>first
  |trivial
  |exact h
  |exact(wZ _ _ _ _ _ _).le h
  |exact(Zn _ _ _).le h
  |(split<;>exact h)
theorem Hn (p:Program) (main:Bool) (fr:Frame) (callers:List Frame) (dying:Option Dying) (w:World):GU w.drawn (unwind p main fr callers dying w):=by
 unfold unwind
 split
 ·dsimp only
  refine GU.after ?_
  generalize hr:(Sem.runT p _ w #[])=r
  have h:=Kw hr
  clear hr
  split<;>rename_i h'<;>rw[h']at h<;>first|trivial|exact h
 ·exact uF _ _ _ _ _ _
 ·split
  ·trivial
  ·split
   ·trivial
   ·split
    ·exact zJp _
    ·split
     ·split
      ·exact zJp _
      ·split
       ·rename_i h;exact km h
       ·trivial
       ·trivial
     ·split
      ·exact X6 _ _ _ _
      ·trivial
  ·split
   ·exact Yy _ _ _ _ _ _ _
   ·dsimp only
    refine GU.after ?_
    generalize hr:(Sem.runT p _ w #[])=r
    have h:=Kw hr
    clear hr
    split<;>rename_i h'<;>rw[h']at h<;>first|trivial|exact(Yy _ _ _ _ _ _ _).le h
theorem Nd (p:Program) (fr:Frame) (callers:List Frame) (dying:Option Dying) (g:Nat) (w:World):GU w.drawn (early p fr callers dying g w):=by
 have nY:∀w':World,w.drawn≤w'.drawn→GU w.drawn (match w'.heap[g]? with
  |some (.pending c elem)=>GStep.go { frame:=fr,callers,status:=.running,dying } { w' with heap:=w'.heap.setIfInBounds g (.cells c elem) }
  |_=>.ended (.stuck "early: the variable does not wait" (fr.pos p)) w'):=by
  intro w' h
  split
  ·exact h
  ·trivial
 unfold early;dsimp only
 repeat' first
  |exact nY _ (zJp _)
  |trivial
  |exact zJp _
  |(rename_i h;exact nY _ (km h))
  |(rename_i h;exact km h)
  |split
theorem Kb (p:Program) (listen:Bool) (fr:Frame) (callers:List Frame) (dying:Option Dying) (s:Sem Next) (w:World):GU w.drawn (stepG.apply p listen fr callers dying s w):=by
 unfold stepG.apply;dsimp only
 refine GU.after ?_
 have h:RU w.drawn (if listen then s.runT p w #[] else (s.run p w,#[])).1:=by
  split
  ·exact Ez _ _ _ _
  ·exact mf _ _ _
 generalize (if listen then s.runT p w #[] else (s.run p w,#[]))=r at h
 clear s
 split<;>rename_i h'<;>rw[h']at h<;>first
  |trivial
  |exact h
  |exact(wZ _ _ _ _ _ _).le h
  |exact(Zn _ _ _).le h
  |exact(Nd _ _ _ _ _ _).le h
  |exact GU.ite ((Zn _ _ _).le h) h
  |(split<;>first|exact h|exact(Zn _ _ _).le h)
theorem UH (p:Program) (listen:Bool) (fr:Frame) (callers:List Frame) (dying:Option Dying) (w:World):GU w.drawn (stepG.oper p listen fr callers dying w):=by
 unfold stepG.oper
 split
 ·trivial
 ·split<;>exact Kb _ _ _ _ _ _ _
theorem GU.elim {d:Nat} {α:Type} {o:Option α} {a:GStep} {f:α→GStep} (h1:GU d a) (h2:∀x,GU d (f x)):GU d (o.elim a f):=by
 cases o
 ·exact h1
 ·exact h2 _
theorem Ux (p:Program) (main:Bool) (listen:Bool) (fr:Frame) (callers:List Frame) (dying:Option Dying) (w:World):GU w.drawn (stepG.exec p main listen fr callers dying w):=by
 unfold stepG.exec;dsimp only
 split
 all_goals first
  |exact zJp _
  |trivial
  |exact Kb _ _ _ _ _ _ _
  |(refine GU.elim ?_ (fun _=>zJp _);split;exact GU.ite (zJp _) trivial;refine GU.after ?_;generalize hr:(Sem.runT _ _ _ #[])=r;have h:=Kw hr;clear hr;split<;>rename_i h'<;>rw[h']at h<;>first|trivial|exact(Yy _ _ _ _ _ _ _).le h)
  |(refine GU.elim trivial fun _=>Kb _ _ _ _ _ _ _;done)
  |(split;exact GU.ite (zJp _) trivial;refine GU.after ?_;generalize hr:(Sem.runT _ _ _ #[])=r;have h:=Kw hr;clear hr;split<;>rename_i h'<;>rw[h']at h<;>first|trivial|exact(Yy _ _ _ _ _ _ _).le h)
  |(refine GU.ite (UH _ _ _ _ _ _) (zJp _);done)
  |(refine GU.ite (zJp _) ?_;split<;>rename_i h<;>first|trivial|exact km h)
  |(refine GU.after ?_;generalize hr:(Sem.runT p _ w #[])=r;have h:=Kw hr;clear hr;split<;>rename_i h'<;>rw[h']at h<;>first|trivial|exact h|exact(Kb _ _ _ _ _ _ _).le h)
  |(split<;>first|exact zJp _|trivial)
theorem MN (p:Program) (main:Bool) (g:Goroutine) (w:World) (listen:Bool):GU w.drawn (stepG p main g w listen):=by
 unfold stepG;dsimp only
 split
 ·exact zCb _ _ _ _
 ·exact Ux _ _ _ _ _ _ _
 ·exact Hn _ _ _ _ _ _
def SU (d:Nat):Stepped→Prop
 |.next m=>d≤m.world.drawn
 |.ended _ _=>True
theorem SU.le {d d':Nat} {s:Stepped} (h:SU d s) (hd:d'≤d):SU d' s:=by
 cases s<;>first|exact Nat.le_trans hd h|trivial
theorem SU.ite {d:Nat} {p:Prop} [Decidable p] {a b:Stepped} (h1:SU d a) (h2:SU d b):SU d (if p then a else b):=by split<;>assumption
theorem SU.zDP {d:Nat} {β:Type} {p:Prop} [Decidable p] {a b:Stepped×β} (h1:SU d a.1) (h2:SU d b.1):SU d (if p then a else b).1:=by split<;>assumption
theorem GO (p:Program) (gs:Array Goroutine) (rest:Rest) (w:World):SU w.drawn (look p gs rest w):=by
 unfold look;dsimp only
 split
 ·refine SU.ite trivial ?_
  split
  ·trivial
  ·split<;>rename_i h<;>first
    |trivial
    |(have h1:=km h;exact h1)
 ·trivial
theorem pR {rest:Rest} {cases:Array CommCase} {w w':World} (h:waitingAt rest cases w=some w'):w'.drawn=w.drawn:=by
 unfold waitingAt at h
 split at h
 ·split at h<;>cases h;rfl
 ·cases h;rfl
theorem tB (p:Program) (rest:Rest) (gs:Array Goroutine) (i:Nat) (g:Goroutine) (cases:Array CommCase) (blocking:Bool) (shape:CommShape) (w:World):SU w.drawn (communicate p rest gs i g cases blocking shape w).1:=by
 unfold communicate;dsimp only
 refine SU.zDP trivial (SU.zDP (SU.zDP ?_ (zJp _)) ?_)
 ·split
  ·rename_i h;show _≤_;rw[pR h];exact zJp _
  ·trivial
 ·split
  ·trivial
  ·rename_i h
   have hu:=km h
   clear h
   split
   ·split
    ·rename_i h2;exact Nat.le_trans hu (Si h2)
    ·trivial
   ·exact hu
   ·exact hu
   ·split
    ·exact hu
    ·split
     ·rename_i h2
      have h3:=Nat.le_trans hu (km h2)
      exact h3
     ·trivial
   ·exact hu
   ·exact hu
   ·trivial
theorem Nf (w:World) (c:Nat):(drain w c).2.drawn=w.drawn:=by unfold drain;split<;>rfl
theorem rY (m:Machine) (k:Nat) (t:Timer) (a b:Nat):(retime m k t a b).2.world.drawn=m.world.drawn:=by
 unfold retime;dsimp only
 split
 ·exact Nf _ _
 ·rfl
theorem H9 {m m':Machine} {v:Addr} (h:timerOp.opened m v=some m'):m'.world.drawn=m.world.drawn:=by
 unfold timerOp.opened at h
 split at h
 ·split at h<;>cases h;rfl
 ·cases h;rfl
theorem BC {m m1 m':Machine} {v:Addr} {f:Nat→Timer→Value×Machine} {u:Value} (hf:∀k t,(f k t).2.world.drawn=m1.world.drawn) (h:timerOp.named m v f=.ok (u,m')):m'.world.drawn=m1.world.drawn:=by
 unfold timerOp.named at h
 split at h
 ·rename_i k hk
  have h3:=hf k (m.rest.timers.getD k default)
  injection h with h
  rw[h]at h3;exact h3
 ·cases h
theorem Ck {m m':Machine} {op:TimerOp} {v:Value} (h:timerOp m op=.ok (v,m')):m'.world.drawn=m.world.drawn:=by
 unfold timerOp at h
 split at h
 ·split at h
  ·cases h;rfl
  ·split at h
   ·split at h
    ·cases h
    ·cases h;rfl
   ·cases h
 ·exact BC (fun k t=>rY _ _ _ _ _) h
 ·split at h
  ·rename_i h1
   have:=BC (m1:=_) (fun k t=>rY _ _ _ _ _) h
   rw[this];exact H9 h1
  ·cases h
 ·cases h;rfl
theorem Hz (p:Program) (m:Machine) (i:Nat) (listen:Bool):SU m.world.drawn (runT p m i listen).1:=by
 unfold runT;dsimp only
 have h:=MN p (i == 0) (m.gs.swapAt! i { (default:Goroutine) with status:=.finished }).1 m.world listen
 generalize stepG p (i == 0) (m.gs.swapAt! i { (default:Goroutine) with status:=.finished }).1 m.world listen=s at h
 cases s with
 |ended=>trivial
 |comm=>exact(tB _ _ _ _ _ _ _ _ _).le h
 |go=>exact h
 |spawn=>exact h
 |count=>exact SU.ite trivial h
 |alone=>exact h
 |collect=>exact(GO _ _ _ _).le h
 |watch=>exact h
 |newcoro=>exact h
 |coroswitch g c exit w es =>
  dsimp only
  split
  ·exact h
  ·exact h
  ·trivial
 |timer g op w es =>
  dsimp only
  split
  ·rename_i h2
   have h3:=Ck h2
   show _≤_
   rw[h3];exact h
  ·exact h
  ·trivial
  ·trivial
theorem Mj (p:Program) (m:Machine) (k:Nat):SU m.world.drawn (serve p m k):=by
 unfold serve;dsimp only
 split
 ·trivial
 ·exact zJp _
 ·split
  ·trivial
  ·exact zJp _
def VU (d:Nat):Move→Prop
 |.goroutine m _=>d≤m.world.drawn
 |.machine s _=>SU d s
theorem VU.le {d d':Nat} {s:Move} (h:VU d s) (hd:d'≤d):VU d' s:=by
 cases s with
 |goroutine m i=>exact Nat.le_trans hd h
 |machine s ops=>exact SU.le h hd
theorem VU.ite {d:Nat} {p:Prop} [Decidable p] {a b:Move} (h1:VU d a) (h2:VU d b):VU d (if p then a else b):=by split<;>assumption
theorem qZ (p:Program) (m:Machine):VU m.world.drawn (askOn p m):=by
 unfold askOn;dsimp only
 split
 ·trivial
 ·rename_i h
  have hu:=km h
  clear h
  refine VU.ite ((Mj _ _ _).le hu) ?_
  split
  ·split
   ·exact hu
   ·refine VU.ite hu ?_
    split<;>trivial
  ·split
   ·split
    ·trivial
    ·rename_i h
     have h1:=km h
     refine VU.ite (Nat.le_trans hu h1) ?_
     split
     ·trivial
     ·rename_i h;have h2:=km h;exact Nat.le_trans hu (Nat.le_trans h1 h2)
   ·split
    ·trivial
    ·rename_i h
     have h0:=km h
     split
     ·trivial
     ·rename_i h
      have h1:=km h
      refine VU.ite (Nat.le_trans hu (Nat.le_trans h0 h1)) ?_
      split
      ·trivial
      ·rename_i h;have h2:=km h;exact Nat.le_trans hu (Nat.le_trans h0 (Nat.le_trans h1 h2))
    ·rename_i h
     have h0:=km h
     exact Nat.le_trans hu h0
    ·rename_i h
     have h0:=km h
     split
     ·trivial
     ·rename_i h
      have h1:=km h
      refine VU.ite (Nat.le_trans hu (Nat.le_trans h0 h1)) ?_
      split
      ·trivial
      ·rename_i h;have h2:=km h;exact Nat.le_trans hu (Nat.le_trans h0 (Nat.le_trans h1 h2))
theorem Bt (p:Program) (m:Machine):VU m.world.drawn (ask p m):=by
 unfold ask
 split
 ·split
  ·trivial
  ·rename_i h
   have h1:=km h
   have h2:=GO p m.gs m.rest ‹World›
   split
   ·rename_i m' h3;rw[h3]at h2;exact(qZ _ _).le (Nat.le_trans h1 h2)
   ·exact h2.le h1
  ·rename_i h
   have h1:=km h
   exact(qZ _ _).le h1
 ·exact qZ _ _
theorem Uk (p:Program) (m:Machine):VU m.world.drawn (move p m):=by
 unfold move
 split
 ·exact VU.ite (zJp _) trivial
 ·split
  ·exact VU.ite (zJp _) (Bt p _)
  ·exact Bt p m
theorem Sr {p:Program} {m m':Machine} (h:step p m=.next m'):m.world.drawn≤m'.world.drawn:=by
 unfold step stepT at h
 have h1:=Uk p m
 split at h
 ·rename_i h2
  rw[h2]at h1
  have h3:=Hz p ‹Machine› ‹Nat› true
  rw[h]at h3
  exact Nat.le_trans h1 h3
 ·rename_i h2
  rw[h2]at h1
  dsimp only at h
  rw[h]at h1
  exact h1
theorem S3 {p:Program} {n:Nat}:∀ {m m':Machine},runN p n m=.next m'→m.world.drawn≤m'.world.drawn:=by
 induction n with
 |zero=>intro m m' h;cases h;exact zJp _
 |succ n ih =>
  intro m m' h
  unfold runN at h
  split at h
  ·rename_i h1;exact Nat.le_trans (Sr h1) (ih h)
  ·rename_i h1;exact absurd h (h1 _)
theorem Bq {P:Program} {f:FuncId} {args:Array Value} {w:World} {R:Ending→World→Prop} (h:Calls P f args w R):Calls P f args w fun e w'=>R e w'∧(∀v,e=.returned v→w.drawn≤w'.drawn):=by
 intro cs
 obtain⟨e,w',fr,h1,h2,h3⟩:=h cs
 refine⟨e,w',fr,⟨h1,?_⟩,h2,h3⟩
 rintro v rfl
 obtain⟨n,hn⟩:=h2
 exact S3 hn
end Go.Up
#print axioms Go.Up.Bq
end
section
namespace Go.Den
open Go Go.RowKit Go.Eng Go.Lift
open Go.Sort (SWO grow ahead putRow Holds HoldsK flatK putRowK)
open Go.Proofs (ltOf CmpLays sortWorldK)
theorem qU:∀ {t:Ty},t.nar=true→∀x:t.D,(ji t x).length=t.sz:=by
 intro t
 induction t with
 |int k=>intro _ x;rfl
 |bool=>intro _ x;rfl
 |str=>intro _ x;rfl
 |nil=>intro _ x;rfl
 |cons a b iha ihb =>
  intro h x
  simp only[Ty.nar,zJn]at h
  simp only[ji,zJo,iha h.1,ihb h.2,Ty.sz]
 |_=>intro h;cases h
theorem Nc:∀ {t:Ty},t.nar=true→∀x:t.D,∀v∈ji t x,v.oneCell'=true:=by
 intro t h x v hv
 have:=Gc (n4 h) v hv
 cases v<;>first|rfl|cases this
theorem NZ {w w':World} (h:Ext w w') (hd:w.drawn≤w'.drawn):∃q os,w'=grow (w.drewN q) os:=by
 refine⟨w'.drawn-w.drawn,w'.heap.extract w.heap.size w'.heap.size,?_⟩
 have h1:=h.os
 have h2:=h.tape
 have h3:=h.output
 have h4:=h.size
 have h5:=h.block
 obtain⟨hp,tp,dr,os,ou⟩:=w
 obtain⟨hp',tp',dr',os',ou'⟩:=w'
 simp only at h1 h2 h3 h4 h5 hd
 subst h1 h2 h3
 unfold grow World.drewN
 simp only
 congr 1
 ·apply Array.ext_getElem?
  intro i
  by_cases hi:i<hp.size
  ·rw[Array.getElem?_append_left hi];exact h5 i hi
  ·rw[Array.getElem?_append_right (by omega),Array.getElem?_extract]
   by_cases h6:i<hp'.size
   ·rw[if_pos (by omega)];congr 1;omega
   ·rw[if_neg (by omega),Array.getElem?_eq_none (by omega)]
 ·omega
theorem Nn {P:Program} {e:Ty} (hn:e.nar=true) (ha:e.agg=true) [Inhabited e.D] {cf:e.D→e.D→Int} {F:e.D×e.D×Unit→Comp (Int×Unit)} (hF:∀x y,∃n,(F (x,y,())).run n=some (cf x y,()))
  {O:zS} {w:World} (hO:OkO O w) {g:Nat} {cb:Array Value} (hg:FnOk P g)
  (h4:∀O' w',OkO O' w'→ze 0 O w O' w'→∀vs x,(Ty.cons e (.cons e .nil)).args P O' w' vs x→∀n y,(F x).run n=some y→Hf P (.func (.func g) #[] cb) vs.toArray w' (fun w'' v=>∃rs,kV rs v∧(Ty.cons (.int .i64) .nil).args P O' w'' rs y))
  {b:Nat} (hb:b<w.heap.size) (hob:O b≠0) (size:Nat):CmpLays P g cb (ji e) e.sz cf b 0 size w:=by
 intro m os dk hdk x y
 obtain⟨n,hn'⟩:=hF x y
 have hsz:w.heap.size≤(sortWorldK (ji e) e.sz w b 0 m dk os).heap.size:=by simp[sortWorldK,grow,putRowK,putRow,Go.Sort.mapBlock,ahead]
 have hold:∀c,c<w.heap.size→c≠b→(sortWorldK (ji e) e.sz w b 0 m dk os).heap[c]?=w.heap[c]?:=by
  intro c hc hne
  unfold sortWorldK
  rw[Go.Sort.heap_grow_old _ _ (by simpa[putRowK,putRow,Go.Sort.mapBlock,ahead] using hc)]
  simp[putRowK,putRow,Go.Sort.mapBlock,ahead,Array.getElem?_modify,Ne.symm hne]
 have hk:ze 0 O w O (sortWorldK (ji e) e.sz w b 0 m dk os):=⟨hsz,fun c hc h0=>⟨h0,hold c hc (fun e=>hob (e ▸ h0))⟩⟩
 have ho:OkO O (sortWorldK (ji e) e.sz w b 0 m dk os):=fun c hc=>hO c (by omega)
 have hv:∀x:e.D,(e.gr P).v O (sortWorldK (ji e) e.sz w b 0 m dk os) (.agg (ji e x).toArray) x:=fun x=>⟨_,uZ hn x,by rw[Ty.jW,ha];rfl⟩
 obtain⟨f,ys,h5,h6⟩:=h4 O _ ho hk [.agg (ji e x).toArray,.agg (ji e y).toArray] (x,y,()) ⟨_,_,rfl,hv x,_,_,rfl,hv y,rfl⟩ n _ hn'
 obtain⟨fn,g1,g2,g3⟩:=hg.h
 simp only[Deferred.ofValue,Sem.run_bind,Sem.run_pure,Result.andThen,invoke,callFunc,run_program,g1]at h5
 simp[g2,g3]at h5
 obtain⟨rfl,rfl⟩:=h5
 refine Calls.mono (Go.Up.Bq h6) ?_
 rintro e' w' ⟨⟨v,rfl,hE,rs,ht,v1,vs1,rfl,hv1,hvs⟩,hd⟩
 obtain⟨cs,hc1,hc2⟩:=hv1
 rw[show cs=[Value.int .i64 (cf x y)] from hc1]at hc2
 have hvs':vs1=[]:=hvs
 subst hvs'
 refine⟨?_,NZ hE (hd _ rfl)⟩
 rcases ht with ht|ht
 ·cases ht
 ·rw[ht];show Ending.returned v1=_;rw[hc2];rfl
theorem tf {e:Ty} (ha:e.agg=true) (x:e.D):(gi e x).cells=(ji e x).toArray:=by unfold gi;rw[ha];rfl
theorem Ao {e:Ty} (hn:e.nar=true) {P:Program} {O:zS} {w:World}:∀ {vs:List Value} {xs:List e.D},yi (e.gr P) O w vs xs→vs=xs.map (gi e)
 | [],[],_=>rfl
 |v::vs,x::xs,h=>by rw[List.map_cons,←Ao hn h.2,Rr (n4 hn) h.1]
 | [],_::_,h=>h.elim
 |_::_,[],h=>h.elim
theorem rZ {e:Ty} (hn:e.nar=true) {P:Program} {O:zS} {w:World}:∀(xs:List e.D),yi (e.gr P) O w (xs.map (gi e)) xs
 | []=>trivial
 |x::xs=>⟨⟨_,uZ hn x,by rw[Ty.jW];rfl⟩,rZ hn xs⟩
section enc
variable {e:Ty} (hn:e.nar=true) (ha:e.agg=true)
include hn ha
theorem Ie (x:e.D):(gi e x).cells.size=e.sz:=by rw[tf ha];simp[qU hn]
theorem mz (xs:List e.D):∀v∈xs.map (gi e),v.cells.size=e.sz:=by
 intro v hv
 obtain⟨x,_,rfl⟩:=List.mem_map.1 hv
 exact Ie hn ha x
theorem BX [Inhabited e.D] (xs:List e.D) {t:Nat} (ht:t<xs.length * e.sz):(flat (xs.map (gi e)))[t]?=some ((flatK (ji e) e.sz xs.toArray)[t]!):=by
 have h0:0<e.sz:=Nat.pos_of_ne_zero fun h=>by rw[h]at ht;omega
 have hq:t / e.sz<xs.length:=Nat.div_lt_of_lt_mul (by rw[Nat.mul_comm];exact ht)
 have hr:t % e.sz<e.sz:=Nat.mod_lt _ h0
 rw[Go.Sort.get_flatK _ _ _ _ (by simpa using ht)]
 have h1:=Zv (mz hn ha xs) (t / e.sz) (gi e xs[t / e.sz]) (by simp[hq]) (t % e.sz) hr
 rw[show t / e.sz * e.sz+t % e.sz=t from Nat.div_add_mod' t e.sz]at h1
 rw[h1,tf ha]
 have h2:t % e.sz<(ji e xs[t / e.sz]).length:=by rw[qU hn];exact hr
 simp[hq,h2]
theorem DR [Inhabited e.D] (xs:List e.D):(flatK (ji e) e.sz xs.toArray).toList=flat (xs.map (gi e)):=by
 apply List.ext_getElem?
 intro t
 by_cases ht:t<xs.length * e.sz
 ·rw[BX hn ha xs ht,Array.getElem?_toList]
  have:t<(flatK (ji e) e.sz xs.toArray).size:=by simpa using ht
  rw[Array.getElem?_eq_getElem this,getElem!_pos _ t this]
 ·rw[List.getElem?_eq_none (by simpa using ht),List.getElem?_eq_none (by rw[j7 (mz hn ha xs),List.length_map];omega)]
theorem Ia [Inhabited e.D] {w:World} {b:Nat} {cur:Array Value} {T:TypeId} {xs:List e.D} (hb:w.heap[b]?=some (.cells cur T (0,0))) (h:cur.toList.take (xs.length * e.sz)=flat (xs.map (gi e))):HoldsK (ji e) e.sz w b 0 xs.toArray:=by
 intro j hj
 have hj':j<xs.length * e.sz:=by simpa using hj
 refine⟨?_,by simp[World.frozen?,hb]⟩
 have h1:=BX hn ha xs hj'
 rw[←h,List.getElem?_take_of_lt hj']at h1
 simp only[World.cell?,hb,Nat.zero_add]
 simp only[Option.isSome_none,Bool.false_eq_true,if_false]
 rw[←Array.getElem?_toList,h1]
 rfl
theorem NU {P:Program} {ρ:Go.Shelf.Ren} (L:Go.Proofs.SlLaysF0.n6 P ρ) (aE:∀w,(isAgg (ρ.t 24)).run P w=.ok true w) (zE:∀w,(Go.sizeOf (ρ.t 24)).run P w=.ok e.sz w) [Inhabited e.D] {T:TypeId}
  {cf:e.D→e.D→Int} (hO:SWO (ltOf cf)) (hT:∀x y,(ltOf cf) x y=false→(ltOf cf) y x=false→x=y) {F:e.D×e.D×Unit→Comp (Int×Unit)} (hF:∀x y,∃n,(F (x,y,())).run n=some (cf x y,()))
  {O:zS} {w:World} (hw:OkO O w) {u v:Value} {xs:List e.D} (hA:V2 (e.gr P) T O w u xs) (hv:((Ty.fn (.cons e (.cons e .nil)) (.cons (.int .i64) .nil)).gr P).v O w v F) (hl:xs.length≤LIM) :
  Calls P (ρ.f 6) #[u,v] w (lP (e.gr P) T O w u (xs.mergeSort fun x y=>!(ltOf cf) y x) (zCz false u)):=by
 obtain⟨⟨vs,h1,h2⟩,h3⟩:=hA
 have hvs:=Ao hn h2
 subst hvs
 obtain⟨cs,⟨u',e1,⟨e2,e3⟩,e4⟩,e5⟩:=hv
 obtain⟨g,cb,rfl,hg⟩:=e3 rfl
 have hvu:v=.func (.func g) #[] cb:=by rw[e5,e1];rfl
 subst hvu
 have hlen:(xs.map (gi e)).length=xs.length:=List.length_map _
 have hsz:(e.gr P).sz=e.sz:=Ty.ye P e
 rcases h1.row.2 with ⟨f1,f2⟩|⟨b,cap,cur,f1,f2,f3,f4,f5,f6,f7⟩
 ·have hx:xs=[]:=List.eq_nil_of_length_eq_zero (by omega)
  subst hx
  subst f1
  refine Calls.mono (Go.Proofs.AnyF.slices_SortFunc_none L none 0 _ w) ?_
  rintro e' w' ⟨he,rfl⟩
  exact⟨_,.slice none 0 0,he,⟨⟨rfl,rfl,rfl,zJp _,fun _ _ _=>rfl⟩,.inl rfl⟩,⟨[],OwnS.nil _ _ _ _,by simp[yi]⟩,rfl,rfl⟩
 ·unfold LIM at hl
  subst f1
  rw[hlen]at f4 f7 h1 ⊢
  rw[hsz]at f6 f7
  have hb:b<w.heap.size:=(Array.getElem?_eq_some_iff.1 f3).1
  have hob:O b≠0:=h3 b rfl
  have eg:∀args w,(callFunc g args).run P w=.ok (.enter g args) w:=by
   intro args w
   obtain⟨fn,g1,g2,g3⟩:=hg.h
   simp only[callFunc,Sem.run_bind,Sem.run_pure,Result.andThen,run_program,g1]
   simp[g2,g3]
  have hlays:=Nn (P:=P) hn ha hF hw (cb:=cb) hg e4 hb hob xs.toArray.size
  have hcall:=Go.Proofs.AnyQ.slices_SortFunc_total L e.sz aE zE (ji e) (qU hn) (Nc hn) cf hO g cb b 0 cap xs.toArray w eg hlays (Ia hn ha f3 f7) hb (by simp;omega) hT
  rw[List.size_toArray]at hcall
  refine Calls.mono hcall ?_
  rintro e' w' ⟨he,n,os,rfl⟩
  simp only[]
  generalize hys:(xs.mergeSort fun x y=>!(ltOf cf) y x)=ys
  have hyl:ys.length=xs.length:=by rw[←hys];exact List.length_mergeSort xs
  have hheap:(sortWorldK (ji e) e.sz w b 0 n ys.toArray os).heap[b]?=some (.cells (Go.Sort.putCells id 0 (flatK (ji e) e.sz ys.toArray) cur) T (0,0)):=by
   unfold sortWorldK
   rw[Go.Sort.heap_grow_old _ _ (by simpa[putRowK,putRow,Go.Sort.mapBlock,ahead] using hb)]
   simp[putRowK,putRow,Go.Sort.mapBlock,ahead,Array.getElem?_modify,f3,Go.Sort.onCells]
  have hgr:w.grownBy (sortWorldK (ji e) e.sz w b 0 n ys.toArray os) (some b):=by
   refine⟨rfl,rfl,rfl,by simp[sortWorldK,grow,putRowK,putRow,Go.Sort.mapBlock,ahead],fun k hk hne=>?_⟩
   unfold sortWorldK
   rw[Go.Sort.heap_grow_old _ _ (by simpa[putRowK,putRow,Go.Sort.mapBlock,ahead] using hk)]
   have:b≠k:=fun e=>hne (by rw[e])
   simp[putRowK,putRow,Go.Sort.mapBlock,ahead,Array.getElem?_modify,this]
  have htake:(Go.Sort.putCells id 0 (flatK (ji e) e.sz ys.toArray) cur).toList.take (xs.length * e.sz)=flat (ys.map (gi e)):=by
   rw[←DR hn ha ys]
   have hle:xs.length * e.sz≤cur.size:=by rw[f6];exact Nat.mul_le_mul_right _ f4
   apply List.ext_getElem?
   intro j
   by_cases hj:j<xs.length * e.sz
   ·have h5:j<cur.size:=by omega
    have h6:j<(flatK (ji e) e.sz ys.toArray).size:=by simpa[hyl] using hj
    rw[List.getElem?_take_of_lt hj,Array.getElem?_toList,Array.getElem?_toList,Array.getElem?_eq_getElem h6]
    simp only[Go.Sort.putCells,Array.getElem?_mapIdx,Array.getElem?_eq_getElem h5,Option.map_some,Nat.zero_le,true_and,Nat.zero_add,Nat.sub_zero]
    rw[if_pos h6,getElem!_pos _ j h6];rfl
   ·rw[List.getElem?_take_eq_none (by omega),List.getElem?_eq_none (by simpa[hyl] using hj)]
  refine⟨_,.slice (some ⟨b,0,none⟩) xs.length cap,he,⟨hgr,.inl rfl⟩,⟨ys.map (gi e),⟨?_,?_⟩,rZ hn ys⟩,rfl,rfl⟩
  ·rw[hsz];exact mz hn ha ys
  ·rw[hsz,List.length_map,hyl]
   refine⟨by rw[j7 (mz hn ha ys),List.length_map,hyl],.inr ⟨b,cap,_,rfl,Nat.zero_le _,hheap,f4,f5,?_,htake⟩⟩
   simp[Go.Sort.putCells,f6]
end enc
instance:Inhabited Pln:=⟨((0,0,0,()),0,())⟩
abbrev Rw:Ty:=.cons (.cons (.int .i64) (.cons (.int .i64) (.cons (.int .i64) .nil))) (.cons (.int .i64) .nil)
instance:Inhabited Rw.D:=⟨(((0:Int),(0:Int),(0:Int),()),(0:Int),())⟩
theorem JG (x y:Pln):ltOf Yq x y=true↔LtP x y:=by unfold ltOf;rw[decide_eq_true_iff];exact J8
theorem XM (x y:Pln):ltOf Yq x y=false↔¬LtP x y:=by rw[←JG];simp
theorem Er:SWO (ltOf Yq) where
 irrefl x:=(XM x x).2 LtP.irr
 trans x y z h1 h2:=(JG x z).2 (((JG x y).1 h1).trans ((JG y z).1 h2))
 ntrans x y z h1 h2:=by
  rw[XM]at *
  intro h3
  rcases LtP.tri y z with h|h|h
  ·exact h2 h
  ·subst h;exact h1 h3
  ·exact h1 (h3.trans h)
theorem Ii (x y:Pln) (h1:ltOf Yq x y=false) (h2:ltOf Yq y x=false):x=y:=by
 rw[XM]at h1 h2
 rcases LtP.tri x y with h|h|h
 ·exact absurd h h1
 ·exact h
 ·exact absurd h h2
theorem IM (l:List Pln):(l.mergeSort fun x y=>!(ltOf Yq) y x)=Jj l:=by
 refine List.Perm.eq_of_pairwise (le:=fun p q=>¬LtP q p) (fun a b _ _ h1 h2=>?_) ?_ (Af l) ((List.mergeSort_perm _ _).trans (rU l).symm)
 ·rcases LtP.tri a b with h|h|h
  ·exact absurd h h2
  ·exact h
  ·exact absurd h h1
 ·have:=List.pairwise_mergeSort (le:=fun x y:Pln=>!(ltOf Yq) y x) (fun a b c h1 h2=>?_) (fun a b=>?_) l
  ·refine this.imp fun {a b} h=>?_
   rw[←XM];simpa using h
  ·simp only[Bool.not_eq_true']at *
   exact Er.ntrans c b a h2 h1
  ·cases h1:ltOf Yq b a with
   |false=>rfl
   |true=>rw[(XM a b).2 fun h=>LtP.asym ((JG b a).1 h1) h];rfl
theorem Md {P:Program} {ρ:Go.Shelf.Ren} (L:Go.Proofs.SlLaysF0.n6 P ρ) {dd:TypeDesc} {z:Value} {by_:Nat} (hT:Eng.Ty P (ρ.t 24) dd z 4 by_) (hd:vF dd=true) {T:TypeId} (hf:FnOk P (ρ.f 6)) :
  FO.ok P (ρ.f 6) ⟨Rw,T,.cons (.fn (.cons Rw (.cons Rw .nil)) (.cons (.int .i64) .nil)) .nil,false,fun xs x=>CG xs x.1⟩:=by
 refine⟨hf,fun O w hw u xs hA vs z hz n ys hy=>?_⟩
 obtain⟨v,vs1,rfl,hv,hvs⟩:=hz
 rw[show vs1=[] from hvs]
 have hy':(CG xs z.1).run n=some ys:=hy
 unfold CG at hy'
 split at hy'
 ·rename_i h
  have:=run_pure hy'
  subst this
  have hm:=IM xs
  have:=NU (P:=P) (e:=Rw) rfl rfl L (fun w=>by rw[hT.YP,hd]) hT.zq (T:=T) Er Ii h.2 hw hA hv h.1
  refine Calls.mono this fun e w' he=>?_
  rw[←hm]
  exact he
 ·cases hy'
end Go.Den
end
section
namespace Go.Proofs
open Go.Shelf
def Tryz.rV:Go.Shelf.Ren:=⟨fun|6=>203|15=>222|14=>221|28=>241|29=>242|20=>233|21=>234|22=>235|23=>236|24=>237|25=>238|26=>239|27=>240|46=>244|47=>245|48=>246|49=>247|50=>248|57=>249|n=>n,fun|22=>107|24=>106|25=>233|3=>3|39=>245|0=>0|53=>257|55=>259|4=>4|46=>250|45=>249|50=>254|5=>5|9=>9|66=>260|70=>264|76=>266|77=>267|n=>n,fun|n=>n⟩
theorem Tryz.zDk:Go.Proofs.SlLaysF0.n6 Tryz.prog Tryz.rV:={
 mixed:=by kernel_rfl
 f6:=⟨Tryz.f203.name,by decide,Tryz.func203.trans (congrArg some (by kernel_rfl))⟩
 f14:=⟨Tryz.f221.name,by decide,Tryz.func221.trans (congrArg some (by kernel_rfl))⟩
 f15:=Tryz.func222.trans (congrArg some (by kernel_rfl))
 f20:=⟨Tryz.f233.name,by decide,Tryz.func233.trans (congrArg some (by kernel_rfl))⟩
 f21:=⟨Tryz.f234.name,by decide,Tryz.func234.trans (congrArg some (by kernel_rfl))⟩
 f22:=⟨Tryz.f235.name,by decide,Tryz.func235.trans (congrArg some (by kernel_rfl))⟩
 f23:=⟨Tryz.f236.name,by decide,Tryz.func236.trans (congrArg some (by kernel_rfl))⟩
 f24:=⟨Tryz.f237.name,by decide,Tryz.func237.trans (congrArg some (by kernel_rfl))⟩
 f25:=⟨Tryz.f238.name,by decide,Tryz.func238.trans (congrArg some (by kernel_rfl))⟩
 f26:=⟨Tryz.f239.name,by decide,Tryz.func239.trans (congrArg some (by kernel_rfl))⟩
 f27:=⟨Tryz.f240.name,by decide,Tryz.func240.trans (congrArg some (by kernel_rfl))⟩
 f28:=Tryz.func241.trans (congrArg some (by kernel_rfl))
 f29:=Tryz.func242.trans (congrArg some (by kernel_rfl))
 f46:=⟨Tryz.f244.name,by decide,Tryz.func244.trans (congrArg some (by kernel_rfl))⟩
 f47:=Tryz.func245.trans (congrArg some (by kernel_rfl))
 f48:=Tryz.func246.trans (congrArg some (by kernel_rfl))
 f49:=⟨Tryz.f247.name,by decide,Tryz.func247.trans (congrArg some (by kernel_rfl))⟩
 f50:=⟨Tryz.f248.name,by decide,Tryz.func248.trans (congrArg some (by kernel_rfl))⟩
 f57:=⟨Tryz.f249.name,by decide,Tryz.func249.trans (congrArg some (by kernel_rfl))⟩
 t0:=Tryz.underlying0
 a0:=Tryz.isAgg0
 z0:=Tryz.sizeOf0
 v0:=Tryz.zeroValue0
 t3:=Tryz.underlying3
 a3:=Tryz.isAgg3
 z3:=Tryz.sizeOf3
 v3:=Tryz.zeroValue3
 t4:=Tryz.underlying4
 a4:=Tryz.isAgg4
 z4:=Tryz.sizeOf4
 v4:=Tryz.zeroValue4
 t5:=Tryz.underlying5
 a5:=Tryz.isAgg5
 z5:=Tryz.sizeOf5
 v5:=Tryz.zeroValue5
 t9:=Tryz.underlying9
 a9:=Tryz.isAgg9
 z9:=Tryz.sizeOf9
 v9:=Tryz.zeroValue9
 t22:=Tryz.underlying107
 a22:=Tryz.isAgg107
 z22:=Tryz.sizeOf107
 v22:=Tryz.zeroValue107
 t25:=Tryz.underlying233
 a25:=Tryz.isAgg233
 z25:=Tryz.sizeOf233
 v25:=Tryz.zeroValue233
 t39:=Tryz.underlying245
 a39:=Tryz.isAgg245
 z39:=Tryz.sizeOf245
 v39:=Tryz.zeroValue245
 t45:=Tryz.underlying249
 a45:=Tryz.isAgg249
 z45:=Tryz.sizeOf249
 v45:=Tryz.zeroValue249
 t46:=Tryz.underlying250
 a46:=Tryz.isAgg250
 z46:=Tryz.sizeOf250
 v46:=Tryz.zeroValue250
 t50:=Tryz.underlying254
 a50:=Tryz.isAgg254
 z50:=Tryz.sizeOf254
 v50:=Tryz.zeroValue254
 t53:=Tryz.underlying257
 a53:=Tryz.isAgg257
 z53:=Tryz.sizeOf257
 v53:=Tryz.zeroValue257
 t55:=Tryz.underlying259
 a55:=Tryz.isAgg259
 z55:=Tryz.sizeOf259
 v55:=Tryz.zeroValue259
 t66:=Tryz.underlying260
 a66:=Tryz.isAgg260
 z66:=Tryz.sizeOf260
 v66:=Tryz.zeroValue260
 t70:=Tryz.underlying264
 a70:=Tryz.isAgg264
 z70:=Tryz.sizeOf264
 v70:=Tryz.zeroValue264
 t76:=Tryz.underlying266
 a76:=Tryz.isAgg266
 z76:=Tryz.sizeOf266
 v76:=Tryz.zeroValue266
 t77:=Tryz.underlying267
 a77:=Tryz.isAgg267
 z77:=Tryz.sizeOf267
 v77:=Tryz.zeroValue267 }
end Go.Proofs
end
section
set_option maxRecDepth 20000
namespace Go.Dn
open Go Go.Proofs Go.RowKit Go.Eng Go.Lift Go.Den
def lI (f:Func):Code:=f.body.getD .skip
theorem zFr {α:Type} {l:List α} (h:l.length=4):∃a b c d,l=[a,b,c,d]:=by
 match l,h with
 | [a,b,c,d],_=>exact⟨a,b,c,d,rfl⟩
theorem zDn:RecG prog 99 Tryz.f99 (cl (lI Tryz.f99)) (cr (lI Tryz.f99)) 4 4 5 43 t43:=by
 have hT:=(zDb 43 i43 (by kernel_rfl)).ty
 have hu2:∀w,(underlying 43).run prog w=.ok (.int .i64) w:=fun w=>by simp only[underlying,hT.u];rfl
 have hz:∀w,(zeroValue 43).run prog w=.ok i43.z w:=hT.ZE
 have hfn:∀g,Fence.wide.fn g:=fun _=>trivial
 refine⟨Tryz.func99,⟨_,Tryz.func99,rfl,by kernel_rfl⟩,rfl,Tryz.results99,by decide,fun caps hc c₀ cs w v hv hu Q hQ=>?_,fun caps hc c₀ cs w hu Q hQ=>?_⟩
 ·obtain⟨a,b,c,d,rfl⟩:=zFr hc
  dsimp only [cl,lI,Tryz.f99,Option.getD]
  apply wpSIn_region
  show wpOpsSIn _ _ _ _ _ [0,1,2,3,4,5,6] _ _ _
  simp[wpOpsSIn,go_sem,recoverD,hu,Instr.typeAssert,hu2,hfn,Act.eval,Act.put]
  refine hQ _ w (Ext.refl w) ⟨?_,rfl⟩ ?_ ?_ ?_
  ·simp
  ·intro i u hi
   match i,hi with
   |0,hi=>simpa[Act.get] using hi
   |1,hi=>simpa[Act.get] using hi
   |2,hi=>simpa[Act.get] using hi
   |3,hi=>simpa[Act.get] using hi
  ·simp[Act.get]
  ·simp[Act.get]
 ·obtain⟨a,b,c,d,rfl⟩:=zFr hc
  dsimp only [cl,lI,Tryz.f99,Option.getD]
  apply wpSIn_region
  show wpOpsSIn _ _ _ _ _ [0,1,2,3,4,5,6] _ _ _
  simp[wpOpsSIn,go_sem,recoverD,hu,Instr.typeAssert,hu2,hfn,hz,Act.eval,Act.put]
  refine hQ _ w (Ext.refl w) ⟨?_,rfl⟩ ?_ ?_
  ·simp
  ·intro i u hi
   match i,hi with
   |0,hi=>simpa[Act.get] using hi
   |1,hi=>simpa[Act.get] using hi
   |2,hi=>simpa[Act.get] using hi
   |3,hi=>simpa[Act.get] using hi
  ·simp[Act.get]
end Go.Dn
end
