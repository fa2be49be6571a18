/- Lemmas behind a claim. -/
import Derived.Test.YtieglkoekhbdpaaGreatKAfD
set_option linter.unusedSimpArgs false
set_option linter.unusedVariables false
open Go.Lift.Comp (XZ Yf zA Qd Xr zN vM)
section
namespace Go.Geo
open Go Go.Eng Go.Lift Go.Den
variable {α β γ δ ε σ τ:Type}
def zEV(eq:α→α→Bool)(x2:Int)(x1:List α):Comp (List α×Int) :=
 Comp.loop
  (fun (x_4:List α×Int×Int)=>if ltI x_4.2.2 (zF (List.drop x2.toNat x_4.1))=true then
    (idx (List.drop x2.toNat x_4.1) x_4.2.2).bind fun x_5=>(idx (List.drop x2.toNat x_4.1) (gi .i64 x_4.2.2 1)).bind fun x_6=>jn
       (fun (x:List α×Int)=>Comp.pure (.next (x.1,x.2,zJ .i64 x_4.2.2 1)))
       fun (j:List α×Int→Comp (Comp.Step (List α×Int×Int) (List α×Int)))=>if ntB (eq x_5 x_6)=true then
        (idx (List.drop x2.toNat x_4.1) x_4.2.2).bind fun x=>(inb x_4.1.length x_4.2.1).bind fun x_7=>j (jZ x_4.1 x_4.2.1 x,zJ .i64 x_4.2.1 1)
       else j (x_4.1,x_4.2.1)
   else Comp.pure (.done (x_4.1,x_4.2.1)))
  (x1,x2,1)
def zEU(eq:α→α→Bool)(z:α)(xs:List α):Comp (List α) :=
 if ltI (zF xs) 2=true then Comp.pure xs
 else
  (Comp.loop
     (fun (x:List α×Int)=>if ltI x.2 (zF x.1)=true then
       (idx x.1 x.2).bind fun x_1=>(idx x.1 (gi .i64 x.2 1)).bind fun x_2=>if eq x_1 x_2=true then
          ((sub x.1 x.2 (zF x.1)).bind fun x=>Comp.pure ()).bind fun x_3=>(zEV eq x.2 x.1).bind fun x=>((sub x.1 x.2 (zF x.1)).bind fun x=>Comp.pure ()).bind fun x_4=>(sub x.1 (Int.ofNat x.2.toNat) (zF x.1)).bind fun x_5=>jn (fun (x:List α)=>Comp.pure (.done (Sum.inr x)))
               fun (j:List α→Comp (Comp.Step (List α×Int) (List α⊕List α)))=>(sub (List.take x.2.toNat x.1++List.replicate (x.1.length.sub x.2.toNat) z) 0 x.2).bind fun ys=>j ys
         else Comp.pure (.next (x.1,zJ .i64 x.2 1))
      else Comp.pure (.done (Sum.inl x.1)))
     (xs,1)).bind fun (x:List α⊕List α)=>match x with
   |Sum.inl x=>Comp.pure x
   |Sum.inr x=>Comp.pure x
theorem zK{xs:List α}{k:Nat}(h:k<xs.length):∃y,xs[k]?=some y:=⟨xs[k],by simp[h]⟩
theorem wq{l xs:List α}{i k:Nat}(h:l.drop i=xs.drop i)(hi:i≤k):l[k]?=xs[k]?:=by
 have:(l.drop i)[k-i]?=(xs.drop i)[k-i]?:=by rw[h]
 rw[List.getElem?_drop,List.getElem?_drop,show i+(k-i)=k by omega]at this
 exact this
theorem QF [DecidableEq α]{eq:α→α→Bool}(heq:∀x y,eq x y=decide (x=y)){xs:List α}(hl:xs.length<9223372036854775807){i0:Nat}(h0:1≤i0)(hi:i0<xs.length)(hpre:cpc (xs.take i0)=xs.take i0)(hdup:xs[i0]?=xs[i0-1]?) :
  ∃l',l'.length=xs.length∧l'.take (cpc xs).length=cpc xs∧(zEV eq (i0:Int) xs).val=some (l',((cpc xs).length:Int)):=by
 have inv:∀(m k:Nat) (l:List α),i0+k+m=xs.length→1≤k→l.length=xs.length→l.take (cpc (xs.take (i0+k))).length=cpc (xs.take (i0+k))→l.drop (i0+k-1)=xs.drop (i0+k-1)→∃l',l'.length=xs.length∧l'.take (cpc xs).length=cpc xs∧(Comp.loop
  (fun (x_4:List α×Int×Int)=>if ltI x_4.2.2 (zF (List.drop (i0:Int).toNat x_4.1))=true then
    (idx (List.drop (i0:Int).toNat x_4.1) x_4.2.2).bind fun x_5=>(idx (List.drop (i0:Int).toNat x_4.1) (gi .i64 x_4.2.2 1)).bind fun x_6=>jn
       (fun (x:List α×Int)=>Comp.pure (.next (x.1,x.2,zJ .i64 x_4.2.2 1)))
       fun (j:List α×Int→Comp (Comp.Step (List α×Int×Int) (List α×Int)))=>if ntB (eq x_5 x_6)=true then
        (idx (List.drop (i0:Int).toNat x_4.1) x_4.2.2).bind fun x=>(inb x_4.1.length x_4.2.1).bind fun x_7=>j (jZ x_4.1 x_4.2.1 x,zJ .i64 x_4.2.1 1)
       else j (x_4.1,x_4.2.1)
   else Comp.pure (.done (x_4.1,x_4.2.1)))
  (l,((cpc (xs.take (i0+k))).length:Int),(k:Int))).val=some (l',((cpc xs).length:Int)):=by
  intro m
  induction m with
  |zero =>
   intro k l hk h1 hll ht hd;rw[show i0+k=xs.length by omega,List.take_length]at ht ⊢
   refine⟨l,hll,ht,?_⟩;rw[zN];have h1:¬((k:Int)<zF (List.drop (i0:Int).toNat l)):=by rw[zC,List.length_drop,hll,Int.toNat_natCast];omega
   simp only[zH,h1,if_false,Comp.zB,zLB]
  |succ m ih =>
   intro k l hk h1 hll ht hd;obtain⟨b,hb⟩:=zK (xs:=xs) (k:=i0+k) (by omega)
   obtain⟨a,ha⟩:=zK (xs:=xs) (k:=i0+k-1) (by omega)
   have hlb:l[i0+k]?=some b:=by rw[wq hd (by omega)];exact hb
   have hla:l[i0+k-1]?=some a:=by rw[wq hd (by omega)];exact ha
   have hlt:(k:Int)<zF (List.drop (i0:Int).toNat l):=by rw[zC,List.length_drop,hll,Int.toNat_natCast];omega
   have e1:(idx (List.drop (i0:Int).toNat l) (k:Int)).val=some b:=zL (by rw[Int.toNat_natCast,List.getElem?_drop];exact hlb)
   have e2:(idx (List.drop (i0:Int).toNat l) (gi .i64 (k:Int) 1)).val=some a:=by
    rw[YK (by omega),show (k:Int)-1=((k-1:Nat):Int) by omega]
    exact zL (by rw[Int.toNat_natCast,List.getElem?_drop,show i0+(k-1)=i0+k-1 by omega];exact hla)
   have hstep:=JP (xs:=xs) (k:=i0+k-1) ha (by rw[show i0+k-1+1=i0+k by omega];exact hb)
   rw[show i0+k-1+1=i0+k by omega]at hstep
   -- fewer are kept than were seen
   have hcnt:(cpc (xs.take (i0+k))).length<i0+k:=by
    have base:(cpc (xs.take (i0+1))).length=i0:=by
     obtain⟨c,hc⟩:=zK (xs:=xs) (k:=i0) hi;have h2:=JP (xs:=xs) (k:=i0-1) (a:=c) (b:=c) (by rw[←hdup];exact hc) (by rw[show i0-1+1=i0 by omega];exact hc)
     rw[show i0-1+1=i0 by omega,if_pos rfl,List.append_nil]at h2
     rw[h2,hpre,List.length_take];omega
    have mono:∀j,(cpc (xs.take (i0+1+j))).length≤i0+j:=by
     intro j
     induction j with
     |zero=>rw[Nat.add_zero,base];omega
     |succ j ihj =>
      by_cases hj:i0+1+j<xs.length
      ·obtain⟨b',hb'⟩:=zK (xs:=xs) (k:=i0+j+1) (by omega)
       obtain⟨a',ha'⟩:=zK (xs:=xs) (k:=i0+j) (by omega)
       have h3:=JP ha' hb';rw[show i0+1+(j+1)=i0+j+1+1 by omega,h3,zLE]
       rw[show i0+1+j=i0+j+1 by omega]at ihj
       split<;>simp<;>omega
      ·rw[List.take_of_length_le (by omega)]at ihj ⊢;omega
    have:=mono (k-1);rw[show i0+1+(k-1)=i0+k by omega]at this;omega
   have hd1:l.drop (i0+(k+1)-1)=xs.drop (i0+(k+1)-1):=by
    have:(l.drop (i0+k-1)).drop 1=(xs.drop (i0+k-1)).drop 1:=by rw[hd]
    rw[List.drop_drop,List.drop_drop,show i0+k-1+1=i0+(k+1)-1 by omega]at this
    exact this
   by_cases hba:b=a
   ·rw[if_pos hba,List.append_nil]at hstep
    rw[show i0+k+1=i0+(k+1) by omega]at hstep
    obtain⟨l',g1,g2,g3⟩:=ih (k+1) l (by omega) (by omega) hll (by rw[hstep];exact ht) hd1
    refine⟨l',g1,g2,?_⟩;rw[hstep]at g3;rw[←g3]
    conv=>lhs;rw[zN]
    simp only[zH,hlt,if_true,zA,e1,e2,zLB,vZ,heq,hba,decide_true,yM,Bool.not_true,Bool.false_eq_true,if_false,Comp.zB,zM (show k<9223372036854775807 by omega)]
   ·rw[if_neg hba]at hstep
    rw[show i0+k+1=i0+(k+1) by omega]at hstep
    have hc:(cpc (xs.take (i0+k))).length<l.length:=by omega
    obtain⟨l',g1,g2,g3⟩:=ih (k+1) (l.set (cpc (xs.take (i0+k))).length b) (by omega) (by omega) (by simpa using hll)
     (by
      rw[hstep,zLE,zLG,List.take_add_one,List.take_set_of_le (zLF _),ht];simp[hc])
     (by rw[List.drop_set_of_lt (by omega)];exact hd1)
    refine⟨l',g1,g2,?_⟩;rw[hstep]at g3;rw[←g3];have e3:(inb l.length ((cpc (xs.take (i0+k))).length:Int)).val=some ():=jT (by omega)
    simp only[Int.toNat_natCast]at hlt e1 e2
    conv=>lhs;rw[zN]
    simp only[zH,hlt,if_true,zA,e1,e2,e3,zLB,vZ,heq,hba,decide_false,yM,Bool.not_false,Comp.zB,zM (show k<9223372036854775807 by omega),jZ,Int.toNat_natCast,zM (show (cpc (xs.take (i0+k))).length<9223372036854775807 by omega),zLE,zLG]
 have hbase:cpc (xs.take (i0+1))=xs.take i0:=by
  obtain⟨c,hc⟩:=zK (xs:=xs) (k:=i0) hi;have h2:=JP (xs:=xs) (k:=i0-1) (a:=c) (b:=c) (by rw[←hdup];exact hc) (by rw[show i0-1+1=i0 by omega];exact hc)
  rw[show i0-1+1=i0 by omega,if_pos rfl,List.append_nil]at h2
  rw[h2,hpre]
 obtain⟨l',g1,g2,g3⟩:=inv (xs.length-(i0+1)) 1 xs (by omega) (zLF _) rfl (by rw[hbase,List.length_take,Nat.min_eq_left (by omega)]) rfl
 refine⟨l',g1,g2,?_⟩;rw[←g3,hbase,List.length_take,Nat.min_eq_left (by omega)]
 rfl
theorem Vp [DecidableEq α]{eq:α→α→Bool}(heq:∀x y,eq x y=decide (x=y)){z:α}{xs:List α}(hl:xs.length<9223372036854775807):(zEU eq z xs).val=some (cpc xs):=by
 unfold zEU;rw[Xr];split
 ·rename_i h
  rw[zH,zC]at h;rw[Comp.zB]
  match xs,h with
  | [],_=>rfl
  | [x],_=>rfl
  |x::y::l,h=>simp only[zLL]at h;omega
 ·rename_i h
  rw[zH,zC]at h;have inv:∀(m k:Nat),k+m=xs.length→1≤k→cpc (xs.take k)=xs.take k→∃r:List α⊕List α,(r=.inl (cpc xs)∨r=.inr (cpc xs))∧(Comp.loop
     (fun (x:List α×Int)=>if ltI x.2 (zF x.1)=true then
       (idx x.1 x.2).bind fun x_1=>(idx x.1 (gi .i64 x.2 1)).bind fun x_2=>if eq x_1 x_2=true then
          ((sub x.1 x.2 (zF x.1)).bind fun x=>Comp.pure ()).bind fun x_3=>(zEV eq x.2 x.1).bind fun x=>((sub x.1 x.2 (zF x.1)).bind fun x=>Comp.pure ()).bind fun x_4=>(sub x.1 (Int.ofNat x.2.toNat) (zF x.1)).bind fun x_5=>jn (fun (x:List α)=>Comp.pure (.done (Sum.inr x)))
               fun (j:List α→Comp (Comp.Step (List α×Int) (List α⊕List α)))=>(sub (List.take x.2.toNat x.1++List.replicate (x.1.length.sub x.2.toNat) z) 0 x.2).bind fun ys=>j ys
         else Comp.pure (.next (x.1,zJ .i64 x.2 1))
      else Comp.pure (.done (Sum.inl x.1)))
     (xs,(k:Int))).val=some r:=by
   intro m
   induction m with
   |zero =>
    intro k hk h1 hp;rw[show k=xs.length by omega,List.take_length]at hp
    refine⟨.inl (cpc xs),.inl rfl,?_⟩;rw[zN];have h1:¬((k:Int)<zF xs):=by rw[zC];omega
    simp only[zH,h1,if_false,Comp.zB,zLB,hp]
   |succ m ih =>
    intro k hk h1 hp;obtain⟨b,hb⟩:=zK (xs:=xs) (k:=k) (by omega)
    obtain⟨a,ha⟩:=zK (xs:=xs) (k:=k-1) (by omega)
    have hlt:(k:Int)<zF xs:=by rw[zC];omega
    have e1:(idx xs (k:Int)).val=some b:=zL hb;have e2:(idx xs (gi .i64 (k:Int) 1)).val=some a:=by
     rw[YK (by omega),show (k:Int)-1=((k-1:Nat):Int) by omega]
     exact zL ha
    by_cases hba:b=a
    ·subst hba
     obtain⟨l',g1,g2,g3⟩:=QF heq hl h1 (by omega) hp (by rw[ha,hb])
     refine⟨.inr (cpc xs),.inr rfl,?_⟩;have e4:(sub xs (k:Int) (zF xs)).val=some (xs.drop k):=by rw[YQ (by rw[zC];omega)];simp[zC]
     have e5:=G5 (z:=z) (l:=l') (k:=(cpc xs).length) (by rw[g1];exact G6)
     rw[g2]at e5;simp only[zA,vZ,Comp.zB]at e5;rw[zN];simp only[zH,hlt,if_true,zA,e1,e2,zLB,heq,decide_true,e4,Comp.zB,g3,vZ]
     revert e5
     generalize (sub l' ((cpc xs).length:Int) (zF l')).val=o1;generalize (sub l' (Int.ofNat ((cpc xs).length:Int).toNat) (zF l')).val=o2;generalize (sub (List.take ((cpc xs).length:Int).toNat l'++List.replicate (l'.length.sub ((cpc xs).length:Int).toNat) z) 0 ((cpc xs).length:Int)).val=o3;intro e5;cases o1<;>cases o2<;>cases o3<;>simp_all
    ·obtain⟨r,g1,g2⟩:=ih (k+1) (by omega) (by omega) (by
      have hstep:=JP (xs:=xs) (k:=k-1) ha (by rw[show k-1+1=k by omega];exact hb)
      rw[show k-1+1=k by omega,if_neg hba,hp]at hstep
      rw[hstep,List.take_add_one,hb];rfl)
     refine⟨r,g1,?_⟩;rw[←g2]
     conv=>lhs;rw[zN]
     simp only[zH,hlt,if_true,zA,e1,e2,zLB,heq,hba,decide_false,Bool.false_eq_true,if_false,Comp.zB,zM (show k<9223372036854775807 by omega)]
  obtain⟨r,g1,g2⟩:=inv (xs.length-1) 1 (by omega) (zLF _) (by
   match xs with
   | []=>rfl
   |x::l=>rfl)
  rw[zA];refine(congrArg (fun o=>Option.bind o _) g2).trans ?_
  rw[zLB];rcases g1 with rfl|rfl<;>exact Comp.zB _
end Go.Geo
end
noncomputable section
namespace Go.Den
open Go Go.Lift
abbrev Pln:=(Int×Int×Int×Unit)×Int×Unit
def Yv(p q:Pln):Int :=
 if p.1.1<q.1.1 then -1 else if q.1.1<p.1.1 then 1 else
 if p.1.2.1<q.1.2.1 then -1 else if q.1.2.1<p.1.2.1 then 1 else
 if p.1.2.2.1<q.1.2.2.1 then -1 else if q.1.2.2.1<p.1.2.2.1 then 1 else
 if p.2.1<q.2.1 then -1 else if q.2.1<p.2.1 then 1 else 0
def K4(p:Pln):List Pln→List Pln
 | []=>[p]
 |q::l=>if Yv q p<0 then q::K4 p l else p::q::l
def Jq:List Pln→List Pln
 | []=>[]
 |p::l=>K4 p (Jq l)
open Classical in
def CT(xs:List Pln)(c:Pln×Pln×Unit→Comp (Int×Unit)):Comp (List Pln) :=
 if xs.length≤LIM∧∀x y,∃n,(c (x,y,())).run n=some (Yv x y,()) then Comp.pure (Jq xs) else Comp.fail
def LtP(p q:Pln):Prop:=p.1.1<q.1.1∨(p.1.1=q.1.1∧(p.1.2.1<q.1.2.1∨(p.1.2.1=q.1.2.1∧(p.1.2.2.1<q.1.2.2.1∨(p.1.2.2.1=q.1.2.2.1∧p.2.1<q.2.1)))))
theorem pW(p q:Pln):(Yv p q = -1∧LtP p q)∨(Yv p q=0∧p=q)∨(Yv p q=1∧LtP q p):=by
 obtain⟨⟨a,b,c,u⟩,d,v⟩:=p;obtain⟨⟨a',b',c',u'⟩,d',v'⟩:=q;unfold Yv LtP;simp only;split
 ·exact .inl ⟨rfl,by omega⟩
 split
 ·exact .inr (.inr ⟨rfl,by omega⟩)
 split
 ·exact .inl ⟨rfl,by omega⟩
 split
 ·exact .inr (.inr ⟨rfl,by omega⟩)
 split
 ·exact .inl ⟨rfl,by omega⟩
 split
 ·exact .inr (.inr ⟨rfl,by omega⟩)
 split
 ·exact .inl ⟨rfl,by omega⟩
 split
 ·exact .inr (.inr ⟨rfl,by omega⟩)
 ·refine .inr (.inl ⟨rfl,?_⟩)
  have h1:a=a':=by omega
  have h2:b=b':=by omega
  have h3:c=c':=by omega
  have h4:d=d':=by omega
  subst h1 h2 h3 h4;rfl
theorem LtP.irr{p:Pln}(h:LtP p p):False:=by unfold LtP at h;omega
theorem LtP.trans{p q r:Pln}(h:LtP p q)(k:LtP q r):LtP p r:=by unfold LtP at *;omega
theorem LtP.asym{p q:Pln}(h:LtP p q)(k:LtP q p):False:=(h.trans k).irr
theorem KI{p q:Pln}:Yv p q<0↔LtP p q:=by
 rcases pW p q with ⟨h1,h2⟩|⟨h1,h2⟩|⟨h1,h2⟩
 ·simp[h1,h2]
 ·subst h2;rw[h1];simp;exact fun h=>h.irr
 ·rw[h1];simp;exact fun h=>h.asym h2
theorem LtP.tri(p q:Pln):LtP p q∨p=q∨LtP q p:=by
 rcases pW p q with ⟨_,h⟩|⟨_,h⟩|⟨_,h⟩
 ·exact .inl h
 ·exact .inr (.inl h)
 ·exact .inr (.inr h)
theorem wM(p:Pln):∀l,(K4 p l).Perm (p::l)
 | []=>.refl _
 |q::l=>by
  unfold K4;split
  ·exact((wM p l).cons q).trans (.swap p q l)
  ·exact .refl _
theorem rf:∀l,(Jq l).Perm l
 | []=>.refl _
 |p::l=>(wM p _).trans ((rf l).cons p)
theorem Ba(p:Pln):∀ {l:List Pln},l.Pairwise (fun p q=>¬LtP q p)→(K4 p l).Pairwise (fun p q=>¬LtP q p)
 | [],_=>by simp[K4]
 |q::l,h=>by
  rw[List.pairwise_cons]at h;unfold K4;split
  ·rename_i h1
   rw[List.pairwise_cons];refine⟨fun a ha=>?_,Ba p h.2⟩
   rcases zLH.1 ((wM p l).mem_iff.1 ha) with rfl|ha
   ·exact fun k=>(KI.1 h1).asym k
   ·exact h.1 a ha
  ·rename_i h1
   rw[List.pairwise_cons];refine⟨fun a ha=>?_,List.pairwise_cons.2 h⟩
   have h2:¬LtP q p:=fun k=>h1 (KI.2 k)
   rcases zLH.1 ha with rfl|ha
   ·exact h2
   ·intro k
    rcases LtP.tri p q with h3|h3|h3
    ·exact h.1 a ha (k.trans h3)
    ·rw[h3]at k;exact h.1 a ha k
    ·exact h2 h3
theorem Aq:∀l:List Pln,(Jq l).Pairwise (fun p q=>¬LtP q p)
 | []=>.nil
 |p::l=>Ba p (Aq l)
end Go.Den
end
noncomputable section
set_option maxRecDepth 20000
namespace Go.F
open Go Go.Lift Go.Den
abbrev A1:=Int×Int×Int×Unit
abbrev A2:=A1×Int×Unit
abbrev A3:=List A2
abbrev A4:=List Bool×List Bool×List A3×Unit
abbrev A5:=List A3×List A3×Int×List Int×Unit
abbrev A6:=List UInt8×List A3×List Int×Unit
abbrev A7:=Int×Int×Int×Int×Unit
abbrev A8:=yZ×List A3×List Int×Unit
abbrev A9:=Bool×Unit
abbrev A10:=Int×Unit
abbrev A11:=List A2×Unit
abbrev A12:=A6×A4×List A5×Unit
abbrev A13:=List Int×Int×Unit
abbrev A14:=Int×Int×Unit
abbrev A15:=List Int
abbrev A16:=List A3
abbrev A17:=A8×A4×List A5×Unit
abbrev A18:=List A3×Unit
abbrev A19:=List Int×Unit
abbrev A20:=A4×Int×Unit
abbrev A21:=List A3×Int
abbrev A22:=List A3×Int×Unit
abbrev A23:=List Int×Int×List A14×Int×Unit
abbrev A24:=A13×Unit
abbrev A25:=A24×Int×Unit
abbrev A26:=Unit⊕Int
abbrev A27:=A2×Unit→Comp A9
abbrev A28:=Bool×Int×Unit
abbrev A29:=A1×Unit
abbrev A30:=Unit⊕Bool
abbrev A31:=List Bool
abbrev A32:=List A2×Int
abbrev A33:=List Int×Int×List A14×Int→Comp A23
abbrev A34:=Int×Int
abbrev A35:=List A2×Unit→Comp A9
abbrev A36:=List A3⊕List A3×Int
abbrev A37:=Bool×List Int×Int×Unit
abbrev A38:=List A7×Unit
abbrev A39:=List Int×Int×Int×Unit
abbrev A40:=List Bool×Unit
abbrev A41:=A4×List Bool×List Bool×List A3×Unit⊕Int×List Bool×List Bool×List A3×Unit
abbrev A42:=List Int×Int×List A14×Int
abbrev A43:=Option A3×Unit
abbrev A44:=List Int×Int
def zw:Int×Int×Int×Unit→Int×Int×Int×Unit→Comp A11:=fun x0 x1=>.pure ([((1,0,0,()),x1.1,()),((-1,0,0,()),Yl .i64 x0.1,()),((0,1,0,()),x1.2.1,()),((0, -1,0,()),Yl .i64 x0.2.1,()),((0,0,1,()),x1.2.2.1,()),((0,0, -1,()),Yl .i64 x0.2.2.1,())],())
def zy:Int→Int→Comp A11:=fun x0 x1=>(zw (x0,0,0,()) (x1,2,2,())).bind fun y=>.pure (y.1,())
def jP:yZ×List A3×List Int×Unit→Comp (A4×Unit):=fun x0=>(mk (zF x0.2.1) false).bind fun x=>(mk (zF x0.2.1) false).bind fun ys=>.pure ((ys,x,[],()),())
def y8:Comp (A17×Unit):=(zy 0 2).bind fun y=>(zy 2 4).bind fun y_1=>(zy 4 6).bind fun y_2=>(jP ([],[y.1,y_1.1,y_2.1],[1,2,2],())).bind fun x=>(zy 2 4).bind fun a=>(zy 4 6).bind fun b=>(zy 2 4).bind fun c=>(zy 4 6).bind fun d=>(zy 1 6).bind fun e=>.pure ((([],[y.1,y_1.1,y_2.1],[1,2,2],()),x.1,[([a.1],[],3,[],()),([b.1],[],4,[],()),([c.1,d.1],[],9,[],()),([e.1],[],1,[],())],()),())
def zU:List A2→Comp A11:=fun x0=>amb (K3 x0) (Comp.pure ([],())) ((app [] x0).bind fun zs=>.pure (zs,()))
def Zr:List A3→Comp A18:=fun x0=>(Comp.loop (fun (x:A21)=>if ltI x.2 (zF x0)=true then (idx x0 x.2).bind fun a=>(zU a).bind fun y=>(app x.1 [y.1]).bind fun zs=>.pure (.next (zs,zJ .i64 x.2 1)) else .pure (.done x.1)) ([],0)).bind fun x=>.pure (x,())
def jo:List Int→Comp A19:=fun x0=>amb (K3 x0) (Comp.pure ([],())) ((app [] x0).bind fun zs=>.pure (zs,()))
def gX:A8×Unit→List Int→Comp (A8×Unit):=fun x0 x1=>(Zr x0.1.2.1).bind fun y=>(jo x1).bind fun y_1=>.pure ((x0.1.1,y.1,y_1.1,()),())
def gG:Int→Comp A9:=fun x0=>.pure (sel (ltI x0 1) true (gtI x0 3),())
def kN:List Int→(Int×Unit→Comp A9)→Comp A10:=fun x0 x1=>(Comp.loop (fun (x:Int)=>if ltI x (zF x0)=true then (idx x0 x).bind fun a=>(x1 (a,())).bind fun b=>if b.1=true then .pure (.done (Sum.inr x)) else .pure (.next (zJ .i64 x 1)) else .pure (.done (Sum.inl ()))) 0).bind fun (x:A26)=>match x with
   |.inl x=>.pure (-1,())
   |.inr x=>.pure (x,())
def zn:List Int→(Int×Unit→Comp A9)→Comp A9:=fun x0 x1=>(kN x0 x1).bind fun x=>.pure (geI x.1 0,())
def yO:List A3→A35→Comp A10:=fun x0 x1=>(Comp.loop (fun (x:Int)=>if ltI x (zF x0)=true then (idx x0 x).bind fun a=>(x1 (a,())).bind fun b=>if b.1=true then .pure (.done (Sum.inr x)) else .pure (.next (zJ .i64 x 1)) else .pure (.done (Sum.inl ()))) 0).bind fun (x:A26)=>match x with
   |.inl x=>.pure (-1,())
   |.inr x=>.pure (x,())
def zG:List A3→A35→Comp A9:=fun x0 x1=>(yO x0 x1).bind fun x=>.pure (geI x.1 0,())
def yN:List A2→A27→Comp A10:=fun x0 x1=>(Comp.loop (fun (x:Int)=>if ltI x (zF x0)=true then (idx x0 x).bind fun a=>(x1 (a,())).bind fun b=>if b.1=true then .pure (.done (Sum.inr x)) else .pure (.next (zJ .i64 x 1)) else .pure (.done (Sum.inl ()))) 0).bind fun (x:A26)=>match x with
   |.inl x=>.pure (-1,())
   |.inr x=>.pure (x,())
def zb:List A2→A27→Comp A9:=fun x0 x1=>(yN x0 x1).bind fun x=>.pure (geI x.1 0,())
def jM:Int→List Int→Comp A9:=fun x0 x1=>(Comp.loop (fun (x:Int)=>if ltI x (zF x1)=true then (idx x1 x).bind fun a=>if sel (ltI a (Yl .i64 x0)) true (gtI a x0)=true then .pure (.done (Sum.inr false)) else .pure (.next (zJ .i64 x 1)) else .pure (.done (Sum.inl ()))) 0).bind fun (x:A30)=>match x with
   |.inl x=>.pure (true,())
   |.inr x=>.pure (x,())
def jx:Int→Comp A10:=fun x0=>.pure (rW x0 (Yl .i64 x0),())
def Zh:List Int→Comp A10:=fun x0=>(Comp.loop (fun (x:A34)=>if ltI x.2 (zF x0)=true then (idx x0 x.2).bind fun a=>if eqI a (-9223372036854775808)=true then .pure (.done (Sum.inr 0)) else (jx a).bind fun b=>(Comp.loop (fun (x:A34)=>if gtI x.2 0=true then (rem x.1 x.2).bind fun c=>.pure (.next (x.2,c)) else .pure (.done x.1)) (x.1,b.1)).bind fun c=>.pure (.next (c,zJ .i64 x.2 1)) else .pure (.done (Sum.inl x.1))) (0,0)).bind fun (x:Int⊕Int)=>match x with
   |.inl x=>.pure (x,())
   |.inr x=>.pure (x,())
def Y0:A1×Int×Unit→Comp A9:=fun x0=>jn (fun (x:Bool)=>.pure (x,())) fun (j:Bool→Comp A9)=>(jM (Int.ofNat 4608) [x0.1.1,x0.1.2.1,x0.1.2.2.1]).bind fun x=>if x.1=true then (Zh [x0.1.1,x0.1.2.1,x0.1.2.2.1]).bind fun x=>if eqI x.1 1=true then (jM (Int.ofNat 2097152) [x0.2.1]).bind fun x=>j x.1 else j false else j false
def jY:A1×Int×Unit→Comp A9:=fun x0=>(Y0 x0).bind fun x=>.pure (ntB x.1,())
def vP:List A2→Comp A10:=fun x0=>if gtI (zF x0) 48=true then .pure (2,()) else (zb x0 fun (z:A2×Unit)=>jY z.1).bind fun x=>if x.1=true then .pure (12,()) else .pure (0,())
def jX:List A2→Comp A9:=fun x0=>(vP x0).bind fun x=>.pure (neI x.1 0,())
def Zc:List A3→Comp A9:=fun x0=>(zG x0 fun (z:A11)=>jX z.1).bind fun x=>.pure (ntB x.1,())
def vv:Int→Comp A11:=fun x0=>jn (fun (x:Unit)=>jn (fun (x:A3)=>.pure (x,())) fun (j:List A2→Comp A11)=>if gtI (gi .i64 x0 0) 0=true then jn (fun (x:A3)=>j x) fun (j:List A2→Comp A11)=>((sub [] 0 0).bind fun (x:List Unit)=>.pure ()).bind fun x=>(mk (gi .i64 x0 0) ((0,0,0,()),0,())).bind fun zs=>(sub zs 0 0).bind fun ys=>j ys else j []) fun (j:Unit→Comp A11)=>if ltI x0 0=true then Comp.fail else j ()
def zQ:List A3→Comp A11:=fun x0=>(Comp.loop (fun (x:A34)=>if ltI x.2 (zF x0)=true then (idx x0 x.2).bind fun a=>jn (fun (b:Unit)=>.pure (.next (zJ .i64 x.1 (zF a),zJ .i64 x.2 1))) fun (j:Unit→Comp (Comp.Step A34 Int))=>if ltI (zJ .i64 x.1 (zF a)) 0=true then Comp.fail else j () else .pure (.done x.1)) (0,0)).bind fun x=>(vv x).bind fun y=>(Comp.loop (fun (x:A32)=>if ltI x.2 (zF x0)=true then (idx x0 x.2).bind fun a=>(app x.1 a).bind fun zs=>.pure (.next (zs,zJ .i64 x.2 1)) else .pure (.done x.1)) (y.1,0)).bind fun x=>.pure (x,())
def cell_of:List A3→Comp A11:=fun x0=>(zQ x0).bind fun y=>(Comp.loop (fun (x:A32)=>if ltI x.2 (zF [(1,0,0,()),(-1,0,0,()),(0,1,0,()),(0, -1,0,()),(0,0,1,()),(0,0, -1,())])=true then (idx [(1,0,0,()),(-1,0,0,()),(0,1,0,()),(0, -1,0,()),(0,0,1,()),(0,0, -1,())] x.2).bind fun a=>(app x.1 [(a,24,())]).bind fun zs=>.pure (.next (zs,zJ .i64 x.2 1)) else .pure (.done x.1)) (y.1,0)).bind fun x=>.pure (x,())
def vu:List A2→Comp (List A11):=fun x0=>((YF (fun (x:Int)=>if ltI x (zF x0)=true then (idx x0 x).bind fun a=>(sub x0 (zJ .i64 x 1) (zF x0)).bind fun b=>(YF (fun (c:Int)=>if ltI c (zF b)=true then (idx b c).bind fun d=>(sub x0 (zJ .i64 (zJ .i64 x c) 2) (zF x0)).bind fun x=>(YF (fun (e:Int)=>if ltI e (zF x)=true then (idx x e).bind fun x=>tell [([a,d,x],())] (Comp.pure ([],.next (zJ .i64 e 1))) else .pure ([],.done (Sum.inl ()))) 0).bind fun (p:List A11×(Unit⊕Unit))=>tell p.1 (match p.2 with
              |.inl x=>.pure ([],.next (zJ .i64 c 1))
              |.inr x=>.pure ([],.done (Sum.inr ()))) else .pure ([],.done (Sum.inl ()))) 0).bind fun (p:List A11×(Unit⊕Unit))=>tell p.1 (match p.2 with
         |.inl c=>.pure ([],.next (zJ .i64 x 1))
         |.inr x=>.pure ([],.done (Sum.inr ()))) else .pure ([],.done (Sum.inl ()))) 0).bind fun (p:List A11×(Unit⊕Unit))=>tell p.1 (match p.2 with
    |.inl x=>.pure ([],())
    |.inr x=>.pure ([],()))).bind fun (p:List A11×Unit)=>.pure p.1
def kJ:List A2→Comp (Comp (List A11)×Unit):=fun x0=>.pure (vu x0,())
def Zn:Int×Int×Int×Unit→Int×Int×Int×Unit→Comp A29:=fun x0 x1=>.pure ((gi .i64 (ki .i64 x0.2.1 x1.2.2.1) (ki .i64 x0.2.2.1 x1.2.1),gi .i64 (ki .i64 x0.2.2.1 x1.1) (ki .i64 x0.1 x1.2.2.1),gi .i64 (ki .i64 x0.1 x1.2.1) (ki .i64 x0.2.1 x1.1),()),())
def Ze:Int×Int×Int×Unit→Int×Int×Int×Unit→Comp A10:=fun x0 x1=>.pure (zJ .i64 (zJ .i64 (ki .i64 x0.1 x1.1) (ki .i64 x0.2.1 x1.2.1)) (ki .i64 x0.2.2.1 x1.2.2.1),())
def Yi:Int×Int×Int×Unit→Int→Comp A29:=fun x0 x1=>.pure ((ki .i64 x0.1 x1,ki .i64 x0.2.1 x1,ki .i64 x0.2.2.1 x1,()),())
def XN:Int×Int×Int×Unit→Int×Int×Int×Unit→Comp A29:=fun x0 x1=>.pure ((zJ .i64 x0.1 x1.1,zJ .i64 x0.2.1 x1.2.1,zJ .i64 x0.2.2.1 x1.2.2.1,()),())
def Kj:List Int→Comp A10:=fun x0=>(Comp.loop (fun (x:A34)=>if ltI x.2 (zF x0)=true then (idx x0 x.2).bind fun a=>(Comp.loop (fun (x:A34)=>if neI x.2 0=true then (rem x.1 x.2).bind fun b=>.pure (.next (x.2,b)) else .pure (.done x.1)) (x.1,a)).bind fun b=>.pure (.next (b,zJ .i64 x.2 1)) else .pure (.done x.1)) (0,0)).bind fun x=>.pure (rW x (Yl .i64 x),())
def XP:List A2→Comp (A7×Bool×Unit):=fun x0=>(Comp.loop (fun (x:Int×Int×Int×Int×Int×Unit)=>if ltI x.2.1 3=true then (idx x0 x.2.1).bind fun a=>(rem (zJ .i64 x.2.1 1) 3).bind fun b=>(idx x0 b).bind fun c=>(rem (zJ .i64 x.2.1 2) 3).bind fun d=>(idx x0 d).bind fun e=>(Zn c.1 e.1).bind fun f=>(Ze a.1 f.1).bind fun g=>(Yi f.1 a.2.1).bind fun h=>(XN x.2.2 h.1).bind fun i=>.pure (.next (g.1,zJ .i64 x.2.1 1,i.1)) else .pure (.done (x.1,x.2.2))) (0,0,0,0,0,())).bind fun x=>if eqI x.1 0=true then .pure ((0,0,0,0,()),false,()) else (Kj [x.2.1,x.2.2.1,x.2.2.2.1,x.1]).bind fun a=>jn (fun (b:Int)=>(quo .i64 x.2.1 b).bind fun c=>(quo .i64 x.2.2.1 b).bind fun d=>(quo .i64 x.2.2.2.1 b).bind fun e=>(quo .i64 x.1 b).bind fun x=>.pure ((c,d,e,x,()),true,())) fun (j:Int→Comp (A7×Bool×Unit))=>if ltI x.1 0=true then j (Yl .i64 a.1) else j a.1
def Zg:A1×Int×Unit→Int×Int×Int×Int×Unit→Comp A10:=fun x0 x1=>(Ze x0.1 (x1.1,x1.2.1,x1.2.2.1,())).bind fun x=>.pure (gi .i64 (ki .i64 x0.2.1 x1.2.2.2.1) x.1,())
def jF:A1×Int×Unit→Int×Int×Int×Int×Unit→Comp A9:=fun x0 x1=>(Zg x0 x1).bind fun x=>.pure (ltI x.1 0,())
def Zq:List A2→Int×Int×Int×Int×Unit→Comp A9:=fun x0 x1=>(zb x0 fun (z:A2×Unit)=>jF z.1 x1).bind fun x=>.pure (ntB x.1,())
def vo:List A2→Comp A38:=fun x0=>(kJ x0).bind fun (x:Comp (List A11)×Unit)=>x.1.bind fun xs=>(wA (fun (x:List A7×List (A7×Bool)) (d:A11)=>(XP d.1).bind fun a=>(Comp.gd (sel a.2.1 (ntB (match mgB (fun (x b:A7)=>adB (eqI x.1 b.1) (adB (eqI x.2.1 b.2.1) (adB (eqI x.2.2.1 b.2.2.1) (eqI x.2.2.2.1 b.2.2.2.1)))) x.2 a.1 with
          |some x=>x
          |none=>false)) false) (Zq x0 a.1) (false,())).bind fun b=>jn (fun (x:List A7×List (A7×Bool))=>.pure (.next (x.1,x.2))) fun (j:List A7×List (A7×Bool)→Comp (Comp.Step (List A7×List (A7×Bool)) Empty))=>if sel (sel a.2.1 (ntB (match mgB (fun (x c:A7)=>adB (eqI x.1 c.1) (adB (eqI x.2.1 c.2.1) (adB (eqI x.2.2.1 c.2.2.1) (eqI x.2.2.2.1 c.2.2.2.1)))) x.2 a.1 with
             |some x=>x
             |none=>false)) false) b.1 false=true then (app x.1 [a.1]).bind fun zs=>j (zs,mpB (fun (x c:A7)=>adB (eqI x.1 c.1) (adB (eqI x.2.1 c.2.1) (adB (eqI x.2.2.1 c.2.2.1) (eqI x.2.2.2.1 c.2.2.2.1)))) x.2 a.1 true) else j (x.1,x.2)) xs ([],[])).bind fun (r:Comp.Step (List A7×List (A7×Bool)) Empty)=>match r with
     |.next x=>.pure (x.1,())
     |.done e=>nomatch e
def yW:Int×Int×Int×Int×Unit→A1×Int×Unit→Comp A9:=fun x0 x1=>(Zg x1 x0).bind fun x=>.pure (gtI x.1 0,())
def vk:List A7→(A7×Unit→Comp A9)→Comp A10:=fun x0 x1=>(Comp.loop (fun (x:Int)=>if ltI x (zF x0)=true then (idx x0 x).bind fun a=>(x1 (a,())).bind fun b=>if b.1=true then .pure (.done (Sum.inr x)) else .pure (.next (zJ .i64 x 1)) else .pure (.done (Sum.inl ()))) 0).bind fun (x:A26)=>match x with
   |.inl x=>.pure (-1,())
   |.inr x=>.pure (x,())
def yR:List A7→(A7×Unit→Comp A9)→Comp A9:=fun x0 x1=>(vk x0 x1).bind fun x=>.pure (geI x.1 0,())
def y9:A1×Int×Unit→List A7→Comp A9:=fun x0 x1=>(yR x1 fun (z:A7×Unit)=>yW z.1 x0).bind fun x=>.pure (ntB x.1,())
def vV:List A2→A27→Comp A10:=fun x0 x1=>(Comp.loop (fun (x:Int)=>if ltI x (zF x0)=true then (idx x0 x).bind fun a=>(x1 (a,())).bind fun b=>if b.1=true then .pure (.done (Sum.inr x)) else .pure (.next (zJ .i64 x 1)) else .pure (.done (Sum.inl ()))) 0).bind fun (x:A26)=>match x with
   |.inl x=>.pure (-1,())
   |.inr x=>.pure (x,())
def yI:List A2→A27→Comp A9:=fun x0 x1=>(vV x0 x1).bind fun x=>.pure (geI x.1 0,())
def jC:List A2→Comp A9:=fun x0=>(vo x0).bind fun y=>(yI x0 fun (z:A2×Unit)=>y9 z.1 y.1).bind fun x=>.pure (ntB x.1,())
def kG:List A2→Comp A9:=fun x0=>jn (fun (x:Bool)=>.pure (x,())) fun (j:Bool→Comp A9)=>(Zc [x0]).bind fun x=>if x.1=true then (cell_of [x0]).bind fun y=>(jC y.1).bind fun x=>j x.1 else j false
def j7:List A2→List A2→Comp A9:=fun x0 x1=>jn (fun (x:Bool)=>.pure (x,())) fun (j:Bool→Comp A9)=>(Zc [x0,x1]).bind fun x=>if ntB (ntB x.1)=true then (cell_of [x0,x1]).bind fun y=>(jC y.1).bind fun x=>j (ntB x.1) else j true
def jD:List A2→List A2→Comp A9:=fun x0 x1=>(j7 x1 x0).bind fun x=>.pure (ntB x.1,())
def yU:List A2→List A3→Comp A9:=fun x0 x1=>(zG x1 fun (z:A11)=>jD z.1 x0).bind fun x=>.pure (ntB x.1,())
def j3:yZ×List A3×List Int×Unit→Comp A10:=fun x0=>if sel (eqI (zF x0.2.1) 0) true (gtI (zF x0.2.1) 16)=true then .pure (2,()) else (Comp.gd (ntB (neI (zF x0.2.2.1) (zF x0.2.1))) (zn x0.2.2.1 fun (z:A10)=>gG z.1) (false,())).bind fun x=>if sel (neI (zF x0.2.2.1) (zF x0.2.1)) true x.1=true then .pure (1,()) else (Comp.loop (fun (x:Int)=>if ltI x (zF x0.2.1)=true then (idx x0.2.1 x).bind fun a=>(kG a).bind fun b=>(Comp.gd (ntB (ntB b.1)) (sub x0.2.1 0 x) []).bind fun c=>(Comp.gd (ntB (ntB b.1)) (yU a c) (false,())).bind fun d=>if sel (ntB b.1) true (ntB d.1)=true then .pure (.done (Sum.inr 13)) else .pure (.next (zJ .i64 x 1)) else .pure (.done (Sum.inl ()))) 0).bind fun (x:A26)=>match x with
      |.inl x=>.pure (0,())
      |.inr x=>.pure (x,())
def gK:yZ×List A3×List Int×Unit→List Int→Comp (A8×Int×Unit):=fun x0 x1=>(gX (x0,()) x1).bind fun y=>(j3 (y.1.1,y.1.2.1,y.1.2.2.1,())).bind fun x=>if neI x.1 0=true then .pure (([],[],[],()),x.1,()) else .pure ((y.1.1,y.1.2.1,y.1.2.2.1,()),0,())
def jN:List A2→Comp A9:=fun x0=>(vP x0).bind fun x=>.pure (neI x.1 0,())
def JY:yZ×List A3×List Int×Unit→List Bool×List Bool×List A3×Unit→Comp A9:=fun x0 x1=>(Comp.gd (sel (sel (eqI (zF x1.1) (zF x0.2.1)) (eqI (zF x1.2.1) (zF x0.2.1)) false) (leI (zF x1.2.2.1) 24) false) (zG x1.2.2.1 fun (z:A11)=>jN z.1) (false,())).bind fun x=>.pure (sel (sel (sel (eqI (zF x1.1) (zF x0.2.1)) (eqI (zF x1.2.1) (zF x0.2.1)) false) (leI (zF x1.2.2.1) 24) false) (ntB x.1) false,())
def vw:Int→Comp A18:=fun x0=>jn (fun (x:Unit)=>jn (fun (x:A16)=>.pure (x,())) fun (j:List A3→Comp A18)=>if gtI (gi .i64 x0 0) 0=true then jn (fun (x:A16)=>j x) fun (j:List A3→Comp A18)=>((sub [] 0 0).bind fun (x:List Unit)=>.pure ()).bind fun x=>(mk (gi .i64 x0 0) []).bind fun zs=>(sub zs 0 0).bind fun ys=>j ys else j []) fun (j:Unit→Comp A18)=>if ltI x0 0=true then Comp.fail else j ()
def zY:List A16→Comp A18:=fun x0=>(Comp.loop (fun (x:A34)=>if ltI x.2 (zF x0)=true then (idx x0 x.2).bind fun a=>jn (fun (b:Unit)=>.pure (.next (zJ .i64 x.1 (zF a),zJ .i64 x.2 1))) fun (j:Unit→Comp (Comp.Step A34 Int))=>if ltI (zJ .i64 x.1 (zF a)) 0=true then Comp.fail else j () else .pure (.done x.1)) (0,0)).bind fun x=>(vw x).bind fun y=>(Comp.loop (fun (x:A21)=>if ltI x.2 (zF x0)=true then (idx x0 x.2).bind fun a=>(app x.1 a).bind fun zs=>.pure (.next (zs,zJ .i64 x.2 1)) else .pure (.done x.1)) (y.1,0)).bind fun x=>.pure (x,())
def j0:List Int→Comp A9:=fun x0=>(Comp.loop (fun (x:Int)=>if ltI x (zF x0)=true then (idx x0 x).bind fun a=>(idx x0 (gi .i64 x 1)).bind fun b=>if leI a b=true then .pure (.done (Sum.inr false)) else .pure (.next (zJ .i64 x 1)) else .pure (.done (Sum.inl ()))) 1).bind fun (x:A30)=>match x with
   |.inl x=>.pure (true,())
   |.inr x=>.pure (x,())
def Zo:List A5→Int→Comp A10:=fun x0 x1=>(idx x0 x1).bind fun x=>(zY [x.1,x.2.1]).bind fun y=>(Comp.loop (fun (a:Int)=>if ltI a (zF y.1)=true then (idx y.1 a).bind fun x=>(vP x).bind fun x=>if neI x.1 0=true then .pure (.done (Sum.inr x.1)) else .pure (.next (zJ .i64 a 1)) else .pure (.done (Sum.inl ()))) 0).bind fun (a:A26)=>match a with
     |.inl b=>if sel (ltI x.2.2.1 1) true (gtI x.2.2.1 1048576)=true then .pure (3,()) else (Comp.loop (fun (c:Int)=>if ltI c (zF x.2.2.2.1)=true then (idx x.2.2.2.1 c).bind fun d=>if sel (sel (ltI d 0) true (geI d (zF x0))) true (eqI d x1)=true then .pure (.done (Sum.inr 3)) else .pure (.next (zJ .i64 c 1)) else .pure (.done (Sum.inl ()))) 0).bind fun (c:A26)=>match c with
        |.inl d=>(j0 x.2.2.2.1).bind fun x=>if ntB x.1=true then .pure (7,()) else .pure (0,())
        |.inr x=>.pure (x,())
     |.inr x=>.pure (x,())
def kf:A8×A4×List A5×Unit→Comp A10:=fun x0=>(j3 x0.1).bind fun x=>if neI x.1 0=true then .pure (x.1,()) else (JY x0.1 x0.2.1).bind fun x=>if ntB x.1=true then .pure (4,()) else if gtI (zF x0.2.2.1) 8=true then .pure (2,()) else (Comp.loop (fun (x:A34)=>if ltI x.2 (zF x0.2.2.1)=true then (idx x0.2.2.1 x.2).bind fun a=>(Zo x0.2.2.1 x.2).bind fun b=>if neI b.1 0=true then .pure (.done (Sum.inr b.1)) else .pure (.next (zJ .i64 x.1 (zF a.1),zJ .i64 x.2 1)) else .pure (.done (Sum.inl x.1))) (zF x0.2.1.2.2.1,0)).bind fun (x:Int⊕Int)=>match x with
        |.inl x=>if gtI x 24=true then .pure (2,()) else .pure (0,())
        |.inr x=>.pure (x,())
def jU:List A3→Comp A10:=fun x0=>(Comp.loop (fun (x:Int)=>if ltI x (zF x0)=true then (idx x0 x).bind fun a=>(vP a).bind fun b=>if neI b.1 0=true then .pure (.done (Sum.inr b.1)) else .pure (.next (zJ .i64 x 1)) else .pure (.done (Sum.inl ()))) 0).bind fun (x:A26)=>match x with
   |.inl x=>.pure (0,())
   |.inr x=>.pure (x,())
def ZE:yZ×List A3×List Int×Unit→List Bool×List Bool×List A3×Unit→Comp A10:=fun x0 x1=>(j3 x0).bind fun x=>if neI x.1 0=true then .pure (x.1,()) else (Comp.gd (ntB (sel (sel (neI (zF x1.1) (zF x0.2.1)) true (neI (zF x1.2.1) (zF x0.2.1))) true (gtI (zF x1.2.2.1) 24))) (jU x1.2.2.1) (0,())).bind fun x=>if sel (sel (sel (neI (zF x1.1) (zF x0.2.1)) true (neI (zF x1.2.1) (zF x0.2.1))) true (gtI (zF x1.2.2.1) 24)) true (neI x.1 0)=true then .pure (4,()) else .pure (0,())
def yS:A8×A4×Unit→Int→Comp A9:=fun x0 x1=>(idx x0.1.2.2.1 x1).bind fun x=>(Comp.gd (eqI x 1) (idx x0.1.2.1 x1) []).bind fun a=>(Comp.gd (eqI x 1) (yU a x0.2.1.2.2.1) (false,())).bind fun b=>.pure (sel (eqI x 1) (ntB b.1) false,())
def yT:A8×A4×Unit→Int→Comp A9:=fun x0 x1=>(idx x0.1.2.2.1 x1).bind fun x=>(Comp.gd (eqI x 1) (idx x0.2.1.2.1 x1) false).bind fun a=>.pure (sel (eqI x 1) a false,())
def yq:A8×A4×Unit→Int→Comp A9:=fun x0 x1=>(idx x0.1.2.2.1 x1).bind fun x=>(Comp.gd (eqI x 2) (idx x0.2.1.1 x1) false).bind fun a=>.pure (sel (eqI x 2) (ntB a) false,())
def jV:yZ×List A3×List Int×Unit→List Bool×List Bool×List A3×Unit→Comp A10:=fun x0 x1=>(ZE x0 x1).bind fun x=>if neI x.1 0=true then .pure (x.1,()) else (Comp.loop (fun (a:Int)=>if ltI a (zF [(fun (z:A10)=>yS (x0,x1,()) z.1,35,()),(fun (z:A10)=>yT (x0,x1,()) z.1,30,()),(fun (z:A10)=>yq (x0,x1,()) z.1,34,())])=true then (idx [(fun (z:A10)=>yS (x0,x1,()) z.1,35,()),(fun (z:A10)=>yT (x0,x1,()) z.1,30,()),(fun (z:A10)=>yq (x0,x1,()) z.1,34,())] a).bind fun (x:(Int×Unit→Comp A9)×Int×Unit)=>(Comp.loop (fun (b:Int)=>if ltI b (zF x0.2.1)=true then (x.1 (b,())).bind fun c=>if c.1=true then .pure (.done (Sum.inr x.2.1)) else .pure (.next (zJ .i64 b 1)) else .pure (.done (Sum.inl ()))) 0).bind fun (x:A26)=>match x with
         |.inl x=>.pure (.next (zJ .i64 a 1))
         |.inr x=>.pure (.done (Sum.inr x)) else .pure (.done (Sum.inl ()))) 0).bind fun (x:A26)=>match x with
     |.inl x=>.pure (0,())
     |.inr x=>.pure (x,())
def gA:List A2→List A3→Comp A9:=fun x0 x1=>(yU x0 x1).bind fun x=>.pure (ntB x.1,())
def ZZ:A8×A4×List A5×Unit→Comp ((A17×List Bool×Unit)×Unit):=fun x0=>(Comp.loop (fun (x:Int×List A3)=>if ltI x.1 (zF x0.1.2.1)=true then (idx x0.1.2.1 x.1).bind fun a=>(idx x0.1.2.2.1 x.1).bind fun b=>jn (fun (c:A16)=>.pure (.next (zJ .i64 x.1 1,c))) fun (j:List A3→Comp (Comp.Step (Int×List A3) A16))=>if eqI b 1=true then (app x.2 [a]).bind fun zs=>j zs else j x.2 else .pure (.done x.2)) (0,[])).bind fun x=>(Comp.loop (fun (a:Int×A12×List Bool×Unit)=>if ltI a.1 (zF x0.2.2.1)=true then (idx x0.2.2.1 a.1).bind fun b=>(zG b.1 fun (z:A11)=>gA z.1 x).bind fun c=>(Comp.gd (ntB c.1) (zG b.2.1 fun (z:A11)=>gA z.1 x) (false,())).bind fun x=>(inb 8 a.1).bind fun d=>.pure (.next (zJ .i64 a.1 1,a.2.1,jZ a.2.2.1 a.1 (sel c.1 true x.1),())) else .pure (.done a.2)) (0,x0,[false,false,false,false,false,false,false,false],())).bind fun x=>.pure (x,())
def vz:List Bool→Comp A19:=fun x0=>(Comp.loop (fun (x:A44)=>if ltI x.2 8=true then (idx x0 x.2).bind fun a=>jn (fun (b:A15)=>.pure (.next (b,zJ .i64 x.2 1))) fun (j:List Int→Comp (Comp.Step A44 A15))=>if a=true then (app x.1 [x.2]).bind fun zs=>j zs else j x.1 else .pure (.done x.1)) ([],0)).bind fun x=>.pure (x,())
def yx:Int→List Bool→Comp A9:=fun x0 x1=>(idx x1 x0).bind fun x=>.pure (ntB x,())
def jz:A17×List Bool×Unit→List Bool→Comp A40:=fun x0 x1=>(Comp.loop (fun (x:Int×List Bool)=>if ltI x.1 (zF x0.1.2.2.1)=true then (idx x1 x.1).bind fun a=>(Comp.gd (ntB a) (idx x0.2.1 x.1) false).bind fun b=>(inb 8 x.1).bind fun c=>.pure (.next (zJ .i64 x.1 1,jZ x.2 x.1 (sel (ntB a) (ntB b) false))) else .pure (.done x.2)) (0,[false,false,false,false,false,false,false,false])).bind fun x=>(Comp.loop (fun (a:List Bool×List Bool)=>if ntB (eqA (fun (x b:Bool)=>eqB x b) a.1 a.2)=true then (vz a.2).bind fun y=>(Comp.loop (fun (b:Int×List Bool)=>if ltI b.1 (zF y.1)=true then (idx y.1 b.1).bind fun x=>(idx x0.1.2.2.1 x).bind fun c=>(zn c.2.2.2.1 fun (z:A10)=>yx z.1 b.2).bind fun d=>(inb 8 x).bind fun e=>.pure (.next (zJ .i64 b.1 1,jZ b.2 x (ntB d.1))) else .pure (.done b.2)) (0,a.2)).bind fun x=>.pure (.next (a.2,x)) else .pure (.done a.2)) ([false,false,false,false,false,false,false,false],x)).bind fun x=>.pure (x,())
def vf:A17×List Bool×Unit→List Bool→Comp A9:=fun x0 x1=>(Comp.loop (fun (x:Int×List Bool)=>if ltI x.1 (zF x0.1.2.2.1)=true then (idx x1 x.1).bind fun a=>(inb 8 x.1).bind fun b=>.pure (.next (zJ .i64 x.1 1,jZ x.2 x.1 (ntB a))) else .pure (.done x.2)) (0,[false,false,false,false,false,false,false,false])).bind fun x=>(jz x0 x).bind fun x=>.pure (eqA (fun (x a:Bool)=>eqB x a) x.1 x1,())
def zl:List A3→Comp A18:=fun x0=>amb (K3 x0) (Comp.pure ([],())) ((app [] x0).bind fun zs=>.pure (zs,()))
def ya:List A2→List A2→Comp A9:=fun x0 x1=>(j7 x0 x1).bind fun x=>.pure (x.1,())
def zq:List A3→A35→Comp A16:=fun xs x0=>(yO xs x0).bind fun x=>if eqI x.1 (-1)=true then .pure xs else (Comp.loop (fun (x:List A3×Int×Int)=>if ltI x.2.2 (zF x.1)=true then (idx x.1 x.2.2).bind fun a=>(x0 (a,())).bind fun b=>jn (fun (c:A21)=>.pure (.next (c.1,c.2,zJ .i64 x.2.2 1))) fun (j:List A3×Int→Comp (Comp.Step (List A3×Int×Int) A21))=>if ntB b.1=true then (inb x.1.length x.2.1).bind fun c=>j (jZ x.1 x.2.1 a,zJ .i64 x.2.1 1) else j (x.1,x.2.1) else .pure (.done (x.1,x.2.1))) (xs,x.1,zJ .i64 x.1 1)).bind fun x=>((sub x.1 x.2 (zF x.1)).bind fun x=>.pure ()).bind fun a=>(sub x.1 (Int.ofNat x.2.toNat) (zF x.1)).bind fun b=>jn (fun (x:A16)=>.pure x) fun (j:List A3→Comp A16)=>(sub (List.take x.2.toNat x.1++List.replicate (x.1.length.sub x.2.toNat) []) 0 x.2).bind fun ys=>j ys
def Yy:List A3→Comp A10:=fun x0=>if gtI (zF x0) 16=true then .pure (2,()) else (Comp.loop (fun (x:Int)=>if ltI x (zF x0)=true then (idx x0 x).bind fun a=>(vP a).bind fun b=>if neI b.1 0=true then .pure (.done (Sum.inr b.1)) else .pure (.next (zJ .i64 x 1)) else .pure (.done (Sum.inl ()))) 0).bind fun (x:A26)=>match x with
    |.inl x=>.pure (0,())
    |.inr x=>.pure (x,())
def Y4:List A2→Comp A38:=fun x0=>(Zc [x0]).bind fun x=>if ntB x.1=true then .pure ([],()) else (cell_of [x0]).bind fun y=>(vo y.1).bind fun y=>.pure (y.1,())
def kD:A1×Int×Unit→List A7→Comp A9:=fun x0 x1=>(Comp.loop (fun (x:A34)=>if ltI x.2 (zF x1)=true then (idx x1 x.2).bind fun a=>(Zg x0 a).bind fun b=>jn (fun (c:Int)=>.pure (.next (c,zJ .i64 x.2 1))) fun (j:Int→Comp (Comp.Step A34 Int))=>if eqI b.1 0=true then j (zJ .i64 x.1 1) else j x.1 else .pure (.done x.1)) (0,0)).bind fun x=>.pure (ltI x 3,())
def yH:List A2→A27→Comp A3:=fun xs x0=>(yN xs x0).bind fun x=>if eqI x.1 (-1)=true then .pure xs else (Comp.loop (fun (x:List A2×Int×Int)=>if ltI x.2.2 (zF x.1)=true then (idx x.1 x.2.2).bind fun a=>(x0 (a,())).bind fun b=>jn (fun (c:A32)=>.pure (.next (c.1,c.2,zJ .i64 x.2.2 1))) fun (j:List A2×Int→Comp (Comp.Step (List A2×Int×Int) A32))=>if ntB b.1=true then (inb x.1.length x.2.1).bind fun c=>j (jZ x.1 x.2.1 a,zJ .i64 x.2.1 1) else j (x.1,x.2.1) else .pure (.done (x.1,x.2.1))) (xs,x.1,zJ .i64 x.1 1)).bind fun x=>((sub x.1 x.2 (zF x.1)).bind fun x=>.pure ()).bind fun a=>(sub x.1 (Int.ofNat x.2.toNat) (zF x.1)).bind fun b=>jn (fun (x:A3)=>.pure x) fun (j:List A2→Comp A3)=>(sub (List.take x.2.toNat x.1++List.replicate (x.1.length.sub x.2.toNat) ((0,0,0,()),0,())) 0 x.2).bind fun ys=>j ys
def yB:List A2→(A2×A2×Unit→Comp A10)→Comp A3:=CT
def Zm:Int→Int→Comp A10:=fun x0 x1=>if ltI x0 x1=true then .pure (-1,()) else if gtI x0 x1=true then .pure (1,()) else .pure (0,())
def kP:A1×Int×Unit→A1×Int×Unit→Comp A10:=fun x0 x1=>(Comp.loop (fun (x:A34)=>if ltI x.2 (zF [[x0.1.1,x1.1.1],[x0.1.2.1,x1.1.2.1],[x0.1.2.2.1,x1.1.2.2.1],[x0.2.1,x1.2.1]])=true then (idx [[x0.1.1,x1.1.1],[x0.1.2.1,x1.1.2.1],[x0.1.2.2.1,x1.1.2.2.1],[x0.2.1,x1.2.1]] x.2).bind fun a=>(idx a 0).bind fun b=>(idx a 1).bind fun c=>(Zm b c).bind fun d=>if eqI d.1 0=true then .pure (.next (d.1,zJ .i64 x.2 1)) else .pure (.done d.1) else .pure (.done x.1)) (0,0)).bind fun x=>.pure (x,())
def yC:List A2→Comp A3:=fun xs=>if ltI (zF xs) 2=true then .pure xs else (Comp.loop (fun (x:A32)=>if ltI x.2 (zF x.1)=true then (idx x.1 x.2).bind fun a=>(idx x.1 (gi .i64 x.2 1)).bind fun b=>if adB (adB (eqI a.1.1 b.1.1) (adB (eqI a.1.2.1 b.1.2.1) (eqI a.1.2.2.1 b.1.2.2.1))) (eqI a.2.1 b.2.1)=true then ((sub x.1 x.2 (zF x.1)).bind fun x=>.pure ()).bind fun c=>(Comp.loop (fun (d:List A2×Int×Int)=>if ltI d.2.2 (zF (List.drop x.2.toNat d.1))=true then (idx (List.drop x.2.toNat d.1) d.2.2).bind fun e=>(idx (List.drop x.2.toNat d.1) (gi .i64 d.2.2 1)).bind fun f=>jn (fun (x:A32)=>.pure (.next (x.1,x.2,zJ .i64 d.2.2 1))) fun (j:List A2×Int→Comp (Comp.Step (List A2×Int×Int) A32))=>if ntB (adB (adB (eqI e.1.1 f.1.1) (adB (eqI e.1.2.1 f.1.2.1) (eqI e.1.2.2.1 f.1.2.2.1))) (eqI e.2.1 f.2.1))=true then (idx (List.drop x.2.toNat d.1) d.2.2).bind fun x=>(inb d.1.length d.2.1).bind fun g=>j (jZ d.1 d.2.1 x,zJ .i64 d.2.1 1) else j (d.1,d.2.1) else .pure (.done (d.1,d.2.1))) (x.1,x.2,1)).bind fun x=>((sub x.1 x.2 (zF x.1)).bind fun x=>.pure ()).bind fun d=>(sub x.1 (Int.ofNat x.2.toNat) (zF x.1)).bind fun e=>jn (fun (x:A3)=>.pure (.done (Sum.inr x))) fun (j:List A2→Comp (Comp.Step A32 (List A2⊕List A2)))=>(sub (List.take x.2.toNat x.1++List.replicate (x.1.length.sub x.2.toNat) ((0,0,0,()),0,())) 0 x.2).bind fun ys=>j ys else .pure (.next (x.1,zJ .i64 x.2 1)) else .pure (.done (Sum.inl x.1))) (xs,1)).bind fun (x:List A2⊕List A2)=>match x with
    |.inl x=>.pure x
    |.inr x=>.pure x
def ga:List A2→Comp A11:=fun x0=>(kG x0).bind fun x=>if ntB x.1=true then .pure ([],()) else (Y4 x0).bind fun y=>(zU x0).bind fun y_1=>(yH y_1.1 fun (z:A2×Unit)=>kD z.1 y.1).bind fun ys=>(yB ys fun (z:A2×A2×Unit)=>kP z.1 z.2.1).bind fun ys=>(yC ys).bind fun ys=>.pure (ys,())
def wI:Int×Int×Int×Unit→Int×Int×Int×Unit→Comp A29:=fun x0 x1=>.pure ((gi .i64 x0.1 x1.1,gi .i64 x0.2.1 x1.2.1,gi .i64 x0.2.2.1 x1.2.2.1,()),())
def Ye:A1×Int×Unit→Comp (A2×Unit):=fun x0=>(wI (0,0,0,()) x0.1).bind fun x=>.pure ((x.1,Yl .i64 x0.2.1,()),())
def jw:List A2→List A2→Comp (List A43):=fun x0 x1=>((YF (fun (x:A32)=>if ltI x.2 (zF x1)=true then (idx x1 x.2).bind fun a=>if geI (zF x.1) 48=true then tell [(none,())] (Comp.pure ([],.done (Sum.inr ()))) else (Ye a).bind fun b=>(zQ [x.1,[b.1]]).bind fun y=>(ga y.1).bind fun y_1=>if gtI (zF y_1.1) 0=true then tell [(some y_1.1,())] ((zQ [x.1,[a]]).bind fun y=>(ga y.1).bind fun y=>.pure ([],.next (y.1,zJ .i64 x.2 1))) else (zQ [x.1,[a]]).bind fun y=>(ga y.1).bind fun y=>.pure ([],.next (y.1,zJ .i64 x.2 1)) else .pure ([],.done (Sum.inl ()))) (x0,0)).bind fun (p:List A43×(Unit⊕Unit))=>tell p.1 (match p.2 with
    |.inl x=>.pure ([],())
    |.inr x=>.pure ([],()))).bind fun (p:List A43×Unit)=>.pure p.1
def Zl:List A2→List A2→Comp (Comp (List A43)×Unit):=fun x0 x1=>.pure (jw x0 x1,())
def kO:List A3→List A2→Comp A22:=fun x0 x1=>(kG x1).bind fun x=>if ntB x.1=true then .pure (x0,0,()) else (ga x1).bind fun y=>(Comp.loop (fun (x:Int×List A3×Int×List A3)=>if ltI x.1 (zF x0)=true then jn (fun (a:List A3×Int×List A3)=>.pure (.next (zJ .i64 x.1 1,a.1,a.2.1,a.2.2))) fun (j:List A3×Int×List A3→Comp (Comp.Step (Int×List A3×Int×List A3) (List A3×Int×List A3⊕List A3×Int)))=>(idx x0 x.1).bind fun a=>(j7 a x1).bind fun b=>if b.1=true then (app x.2.2.2 [a]).bind fun zs=>j (x.2.1,x.2.2.1,zs) else (Zl a y.1).bind fun (c:Comp (List A43)×Unit)=>c.1.bind fun xs=>(wA (fun (x:List A3×Int×List A3) (d:A43)=>match d.1 with
                |none=>.pure (.done ([],Int.ofNat 9))
                |some xs=>amb (K3 xs) (Comp.pure (.done ([],Int.ofNat 9))) ((app x.2.2 [xs]).bind fun zs=>.pure (.next (x.1,x.2.1,zs)))) xs (x.2.1,x.2.2.1,x.2.2.2)).bind fun (r:Comp.Step (List A3×Int×List A3) A21)=>match r with
               |.next x=>j (x.1,x.2.1,x.2.2)
               |.done e=>.pure (.done (Sum.inr (e.1,e.2))) else .pure (.done (Sum.inl (x.2.1,x.2.2.1,x.2.2.2)))) (0,[],0,[])).bind fun (a:List A3×Int×List A3⊕List A3×Int)=>match a with
      |.inl b=>if gtI (zF b.2.2) 200=true then .pure ([],9,()) else .pure (b.2.2,0,())
      |.inr x=>.pure (x.1,x.2,())
def Yx:List A2→List A3→Comp A22:=fun x0 x1=>(vP x0).bind fun x=>if neI x.1 0=true then .pure ([],x.1,()) else (Yy x1).bind fun x=>if neI x.1 0=true then .pure ([],x.1,()) else (kG x0).bind fun x=>if ntB x.1=true then .pure ([],0,()) else (ga x0).bind fun y=>(Comp.loop (fun (x:A21)=>if ltI x.2 (zF x1)=true then (idx x1 x.2).bind fun a=>(kO x.1 a).bind fun b=>if neI b.2.1 0=true then .pure (.done (Sum.inr ([],b.2.1))) else .pure (.next (b.1,zJ .i64 x.2 1)) else .pure (.done (Sum.inl x.1))) ([y.1],0)).bind fun (x:A36)=>match x with
          |.inl x=>.pure (x,0,())
          |.inr x=>.pure (x.1,x.2,())
def gY:List A3→List A2→Comp A28:=fun x0 x1=>(Yx x1 x0).bind fun x=>.pure (sel (eqI x.2.1 0) (eqI (zF x.1) 0) false,x.2.1,())
def vG:A17×List Bool×Unit→List Bool→Comp A28:=fun x0 x1=>(zl x0.1.2.1.2.2.1).bind fun y=>(vz x1).bind fun y_1=>(Comp.loop (fun (x:A21)=>if ltI x.2 (zF y_1.1)=true then (idx y_1.1 x.2).bind fun a=>(idx x0.1.2.2.1 a).bind fun b=>(app x.1 b.1).bind fun zs=>.pure (.next (zs,zJ .i64 x.2 1)) else .pure (.done x.1)) (y.1,0)).bind fun x=>(Comp.loop (fun (a:Int)=>if ltI a (zF x0.1.1.2.1)=true then jn (fun (x:Unit)=>.pure (.next (zJ .i64 a 1))) fun (j:Unit→Comp (Comp.Step Int (Unit⊕Bool×Int)))=>(idx x0.1.1.2.1 a).bind fun b=>(idx x0.1.1.2.2.1 a).bind fun c=>(Comp.gd (ntB (neI c 2)) (idx x0.1.2.1.1 a) false).bind fun d=>if sel (neI c 2) true d=true then j () else (zl x).bind fun y=>(zq y.1 fun (z:A11)=>ya z.1 b).bind fun ys=>(gY ys b).bind fun x=>if ntB x.1=true then .pure (.done (Sum.inr (false,x.2.1))) else j () else .pure (.done (Sum.inl ()))) 0).bind fun (x:Unit⊕Bool×Int)=>match x with
      |.inl x=>.pure (true,0,())
      |.inr x=>.pure (x.1,x.2,())
def jE:A17×List Bool×Unit→List Bool→Comp A10:=fun x0 x1=>(vz x1).bind fun y=>(Comp.loop (fun (x:A34)=>if ltI x.2 (zF y.1)=true then (idx y.1 x.2).bind fun a=>(idx x0.1.2.2.1 a).bind fun b=>.pure (.next (zJ .i64 x.1 b.2.2.1,zJ .i64 x.2 1)) else .pure (.done x.1)) (0,0)).bind fun x=>.pure (x,())
def Yb(recF:Int→List Bool→A17×List Bool×Unit→Int→List Bool→Comp (Sum Int (Int×List Bool×Unit))):Int→List Bool→A17×List Bool×Unit→Int→List Bool→Comp (Sum Int (Int×List Bool×Unit)):=fun x0 x1 c0 y0 y1=>(vf c0 x1).bind fun x=>jn (fun (x:Int×List Bool)=>(Comp.loop (fun (x:Int×Int×List Bool)=>if ltI x.1 (zF c0.1.2.2.1)=true then (inb 8 x.1).bind fun a=>(recF (zJ .i64 x.1 1) (jZ x1 x.1 true) c0 x.2.1 x.2.2).bind fun (r:Int⊕Int×List Bool×Unit)=>match r with
          |.inl z=>.pure (.done (Sum.inr z))
          |.inr y=>.pure (.next (zJ .i64 x.1 1,y.1,y.2.1)) else .pure (.done (Sum.inl (x.2.1,x.2.2)))) (x0,x.1,x.2)).bind fun (x:Int×List Bool⊕Int)=>match x with
      |.inl x=>.pure (Sum.inr (x.1,x.2,()))
      |.inr x=>.pure (Sum.inl x)) fun (j:Int×List Bool→Comp (Int⊕Int×List Bool×Unit))=>if x.1=true then (vG c0 x1).bind fun x=>if neI x.2.1 0=true then .pure (Sum.inl x.2.1) else (jE c0 x1).bind fun a=>jn (fun (x:Int×List Bool)=>j (x.1,x.2)) fun (j:Int×List Bool→Comp (Int⊕Int×List Bool×Unit))=>if sel x.1 (sel (ltI y0 0) true (ltI a.1 y0)) false=true then j (a.1,x1) else j (y0,y1) else j (y0,y1)
def YI:Nat→Int→List Bool→A17×List Bool×Unit→Int→List Bool→Comp (Sum Int (Int×List Bool×Unit)):=Sc (fun _ _ _ _ _=>Comp.fail) Yb
def jO:A17×List Bool×Unit→List Bool→List Bool→Comp A9:=fun x0 x1 x2=>(jz x0 x2).bind fun x=>(vz x1).bind fun y=>(Comp.loop (fun (a:Int)=>if ltI a (zF y.1)=true then (idx y.1 a).bind fun b=>(idx x.1 b).bind fun c=>if ntB c=true then .pure (.done (Sum.inr true)) else .pure (.next (zJ .i64 a 1)) else .pure (.done (Sum.inl ()))) 0).bind fun (a:A30)=>match a with
     |.inl b=>(vG x0 x.1).bind fun x=>.pure (sel (eqI x.2.1 0) (ntB x.1) false,())
     |.inr x=>.pure (x,())
def kH(recF:Int→List Bool→List Bool→Int→A17×List Bool×Unit→List A14→Comp (Sum Unit (List A14×Unit))):Int→List Bool→List Bool→Int→A17×List Bool×Unit→List A14→Comp (Sum Unit (List A14×Unit)):=fun x0 x1 x2 c0 c1 y0=>(Comp.gd (gtI c0 0) (jE c1 x1) (0,())).bind fun x=>jn (fun (x:List A14)=>.pure (Sum.inr (x,()))) fun (j:List A14→Comp (Unit⊕List A14×Unit))=>if sel (gtI c0 0) (geI x.1 c0) false=true then (app y0 [(2,0,())]).bind fun zs=>j zs else (Comp.gd (ntB (geI x0 (zF c1.1.2.2.1))) (jO c1 x1 x2) (false,())).bind fun x=>jn (fun (x:List A14)=>j x) fun (j:List A14→Comp (Unit⊕List A14×Unit))=>if sel (geI x0 (zF c1.1.2.2.1)) true x.1=true then (app y0 [(3,0,())]).bind fun zs=>j zs else (app y0 [(1,x0,())]).bind fun zs=>(inb 8 x0).bind fun x=>(inb 8 x0).bind fun x=>(recF (zJ .i64 x0 1) (jZ x1 x0 true) x2 c0 c1 zs).bind fun (r:Unit⊕List A14×Unit)=>match r with
            |.inl z=>.pure (Sum.inl z)
            |.inr y=>(recF (zJ .i64 x0 1) x1 (jZ x2 x0 true) c0 c1 y.1).bind fun (r:Unit⊕List A14×Unit)=>match r with
              |.inl z=>.pure (Sum.inl z)
              |.inr y=>j y.1
def ji:Nat→Int→List Bool→List Bool→Int→A17×List Bool×Unit→List A14→Comp (Sum Unit (List A14×Unit)):=Sc (fun _ _ _ _ _ _=>Comp.fail) kH
def jy:A17×List Bool×Unit→Int→Comp (List A14×Unit):=fun x0 x1=>(ji 40 0 [false,false,false,false,false,false,false,false] [false,false,false,false,false,false,false,false] x1 x0 []).bind fun (r:Unit⊕List A14×Unit)=>match r with
   |.inl z=>Comp.fail
   |.inr y=>.pure (y.1,())
def JZ:A8×A4×List A5×Unit→Comp A23:=fun x0=>(kf x0).bind fun x=>if neI x.1 0=true then .pure ([],0,[],x.1,()) else (ZZ x0).bind fun (x:(A12×List Bool×Unit)×Unit)=>(YI 40 0 [false,false,false,false,false,false,false,false] x.1 (Int.negSucc 0) [false,false,false,false,false,false,false,false]).bind fun (r:Int⊕Int×List Bool×Unit)=>match r with
      |.inl z=>jn (fun (x:A42)=>.pure (x.1,x.2.1,x.2.2.1,x.2.2.2,())) fun (j:A33)=>j ([],0,[],z)
      |.inr y=>if eqI y.1 (-1)=true then (jy x.1 (Int.ofNat 0)).bind fun y=>jn (fun (x:A42)=>.pure (x.1,x.2.1,x.2.2.1,x.2.2.2,())) fun (j:A33)=>j ([],0,y.1,Int.ofNat 60) else if eqI y.1 0=true then jn (fun (x:A42)=>.pure (x.1,x.2.1,x.2.2.1,x.2.2.2,())) fun (j:A33)=>j ([],0,[],Int.ofNat 0) else (vz y.2.1).bind fun y_1=>(jy x.1 y.1).bind fun y_2=>jn (fun (x:A42)=>.pure (x.1,x.2.1,x.2.2.1,x.2.2.2,())) fun (j:A33)=>j (y_1.1,y.1,y_2.1,Int.ofNat 0)
def Yk:A8×A4×List A5×Unit→List Int→Comp A39:=fun x0 x1=>(gX (x0.1,()) x1).bind fun y=>(kf ((y.1.1,y.1.2.1,y.1.2.2.1,()),x0.2.1,x0.2.2.1,())).bind fun x=>if neI x.1 0=true then .pure ([],0,x.1,()) else (jV (y.1.1,y.1.2.1,y.1.2.2.1,()) x0.2.1).bind fun a=>if (match match eqI a.1 (Int.ofNat 35) with
        |true=>some true
        |false=>match eqI a.1 (Int.ofNat 30) with
         |true=>some true
         |false=>none with
        |some x=>x
        |none=>false)=true then .pure ([],0,a.1,()) else (JZ ((y.1.1,y.1.2.1,y.1.2.2.1,()),x0.2.1,x0.2.2.1,())).bind fun x=>if neI x.2.2.2.1 0=true then .pure ([],0,x.2.2.2.1,()) else .pure (x.1,x.2.1,0,())
def vY:List Int→List Int→Comp A9:=fun x0 x1=>if neI (zF x0) (zF x1)=true then .pure (false,()) else (Comp.loop (fun (x:Int)=>if ltI x (zF x0)=true then (idx x0 x).bind fun a=>(idx x1 x).bind fun b=>if neI a b=true then .pure (.done (Sum.inr false)) else .pure (.next (zJ .i64 x 1)) else .pure (.done (Sum.inl ()))) 0).bind fun (x:A30)=>match x with
    |.inl x=>.pure (true,())
    |.inr x=>.pure (x,())
def zS:A8×A4×List A5×Unit→List Int→Int→Int→List Int→Comp A9:=fun x0 x1 x2 x3 x4=>(Yk x0 x1).bind fun x=>(Comp.gd (sel (eqI x.2.2.1 x3) (eqI x.2.1 x2) false) (vY x.1 x4) (false,())).bind fun a=>.pure (sel (sel (eqI x.2.2.1 x3) (eqI x.2.1 x2) false) a.1 false,())
def yD:Int×Int×Int×Unit→Comp A19:=fun x0=>.pure ([x0.1,x0.2.1,x0.2.2.1],())
def vX:Int→Comp A10:=fun x0=>if ltI x0 0=true then .pure (Yl .i64 x0,()) else .pure (x0,())
def jB:Int×Int×Int×Unit→Comp A2:=fun x0=>(yD x0).bind fun x=>(Comp.loop (fun (a:Int×Int×Int×Int×Int×Unit)=>if ltI a.2.1 3=true then (idx x.1 a.2.1).bind fun b=>if eqI b (-9223372036854775808)=true then .pure (.done (Sum.inr (0,0,0,0,()))) else (idx x.1 a.2.1).bind fun x=>(vX x).bind fun x=>(Comp.loop (fun (x:A34)=>if gtI x.2 0=true then (rem x.1 x.2).bind fun c=>.pure (.next (x.2,c)) else .pure (.done x.1)) (a.1,x.1)).bind fun x=>.pure (.next (x,zJ .i64 a.2.1 1,a.2.2)) else .pure (.done (Sum.inl (a.1,a.2.2)))) (0,0,0,0,0,())).bind fun (x:Int×Int×Int×Int×Unit⊕Int×Int×Int×Int×Unit)=>match x with
    |.inl x=>if eqI x.1 0=true then .pure ((0,0,0,()),0,()) else (quo .i64 x0.1 x.1).bind fun a=>(quo .i64 x0.2.1 x.1).bind fun b=>(quo .i64 x0.2.2.1 x.1).bind fun c=>.pure ((a,b,c,()),x.1,())
    |.inr x=>.pure (x.2,x.1,())
def gW:A1×Int×Unit→Comp A9:=fun x0=>(yD x0.1).bind fun x=>(Comp.loop (fun (a:Int)=>if ltI a 3=true then (idx x.1 a).bind fun b=>(Comp.gd (ntB (ltI b (-4608))) (idx x.1 a) (Int.ofNat 0)).bind fun c=>if sel (ltI b (-4608)) true (gtI c 4608)=true then .pure (.done (Sum.inr false)) else .pure (.next (zJ .i64 a 1)) else .pure (.done (Sum.inl ()))) 0).bind fun (x:A30)=>match x with
    |.inl x=>(jB x0.1).bind fun x=>.pure (sel (sel (eqI x.2.1 1) (geI x0.2.1 (-2097152)) false) (leI x0.2.1 2097152) false,())
    |.inr x=>.pure (x,())
def zd:List A2→Comp A10:=fun x0=>if gtI (zF x0) 48=true then .pure (2,()) else (Comp.loop (fun (x:Int)=>if ltI x (zF x0)=true then (idx x0 x).bind fun a=>(gW a).bind fun b=>if ntB b.1=true then .pure (.done (Sum.inr 12)) else .pure (.next (zJ .i64 x 1)) else .pure (.done (Sum.inl ()))) 0).bind fun (x:A26)=>match x with
    |.inl x=>.pure (0,())
    |.inr x=>.pure (x,())
def gO:List A2→Comp A11:=fun x0=>(app [] x0).bind fun zs=>(zw (-24, -24, -24,()) (24,24,24,())).bind fun x=>(app zs x.1).bind fun zs=>.pure (zs,())
def vh:Int×Int×Int×Unit→Int×Int×Int×Unit→Comp A29:=fun x0 x1=>.pure ((gi .i64 (ki .i64 x0.2.1 x1.2.2.1) (ki .i64 x0.2.2.1 x1.2.1),gi .i64 (ki .i64 x0.2.2.1 x1.1) (ki .i64 x0.1 x1.2.2.1),gi .i64 (ki .i64 x0.1 x1.2.1) (ki .i64 x0.2.1 x1.1),()),())
def YC:Int×Int×Int×Unit→Int×Int×Int×Unit→Comp A10:=fun x0 x1=>.pure (zJ .i64 (zJ .i64 (ki .i64 x0.1 x1.1) (ki .i64 x0.2.1 x1.2.1)) (ki .i64 x0.2.2.1 x1.2.2.1),())
def yi:Int×Int×Int×Unit→Int→Comp A29:=fun x0 x1=>.pure ((ki .i64 x0.1 x1,ki .i64 x0.2.1 x1,ki .i64 x0.2.2.1 x1,()),())
def kU:Int×Int×Int×Unit→Int×Int×Int×Unit→Comp A29:=fun x0 x1=>.pure ((zJ .i64 x0.1 x1.1,zJ .i64 x0.2.1 x1.2.1,zJ .i64 x0.2.2.1 x1.2.2.1,()),())
def zz:Int→Int→Comp A10:=fun x0 x1=>(Comp.loop (fun (x:A34)=>if neI x.2 0=true then (rem x.1 x.2).bind fun a=>.pure (.next (x.2,a)) else .pure (.done x.1)) (x0,x1)).bind fun x=>.pure (x,())
def vJ:A1×Int×Unit→A1×Int×Unit→A1×Int×Unit→Comp (A7×Bool×Unit):=fun x0 x1 x2=>(vh x1.1 x2.1).bind fun x=>(YC x0.1 x.1).bind fun x=>if eqI x.1 0=true then .pure ((0,0,0,0,()),false,()) else (vh x1.1 x2.1).bind fun a=>(yi a.1 x0.2.1).bind fun b=>(vh x2.1 x0.1).bind fun c=>(yi c.1 x1.2.1).bind fun d=>(kU b.1 d.1).bind fun e=>(vh x0.1 x1.1).bind fun f=>(yi f.1 x2.2.1).bind fun g=>(kU e.1 g.1).bind fun h=>jn (fun (x:A7)=>(zz (rW x.2.1 (Yl .i64 x.2.1)) (rW x.2.2.1 (Yl .i64 x.2.2.1))).bind fun i=>(zz (rW x.2.2.2.1 (Yl .i64 x.2.2.2.1)) x.1).bind fun k=>(zz i.1 k.1).bind fun l=>(quo .i64 x.2.1 l.1).bind fun m=>(quo .i64 x.2.2.1 l.1).bind fun n=>(quo .i64 x.2.2.2.1 l.1).bind fun o=>(quo .i64 x.1 l.1).bind fun x=>.pure ((m,n,o,x,()),true,())) fun (j:Int×Int×Int×Int×Unit→Comp (A7×Bool×Unit))=>if ltI x.1 0=true then (yi h.1 (Int.negSucc 0)).bind fun i=>j (Yl .i64 x.1,i.1) else j (x.1,h.1)
def zj:A1×Int×Unit→Int×Int×Int×Int×Unit→Comp A10:=fun x0 x1=>.pure (gi .i64 (gi .i64 (gi .i64 (ki .i64 x0.2.1 x1.2.2.2.1) (ki .i64 x0.1.1 x1.1)) (ki .i64 x0.1.2.1 x1.2.1)) (ki .i64 x0.1.2.2.1 x1.2.2.1),())
def gH:List A2→Int×Int×Int×Int×Unit→Comp A9:=fun x0 x1=>(Comp.loop (fun (x:Int)=>if ltI x (zF x0)=true then (idx x0 x).bind fun a=>(zj a x1).bind fun b=>if ltI b.1 0=true then .pure (.done (Sum.inr false)) else .pure (.next (zJ .i64 x 1)) else .pure (.done (Sum.inl ()))) 0).bind fun (x:A30)=>match x with
   |.inl x=>.pure (true,())
   |.inr x=>.pure (x,())
def y4:List A7→Int×Int×Int×Int×Unit→Comp A9:=fun x0 x1=>(Comp.loop (fun (x:Int)=>if ltI x (zF x0)=true then (idx x0 x).bind fun a=>if adB (eqI a.1 x1.1) (adB (eqI a.2.1 x1.2.1) (adB (eqI a.2.2.1 x1.2.2.1) (eqI a.2.2.2.1 x1.2.2.2.1)))=true then .pure (.done (Sum.inr true)) else .pure (.next (zJ .i64 x 1)) else .pure (.done (Sum.inl ()))) 0).bind fun (x:A30)=>match x with
   |.inl x=>.pure (false,())
   |.inr x=>.pure (x,())
def vn:List A2→Comp A38:=fun x0=>(Comp.loop (fun (x:List A7×Int)=>if ltI x.2 (zF x0)=true then (Comp.loop (fun (a:List A7×Int)=>if ltI a.2 (zF x0)=true then (Comp.loop (fun (b:List A7×Int)=>if ltI b.2 (zF x0)=true then (idx x0 x.2).bind fun x=>(idx x0 a.2).bind fun c=>(idx x0 b.2).bind fun d=>(vJ x c d).bind fun x=>(Comp.gd x.2.1 (gH x0 x.1) (false,())).bind fun e=>(Comp.gd (sel x.2.1 e.1 false) (y4 b.1 x.1) (false,())).bind fun f=>jn (fun (x:List A7)=>.pure (.next (x,zJ .i64 b.2 1))) fun (j:List A7→Comp (Comp.Step (List A7×Int) (List A7)))=>if sel (sel x.2.1 e.1 false) (ntB f.1) false=true then (app b.1 [x.1]).bind fun zs=>j zs else j b.1 else .pure (.done b.1)) (a.1,zJ .i64 a.2 1)).bind fun x=>.pure (.next (x,zJ .i64 a.2 1)) else .pure (.done a.1)) (x.1,zJ .i64 x.2 1)).bind fun a=>.pure (.next (a,zJ .i64 x.2 1)) else .pure (.done x.1)) ([],0)).bind fun x=>.pure (x,())
def jA:List A2→Comp A9:=fun x0=>(vn x0).bind fun y=>(Comp.loop (fun (x:Int)=>if ltI x (zF x0)=true then (Comp.loop (fun (a:Bool×Int)=>if ltI a.2 (zF y.1)=true then (Comp.gd (ntB a.1) (idx x0 x) ((0,0,0,()),0,())).bind fun x=>(Comp.gd (ntB a.1) (idx y.1 a.2) (0,0,0,0,())).bind fun b=>(Comp.gd (ntB a.1) (zj x b) (0,())).bind fun x=>.pure (.next (sel a.1 true (gtI x.1 0),zJ .i64 a.2 1)) else .pure (.done a.1)) (false,0)).bind fun a=>if ntB a=true then .pure (.done (Sum.inr false)) else .pure (.next (zJ .i64 x 1)) else .pure (.done (Sum.inl ()))) 0).bind fun (x:A30)=>match x with
    |.inl x=>.pure (true,())
    |.inr x=>.pure (x,())
def yA:List A2→Comp A9:=fun x0=>jn (fun (x:Bool)=>.pure (x,())) fun (j:Bool→Comp A9)=>(zd x0).bind fun x=>if eqI x.1 0=true then (gO x0).bind fun y=>(jA y.1).bind fun x=>j x.1 else j false
def zh:List A2→List A2→Comp A9:=fun x0 x1=>(zd x0).bind fun x=>(Comp.gd (ntB (neI x.1 0)) (zd x1) (0,())).bind fun a=>if sel (neI x.1 0) true (neI a.1 0)=true then .pure (true,()) else (app [] x0).bind fun zs=>(app zs x1).bind fun zs=>(gO zs).bind fun y=>(jA y.1).bind fun x=>.pure (ntB x.1,())
def gU:yZ×List A3×List Int×Unit→Comp A10:=fun x0=>if sel (ltI (zF x0.2.1) 1) true (gtI (zF x0.2.1) 16)=true then .pure (2,()) else if neI (zF x0.2.2.1) (zF x0.2.1)=true then .pure (1,()) else (Comp.loop (fun (x:Int)=>if ltI x (zF x0.2.2.1)=true then (idx x0.2.2.1 x).bind fun a=>(Comp.gd (ntB (ltI a 1)) (idx x0.2.2.1 x) (Int.ofNat 0)).bind fun b=>if sel (ltI a 1) true (gtI b 3)=true then .pure (.done (Sum.inr 1)) else .pure (.next (zJ .i64 x 1)) else .pure (.done (Sum.inl ()))) 0).bind fun (x:A26)=>match x with
     |.inl x=>(Comp.loop (fun (x:Int)=>if ltI x (zF x0.2.1)=true then (idx x0.2.1 x).bind fun a=>(yA a).bind fun b=>if ntB b.1=true then .pure (.done (Sum.inr 13)) else (Comp.loop (fun (c:Int)=>if ltI c x=true then (idx x0.2.1 c).bind fun d=>(idx x0.2.1 x).bind fun x=>(zh d x).bind fun x=>if ntB x.1=true then .pure (.done (Sum.inr 13)) else .pure (.next (zJ .i64 c 1)) else .pure (.done (Sum.inl ()))) 0).bind fun (c:A26)=>match c with
             |.inl d=>.pure (.next (zJ .i64 x 1))
             |.inr x=>.pure (.done (Sum.inr x)) else .pure (.done (Sum.inl ()))) 0).bind fun (x:A26)=>match x with
       |.inl x=>.pure (0,())
       |.inr x=>.pure (x,())
     |.inr x=>.pure (x,())
def yb:List A3→Comp A10:=fun x0=>(Comp.loop (fun (x:Int)=>if ltI x (zF x0)=true then (idx x0 x).bind fun a=>(zd a).bind fun b=>if neI b.1 0=true then .pure (.done (Sum.inr b.1)) else .pure (.next (zJ .i64 x 1)) else .pure (.done (Sum.inl ()))) 0).bind fun (x:A26)=>match x with
   |.inl x=>.pure (0,())
   |.inr x=>.pure (x,())
def gy:yZ×List A3×List Int×Unit→List Bool×List Bool×List A3×Unit→Comp A9:=fun x0 x1=>(Comp.gd (sel (sel (eqI (zF x1.1) (zF x0.2.1)) (eqI (zF x1.2.1) (zF x0.2.1)) false) (leI (zF x1.2.2.1) 24) false) (yb x1.2.2.1) (0,())).bind fun x=>.pure (sel (sel (sel (eqI (zF x1.1) (zF x0.2.1)) (eqI (zF x1.2.1) (zF x0.2.1)) false) (leI (zF x1.2.2.1) 24) false) (eqI x.1 0) false,())
def gz:List A3→Comp A18:=fun x0=>(Comp.loop (fun (x:A21)=>if ltI x.2 (zF x0)=true then (idx x0 x.2).bind fun a=>(app [] a).bind fun zs=>(app x.1 [zs]).bind fun zs=>.pure (.next (zs,zJ .i64 x.2 1)) else .pure (.done x.1)) ([],0)).bind fun x=>.pure (x,())
def yy:List A2→List A3→Comp A9:=fun x0 x1=>(Comp.loop (fun (x:Int)=>if ltI x (zF x1)=true then (idx x1 x).bind fun a=>(zh x0 a).bind fun b=>if ntB b.1=true then .pure (.done (Sum.inr false)) else .pure (.next (zJ .i64 x 1)) else .pure (.done (Sum.inl ()))) 0).bind fun (x:A30)=>match x with
   |.inl x=>.pure (true,())
   |.inr x=>.pure (x,())
def vg:List A3→List A2→Comp A18:=fun x0 x1=>(Comp.loop (fun (x:A21)=>if ltI x.2 (zF x0)=true then (idx x0 x.2).bind fun a=>(zh a x1).bind fun b=>jn (fun (c:A16)=>.pure (.next (c,zJ .i64 x.2 1))) fun (j:List A3→Comp (Comp.Step A21 A16))=>if ntB b.1=true then (idx x0 x.2).bind fun c=>(app x.1 [c]).bind fun zs=>j zs else j x.1 else .pure (.done x.1)) ([],0)).bind fun x=>.pure (x,())
def jk:List A3→Comp A10:=fun x0=>if gtI (zF x0) 16=true then .pure (2,()) else (Comp.loop (fun (x:Int)=>if ltI x (zF x0)=true then (idx x0 x).bind fun a=>(zd a).bind fun b=>if neI b.1 0=true then .pure (.done (Sum.inr b.1)) else .pure (.next (zJ .i64 x 1)) else .pure (.done (Sum.inl ()))) 0).bind fun (x:A26)=>match x with
    |.inl x=>.pure (0,())
    |.inr x=>.pure (x,())
def jI:List A2→Comp A38:=fun x0=>(zd x0).bind fun x=>if neI x.1 0=true then .pure ([],()) else (gO x0).bind fun y=>(vn y.1).bind fun y=>.pure (y.1,())
def y7:A1×Int×Unit→A1×Int×Unit→Comp A10:=fun x0 x1=>(Comp.loop (fun (x:Int)=>if ltI x 4=true then (idx [x0.1.1,x0.1.2.1,x0.1.2.2.1,x0.2.1] x).bind fun a=>(idx [x1.1.1,x1.1.2.1,x1.1.2.2.1,x1.2.1] x).bind fun b=>if ltI a b=true then .pure (.done (Sum.inr (-1))) else (idx [x0.1.1,x0.1.2.1,x0.1.2.2.1,x0.2.1] x).bind fun c=>(idx [x1.1.1,x1.1.2.1,x1.1.2.2.1,x1.2.1] x).bind fun d=>if gtI c d=true then .pure (.done (Sum.inr 1)) else .pure (.next (zJ .i64 x 1)) else .pure (.done (Sum.inl ()))) 0).bind fun (x:A26)=>match x with
   |.inl x=>.pure (0,())
   |.inr x=>.pure (x,())
def jQ:List A2→A1×Int×Unit→Comp A11:=fun x0 x1=>(Comp.loop (fun (x:Int)=>(Comp.gd (ltI x (zF x0)) (idx x0 x) ((0,0,0,()),0,())).bind fun a=>(Comp.gd (ltI x (zF x0)) (y7 a x1) (0,())).bind fun b=>if sel (ltI x (zF x0)) (ltI b.1 0) false=true then .pure (.next (zJ .i64 x 1)) else .pure (.done x)) 0).bind fun x=>(Comp.gd (ltI x (zF x0)) (idx x0 x) ((0,0,0,()),0,())).bind fun a=>if sel (ltI x (zF x0)) (adB (adB (eqI a.1.1 x1.1.1) (adB (eqI a.1.2.1 x1.1.2.1) (eqI a.1.2.2.1 x1.1.2.2.1))) (eqI a.2.1 x1.2.1)) false=true then .pure (x0,()) else (sub x0 0 x).bind fun b=>(app [] b).bind fun zs=>(app zs [x1]).bind fun zs=>(sub x0 x (zF x0)).bind fun x=>(app zs x).bind fun zs=>.pure (zs,())
def zr:List A2→Comp A11:=fun x0=>(yA x0).bind fun x=>if ntB x.1=true then .pure ([],()) else (jI x0).bind fun y=>(Comp.loop (fun (a:A32)=>if ltI a.2 (zF x0)=true then (Comp.loop (fun (b:A34)=>if ltI b.2 (zF y.1)=true then (idx x0 a.2).bind fun x=>(idx y.1 b.2).bind fun c=>(zj x c).bind fun x=>jn (fun (x:Int)=>.pure (.next (x,zJ .i64 b.2 1))) fun (j:Int→Comp (Comp.Step A34 Int))=>if eqI x.1 0=true then j (zJ .i64 b.1 1) else j b.1 else .pure (.done b.1)) (0,0)).bind fun x=>jn (fun (x:A3)=>.pure (.next (x,zJ .i64 a.2 1))) fun (j:List A2→Comp (Comp.Step A32 A3))=>if geI x 3=true then (idx x0 a.2).bind fun x=>(jQ a.1 x).bind fun x=>j x.1 else j a.1 else .pure (.done a.1)) ([],0)).bind fun x=>.pure (x,())
def YB:Int×Int×Int×Unit→Int×Int×Int×Unit→Comp A29:=fun x0 x1=>.pure ((gi .i64 x0.1 x1.1,gi .i64 x0.2.1 x1.2.1,gi .i64 x0.2.2.1 x1.2.2.1,()),())
def vK:A1×Int×Unit→Comp (A2×Unit):=fun x0=>(YB (0,0,0,()) x0.1).bind fun x=>.pure ((x.1,Yl .i64 x0.2.1,()),())
def yP:List A2→A1×Int×Unit→Comp A11:=fun x0 x1=>(app [] x0).bind fun zs=>(app zs [x1]).bind fun zs=>.pure (zs,())
def gV:List A2→List A2→Comp A22:=fun x0 x1=>(Comp.loop (fun (x:List A3×List A2×Int)=>if ltI x.2.2 (zF x1)=true then if geI (zF x.2.1) 48=true then .pure (.done (Sum.inr ([],9))) else (idx x1 x.2.2).bind fun a=>(vK a).bind fun b=>(yP x.2.1 b.1).bind fun y=>(zr y.1).bind fun c=>jn (fun (d:A16)=>(idx x1 x.2.2).bind fun e=>(yP x.2.1 e).bind fun y=>(zr y.1).bind fun f=>.pure (.next (d,f.1,zJ .i64 x.2.2 1))) fun (j:List A3→Comp (Comp.Step (List A3×List A2×Int) A36))=>if gtI (zF c.1) 0=true then (app x.1 [c.1]).bind fun zs=>j zs else j x.1 else .pure (.done (Sum.inl x.1))) ([],x0,0)).bind fun (x:A36)=>match x with
   |.inl x=>.pure (x,0,())
   |.inr x=>.pure (x.1,x.2,())
def y6:List A3→List A2→Comp A22:=fun x0 x1=>(yA x1).bind fun x=>if ntB x.1=true then .pure (x0,0,()) else (Comp.loop (fun (x:A21)=>if ltI x.2 (zF x0)=true then jn (fun (a:A16)=>.pure (.next (a,zJ .i64 x.2 1))) fun (j:List A3→Comp (Comp.Step A21 A36))=>(idx x0 x.2).bind fun a=>(zh a x1).bind fun b=>if b.1=true then (idx x0 x.2).bind fun c=>(app x.1 [c]).bind fun zs=>j zs else (idx x0 x.2).bind fun c=>(zr x1).bind fun d=>(gV c d.1).bind fun e=>if neI e.2.1 0=true then .pure (.done (Sum.inr ([],e.2.1))) else (app x.1 e.1).bind fun zs=>j zs else .pure (.done (Sum.inl x.1))) ([],0)).bind fun (a:A36)=>match a with
     |.inl b=>if gtI (zF b) 200=true then .pure ([],9,()) else .pure (b,0,())
     |.inr x=>.pure (x.1,x.2,())
def jj:List A2→List A3→Comp A22:=fun x0 x1=>(zd x0).bind fun x=>jn (fun (x:Int)=>if neI x 0=true then .pure ([],x,()) else (yA x0).bind fun x=>jn (fun (x:A16)=>(Comp.loop (fun (x:A21)=>if ltI x.2 (zF x1)=true then (idx x1 x.2).bind fun a=>(y6 x.1 a).bind fun b=>if neI b.2.1 0=true then .pure (.done (Sum.inr ([],b.2.1))) else .pure (.next (b.1,zJ .i64 x.2 1)) else .pure (.done (Sum.inl x.1))) (x,0)).bind fun (x:A36)=>match x with
          |.inl x=>.pure (x,0,())
          |.inr x=>.pure (x.1,x.2,())) fun (j:List A3→Comp A22)=>if x.1=true then (zr x0).bind fun x=>(app [] [x.1]).bind fun zs=>j zs else j []) fun (j:Int→Comp A22)=>if eqI x.1 0=true then (jk x1).bind fun x=>j x.1 else j x.1
def vF:List A3→List A2→Comp A28:=fun x0 x1=>(jj x1 x0).bind fun x=>.pure (sel (eqI x.2.1 0) (eqI (zF x.1) 0) false,x.2.1,())
def yQ:yZ×List A3×List Int×Unit→List Bool×List Bool×List A3×Unit→List A3→List A3→Comp A20:=fun x0 x1 x2 x3=>(gU x0).bind fun x=>if neI x.1 0=true then .pure (([],[],[],()),x.1,()) else (gy x0 x1).bind fun x=>if ntB x.1=true then .pure (([],[],[],()),4,()) else (yb x2).bind fun x=>jn (fun (x:Int)=>if neI x 0=true then .pure (([],[],[],()),x,()) else if gtI (zJ .i64 (zF x1.2.2.1) (zF x2)) 24=true then .pure (([],[],[],()),2,()) else (gz x1.2.2.1).bind fun y=>(gz x2).bind fun y_1=>(app y.1 y_1.1).bind fun zs=>(Comp.loop (fun (x:Int×A4×List Bool×List Bool×List A3×Unit)=>if ltI x.1 (zF x0.2.1)=true then (idx x0.2.1 x.1).bind fun a=>(idx x1.2.1 x.1).bind fun b=>(Comp.gd (ntB b) (yy a x2) (false,())).bind fun c=>(Comp.gd (ntB (sel b true (ntB c.1))) (yy a x3) (false,())).bind fun d=>(app x.2.2.2.1 [sel (sel b true (ntB c.1)) true (ntB d.1)]).bind fun zs=>(idx x1.1 x.1).bind fun e=>jn (fun (f:Bool×List Bool×List Bool×List A3×Unit)=>(app x.2.2.1 [f.1]).bind fun zs_1=>.pure (.next (zJ .i64 x.1 1,f.2,zs_1,zs,x.2.2.2.2.1,()))) fun (j:Bool×List Bool×List Bool×List A3×Unit→Comp (Comp.Step (Int×A4×List Bool×List Bool×List A3×Unit) A41))=>if ntB e=true then (vg x.2.2.2.2.1 a).bind fun y=>(vF y.1 a).bind fun f=>if neI f.2.1 0=true then .pure (.done (Sum.inr (f.2.1,[],[],[],()))) else j (f.1,x.2.1) else j (e,x.2.1) else .pure (.done (Sum.inl (x.2.1,x.2.2.1,x.2.2.2.1,x.2.2.2.2.1,())))) (0,([],[],[],()),[],[],zs,())).bind fun (x:A4×List Bool×List Bool×List A3×Unit⊕Int×List Bool×List Bool×List A3×Unit)=>match x with
               |.inl x=>.pure ((x.2.1,x.2.2.1,x.2.2.2.1,()),0,())
               |.inr x=>.pure (x.2,x.1,())) fun (j:Int→Comp A20)=>if eqI x.1 0=true then (yb x3).bind fun x=>j x.1 else j x.1
def gj:List A2→Comp A9:=fun x0=>(vP x0).bind fun x=>.pure (neI x.1 0,())
def Xf:yZ×List A3×List Int×Unit→List Bool×List Bool×List A3×Unit→Comp A9:=fun x0 x1=>(Comp.gd (sel (sel (eqI (zF x1.1) (zF x0.2.1)) (eqI (zF x1.2.1) (zF x0.2.1)) false) (leI (zF x1.2.2.1) 24) false) (zG x1.2.2.1 fun (z:A11)=>gj z.1) (false,())).bind fun x=>.pure (sel (sel (sel (eqI (zF x1.1) (zF x0.2.1)) (eqI (zF x1.2.1) (zF x0.2.1)) false) (leI (zF x1.2.2.1) 24) false) (ntB x.1) false,())
def zp:List Bool→Comp A40:=fun x0=>amb (K3 x0) (Comp.pure ([],())) ((app [] x0).bind fun zs=>.pure (zs,()))
def yL:yZ×List A3×List Int×Unit→List Bool×List Bool×List A3×Unit→List Int→Comp A20:=fun x0 x1 x2=>(j3 x0).bind fun x=>if neI x.1 0=true then .pure (([],[],[],()),x.1,()) else (Xf x0 x1).bind fun x=>if ntB x.1=true then .pure (([],[],[],()),4,()) else (Comp.loop (fun (x:Int×Int×List Bool×List Bool×List A3×Unit)=>if ltI x.2.1 (zF x2)=true then (idx x2 x.2.1).bind fun a=>if sel (leI a x.1) true (geI a (zF x0.2.1))=true then .pure (.done (Sum.inr (1,[],[],[],()))) else .pure (.next (a,zJ .i64 x.2.1 1,x.2.2)) else .pure (.done (Sum.inl x.2.2))) (-1,0,[],[],[],())).bind fun (x:List Bool×List Bool×List A3×Unit⊕Int×List Bool×List Bool×List A3×Unit)=>match x with
       |.inl x=>(zp x1.1).bind fun y=>(zp x1.2.1).bind fun y_1=>(Zr x1.2.2.1).bind fun y_2=>(Comp.loop (fun (x:Int×A4×List Bool×List Bool×List A3×Unit)=>if ltI x.1 (zF x2)=true then (idx x2 x.1).bind fun a=>(idx x0.2.1 a).bind fun b=>(yU b x1.2.2.1).bind fun c=>if ntB c.1=true then .pure (.done (Sum.inr (35,[],[],[],()))) else (inb x.2.2.2.1.length a).bind fun d=>.pure (.next (zJ .i64 x.1 1,x.2.1,x.2.2.1,jZ x.2.2.2.1 a false,x.2.2.2.2.1,())) else .pure (.done (Sum.inl (x.2.1,x.2.2.1,x.2.2.2.1,x.2.2.2.2.1,())))) (0,x,y.1,y_1.1,y_2.1,())).bind fun (x:A4×List Bool×List Bool×List A3×Unit⊕Int×List Bool×List Bool×List A3×Unit)=>match x with
            |.inl x=>.pure ((x.2.1,x.2.2.1,x.2.2.2.1,()),0,())
            |.inr x=>.pure (x.2,x.1,())
       |.inr x=>.pure (x.2,x.1,())
def jJ:Comp A9:=y8.bind fun y=>(gK y.1.1 [1,3,2]).bind fun x=>(gK y.1.1 [1,3]).bind fun a=>(gK y.1.1 [1,3,4]).bind fun b=>(Comp.gd (sel (eqI x.2.1 0) (eqI (zF x.1.2.2.1) 3) false) (idx x.1.2.2.1 1) (Int.ofNat 0)).bind fun c=>jn (fun (d:Bool)=>y8.bind fun y_1=>y8.bind fun y_2=>(zy 2 4).bind fun e=>(yQ y.1.1 y.1.2.1 [e.1] []).bind fun f=>(zy 2 4).bind fun g=>(yQ y.1.1 y.1.2.1 [] [g.1]).bind fun h=>jn (fun (i:Bool)=>(yL y.1.1 h.1 [1]).bind fun k=>(yL y.1.1 f.1 [1]).bind fun l=>(yL y.1.1 y.1.2.1 [3]).bind fun m=>(yL y.1.1 y.1.2.1 [1,0]).bind fun n=>jn (fun (x:Bool)=>.pure (x,())) fun (j:Bool→Comp A9)=>if sel (sel (sel (sel (eqI x.2.1 0) (eqI (zF x.1.2.2.1) 3) false) (eqI c 3) false) (eqI a.2.1 1) false) (eqI b.2.1 1) false=true then if d=true then if i=true then if eqI k.2.1 0=true then (zS (y_2.1.1,k.1,y_2.1.2.2.1,()) [1,1,2] (Int.ofNat 4) (Int.ofNat 0) [1]).bind fun x=>if x.1=true then if eqI l.2.1 35=true then if eqI m.2.1 1=true then j (eqI n.2.1 1) else j false else j false else j false else j false else j false else j false else j false) fun (j:Bool→Comp A9)=>(zS (y_1.1.1,f.1,y_1.1.2.2.1,()) [1,1,2] (Int.ofNat 0) (Int.ofNat 35) []).bind fun x=>if x.1=true then (zS (y_2.1.1,h.1,y_2.1.2.2.1,()) [1,1,2] (Int.ofNat 0) (Int.ofNat 30) []).bind fun x=>j x.1 else j false) fun (j:Bool→Comp A9)=>(zS (y.1.1,y.1.2.1,y.1.2.2.1,()) [1,2,2] (Int.ofNat 7) (Int.ofNat 0) [0,1]).bind fun x=>if x.1=true then (zS (y.1.1,y.1.2.1,y.1.2.2.1,()) [1,3,2] (Int.ofNat 4) (Int.ofNat 0) [1]).bind fun x=>if x.1=true then (zS (y.1.1,y.1.2.1,y.1.2.2.1,()) [3,2,2] (Int.ofNat 1) (Int.ofNat 0) [3]).bind fun x=>if x.1=true then (zS (y.1.1,y.1.2.1,y.1.2.2.1,()) [2,2,2] (Int.ofNat 0) (Int.ofNat 60) []).bind fun x=>j x.1 else j false else j false else j false
def kV:Int→Int→Comp A10:=fun x0 x1=>if ltI x1 1=true then .pure (0,()) else (rem x0 x1).bind fun x=>(rem (zJ .i64 x x1) x1).bind fun x=>.pure (x,())
def zI:List Int×Int×Unit→Int→Comp A25:=fun x0 x1=>if geI x0.2.1 (zF x0.1)=true then .pure ((x0,()),0,()) else (idx x0.1 (gi .i64 (zJ .i64 x0.2.1 1) 1)).bind fun x=>(kV x x1).bind fun x=>.pure (((x0.1,zJ .i64 x0.2.1 1,()),()),x.1,())
def kB:List A15→Comp (A8×Unit):=fun x0=>(Comp.loop (fun (x:Int×List A15)=>if sel (ltI x.1 (zF x0)) (ltI x.1 2) false=true then (idx x0 x.1).bind fun a=>(inb 2 x.1).bind fun b=>.pure (.next (zJ .i64 x.1 1,jZ x.2 x.1 a)) else .pure (.done x.2)) (0,[[],[]])).bind fun x=>(idx x 0).bind fun a=>(zI (a,0,()) (Int.ofNat 3)).bind fun y=>jn (fun (b:A37)=>(zI b.2 (Int.ofNat 3)).bind fun y_1=>(zI y_1.1.1 (Int.ofNat 3)).bind fun y_2=>(Comp.loop (fun (x:Int×Int×A6×List Int×Int×Unit)=>if ltI x.2.1 (zJ .i64 2 y.2.1)=true then (zI x.2.2.2 (Int.ofNat 4)).bind fun y=>(zw (x.1,0,0,()) (zJ .i64 x.1 (zJ .i64 1 y.2.1),3,zJ .i64 2 y_2.2.1,())).bind fun c=>(app x.2.2.1.2.1 [c.1]).bind fun zs=>jn (fun (d:A6)=>.pure (.next (zJ .i64 x.1 (zJ .i64 1 y.2.1),zJ .i64 x.2.1 1,(d.1,d.2.1,d.2.2.1,()),y.1.1))) fun (j:List UInt8×List A3×List Int×Unit→Comp (Comp.Step (Int×Int×A6×List Int×Int×Unit) (A6×List Int×Int×Unit)))=>if b.1=true then (zw (x.1,3,0,()) (zJ .i64 x.1 (zJ .i64 1 y.2.1),6,zJ .i64 2 y_2.2.1,())).bind fun d=>(app zs [d.1]).bind fun zs=>j (x.2.2.1.1,zs,x.2.2.1.2.2.1,()) else j (x.2.2.1.1,zs,x.2.2.1.2.2.1,()) else .pure (.done ((x.2.2.1.1,x.2.2.1.2.1,x.2.2.1.2.2.1,()),x.2.2.2))) (zJ .i64 (-6) y_1.2.1,0,([112],[],[],()),y_2.1.1)).bind fun c=>jn (fun (d:A37)=>jn (fun (e:A6)=>(idx x 1).bind fun f=>(Comp.loop (fun (g:Int×A6×List Int×Int×Unit)=>if ltI g.1 (zF g.2.1.2.1)=true then (zI g.2.2 (Int.ofNat 4)).bind fun y=>(idx [2,1,3,2] y.2.1).bind fun x=>(app g.2.1.2.2.1 [x]).bind fun zs=>.pure (.next (zJ .i64 g.1 1,(g.2.1.1,g.2.1.2.1,zs,()),y.1.1)) else .pure (.done (g.2.1.1,g.2.1.2.1,g.2.1.2.2.1,()))) (0,(e.1,e.2.1,e.2.2.1,()),f,0,())).bind fun x=>.pure ((x.1,x.2.1,x.2.2.1,()),())) fun (j:List UInt8×List A3×List Int×Unit→Comp (A6×Unit))=>if d.1=true then (zI d.2 (zF c.1.2.1)).bind fun y=>(zI y.1.1 (Int.ofNat 4)).bind fun y_3=>(idx c.1.2.1 y.2.1).bind fun x=>(app [] x).bind fun zs=>(app zs [((0,1,1,()),zJ .i64 2 y_3.2.1,())]).bind fun zs=>(idx c.1.2.1 y.2.1).bind fun x=>(app [] x).bind fun zs_1=>(vK ((0,1,1,()),zJ .i64 2 y_3.2.1,())).bind fun x=>(app zs_1 [x.1]).bind fun zs_2=>(yA zs).bind fun x=>(Comp.gd x.1 (yA zs_2) (false,())).bind fun e=>jn (fun (x:A8)=>j (x.1,x.2.1,x.2.2.1,())) fun (j:List UInt8×List A3×List Int×Unit→Comp (A6×Unit))=>if sel x.1 e.1 false=true then (inb c.1.2.1.length y.2.1).bind fun x=>(app (jZ c.1.2.1 y.2.1 zs) [zs_2]).bind fun zs=>j (c.1.1,zs,c.1.2.2.1,()) else j (c.1.1,c.1.2.1,c.1.2.2.1,()) else j (c.1.1,c.1.2.1,c.1.2.2.1,())) fun (j:Bool×List Int×Int×Unit→Comp (A6×Unit))=>(zI c.2 (Int.ofNat 4)).bind fun y=>if eqI y.2.1 3=true then j (ltI (zF c.1.2.1) 6,y.1.1) else j (false,y.1.1)) fun (j:Bool×List Int×Int×Unit→Comp (A6×Unit))=>(zI y.1.1 (Int.ofNat 3)).bind fun y_1=>if eqI y_1.2.1 2=true then j (ltI (zJ .i64 2 y.2.1) 4,y_1.1.1) else j (false,y_1.1.1)
def vH:List A15→yZ×List A3×List Int×Unit→Comp A18:=fun x0 x1=>(Comp.loop (fun (x:A21)=>if sel (ltI x.2 (zF x0)) (ltI x.2 4) false=true then (idx x0 x.2).bind fun a=>(zI (a,0,()) (Int.ofNat 4)).bind fun y=>(zI y.1.1 (zF x1.2.1)).bind fun y_1=>(idx x1.2.1 y_1.2.1).bind fun b=>(Wk b).bind fun zs=>jn (fun (c:List A2×List Int×Int×Unit)=>jn (fun (d:A3)=>(app x.1 [d]).bind fun zs=>.pure (.next (zs,zJ .i64 x.2 1))) fun (j:List A2→Comp (Comp.Step A21 A16))=>if eqI y.2.1 2=true then (zI c.2 (Int.ofNat 14)).bind fun y=>(zI y.1.1 (Int.ofNat 3)).bind fun y_2=>(zI y_2.1.1 (Int.ofNat 2)).bind fun y_3=>(zI y_3.1.1 (Int.ofNat 6)).bind fun y_4=>(zI y_4.1.1 (Int.ofNat 6)).bind fun y_5=>(zI y_5.1.1 (Int.ofNat 6)).bind fun y_6=>(zw (gi .i64 y.2.1 7,gi .i64 y_2.2.1 1,gi .i64 y_3.2.1 1,()) (zJ .i64 (zJ .i64 (gi .i64 y.2.1 7) 1) y_4.2.1,zJ .i64 (zJ .i64 (gi .i64 y_2.2.1 1) 2) y_5.2.1,zJ .i64 (zJ .i64 (gi .i64 y_3.2.1 1) 2) y_6.2.1,())).bind fun y=>j y.1 else j c.1) fun (j:List A2×List Int×Int×Unit→Comp (Comp.Step A21 A16))=>if eqI y.2.1 1=true then (zI y_1.1.1 (Int.ofNat 2)).bind fun y=>(zI y.1.1 (Int.ofNat 2)).bind fun y_2=>(app zs [((0,0,gi .i64 1 (ki .i64 2 y.2.1),()),ki .i64 (gi .i64 1 (ki .i64 2 y.2.1)) (zJ .i64 1 y_2.2.1),())]).bind fun zs=>j (zs,y_2.1.1) else j (zs,y_1.1.1) else .pure (.done x.1)) ([],0)).bind fun x=>.pure (x,())
def vE:yZ×List A3×List Int×Unit→List Int→Int→Comp (A5×Unit):=fun x0 x1 x2=>(zI (x1,0,()) (Int.ofNat 6)).bind fun y=>jn (fun (x:A37)=>jn (fun (a:A5)=>(zI x.2 (Int.ofNat 5)).bind fun y=>(Comp.loop (fun (x:Int×A5×List Int×Int×Unit)=>if ltI x.1 (zF x0.2.1)=true then (zI x.2.2 (Int.ofNat 2)).bind fun y_1=>(idx x0.2.2.1 x.1).bind fun b=>jn (fun (c:A37)=>jn (fun (d:List A3×List A3×Int×List Int×Unit)=>.pure (.next (zJ .i64 x.1 1,(d.1,d.2.1,d.2.2.1,d.2.2.2.1,()),c.2))) fun (j:List A3×List A3×Int×List Int×Unit→Comp (Comp.Step (Int×A5×List Int×Int×Unit) A5))=>if c.1=true then (idx x0.2.1 x.1).bind fun d=>(app [] d).bind fun zs=>(app x.2.1.1 [zs]).bind fun zs=>j (zs,x.2.1.2.1,x.2.1.2.2.1,x.2.1.2.2.2.1,()) else j (x.2.1.1,x.2.1.2.1,x.2.1.2.2.1,x.2.1.2.2.2.1,())) fun (j:Bool×List Int×Int×Unit→Comp (Comp.Step (Int×A5×List Int×Int×Unit) A5))=>if eqI b 1=true then jn (fun (x:A37)=>j (x.1,x.2)) fun (j:Bool×List Int×Int×Unit→Comp (Comp.Step (Int×A5×List Int×Int×Unit) A5))=>if eqI y.2.1 4=true then (zI y_1.1.1 (Int.ofNat 3)).bind fun y=>j (eqI y.2.1 2,y.1.1) else j (false,y_1.1.1) else j (eqI y_1.2.1 1,y_1.1.1) else .pure (.done (x.2.1.1,x.2.1.2.1,x.2.1.2.2.1,x.2.1.2.2.2.1,()))) (0,(a.1,a.2.1,a.2.2.1,a.2.2.2.1,()),y.1.1)).bind fun x=>jn (fun (x:List A3×List A3×Int×List Int×Unit)=>jn (fun (x:List A3×List A3×Int×List Int×Unit)=>.pure ((x.1,x.2.1,x.2.2.1,x.2.2.2.1,()),())) fun (j:List A3×List A3×Int×List Int×Unit→Comp (A5×Unit))=>if eqI y.2.1 2=true then (sub x1 (Dq (zF x1) 5) (zF x1)).bind fun b=>(vH [b] x0).bind fun y=>j (x.1,y.1,x.2.2.1,x.2.2.2.1,()) else j (x.1,x.2.1,x.2.2.1,x.2.2.2.1,())) fun (j:List A3×List A3×Int×List Int×Unit→Comp (A5×Unit))=>if eqI y.2.1 3=true then (sub x1 (Dq (zF x1) 4) (zF x1)).bind fun b=>(vH [b] x0).bind fun c=>(app x.1 c.1).bind fun zs=>j (zs,x.2.1,x.2.2.1,x.2.2.2.1,()) else j (x.1,x.2.1,x.2.2.1,x.2.2.2.1,())) fun (j:List A3×List A3×Int×List Int×Unit→Comp (A5×Unit))=>if x.1=true then j ([],[],zJ .i64 1 y.2.1,[gi .i64 x2 1],()) else j ([],[],zJ .i64 1 y.2.1,[],())) fun (j:Bool×List Int×Int×Unit→Comp (A5×Unit))=>if gtI x2 0=true then (zI y.1.1 (Int.ofNat 5)).bind fun y=>j (eqI y.2.1 4,y.1.1) else j (false,y.1.1)
def ja:List Int→Comp A9:=fun x0=>(Comp.loop (fun (x:Int)=>if ltI x (zF x0)=true then (idx x0 x).bind fun a=>(idx x0 (gi .i64 x 1)).bind fun b=>if leI a b=true then .pure (.done (Sum.inr false)) else .pure (.next (zJ .i64 x 1)) else .pure (.done (Sum.inl ()))) 1).bind fun (x:A30)=>match x with
   |.inl x=>.pure (true,())
   |.inr x=>.pure (x,())
def gD:List A5→Int→Comp A10:=fun x0 x1=>(idx x0 x1).bind fun x=>(app [] x.1).bind fun zs=>(app zs x.2.1).bind fun zs_1=>(Comp.loop (fun (a:Int)=>if ltI a (zF zs_1)=true then (idx zs_1 a).bind fun x=>(zd x).bind fun x=>if neI x.1 0=true then .pure (.done (Sum.inr x.1)) else .pure (.next (zJ .i64 a 1)) else .pure (.done (Sum.inl ()))) 0).bind fun (a:A26)=>match a with
      |.inl b=>if sel (ltI x.2.2.1 1) true (gtI x.2.2.1 1048576)=true then .pure (3,()) else (Comp.loop (fun (c:Int)=>if ltI c (zF x.2.2.2.1)=true then (idx x.2.2.2.1 c).bind fun d=>(Comp.gd (ntB (ltI d 0)) (idx x.2.2.2.1 c) (Int.ofNat 0)).bind fun e=>(Comp.gd (ntB (sel (ltI d 0) true (geI e (zF x0)))) (idx x.2.2.2.1 c) (Int.ofNat 0)).bind fun f=>if sel (sel (ltI d 0) true (geI e (zF x0))) true (eqI f x1)=true then .pure (.done (Sum.inr 3)) else .pure (.next (zJ .i64 c 1)) else .pure (.done (Sum.inl ()))) 0).bind fun (c:A26)=>match c with
         |.inl d=>(ja x.2.2.2.1).bind fun x=>if ntB x.1=true then .pure (7,()) else .pure (0,())
         |.inr x=>.pure (x,())
      |.inr x=>.pure (x,())
def gR:A8×A4×List A5×Unit→Comp A10:=fun x0=>(gU x0.1).bind fun x=>if neI x.1 0=true then .pure (x.1,()) else (gy x0.1 x0.2.1).bind fun x=>if ntB x.1=true then .pure (4,()) else if gtI (zF x0.2.2.1) 8=true then .pure (2,()) else (Comp.loop (fun (x:A34)=>if ltI x.2 (zF x0.2.2.1)=true then (gD x0.2.2.1 x.2).bind fun a=>if neI a.1 0=true then .pure (.done (Sum.inr a.1)) else (idx x0.2.2.1 x.2).bind fun b=>.pure (.next (zJ .i64 x.1 (zF b.1),zJ .i64 x.2 1)) else .pure (.done (Sum.inl x.1))) (zF x0.2.1.2.2.1,0)).bind fun (x:Int⊕Int)=>match x with
        |.inl x=>if gtI x 24=true then .pure (2,()) else .pure (0,())
        |.inr x=>.pure (x,())
def j9:List A15→Comp (A17×Unit):=fun x0=>(sub x0 0 (Dq (zF x0) 2)).bind fun x=>(kB x).bind fun a=>(jP a.1).bind fun b=>jn (fun (c:A6×A4×List A5×Unit)=>(Comp.loop (fun (x:Int×A6×A4×List A5×Unit)=>if sel (ltI x.1 (zF x0)) (ltI x.1 7) false=true then (idx x0 x.1).bind fun d=>(vE a.1 d (gi .i64 x.1 3)).bind fun e=>(app x.2.2.2.1 [e.1]).bind fun zs=>.pure (.next (zJ .i64 x.1 1,x.2.1,x.2.2.1,zs,())) else .pure (.done (x.2.1,x.2.2.1,x.2.2.2.1,()))) (3,c.1,c.2.1,c.2.2.1,())).bind fun d=>jn (fun (e:A6×A4×List A5×Unit)=>(Comp.loop (fun (f:A6×A4×List A5×Unit)=>(Comp.gd (gtI (zF f.2.2.1) 1) (gR (f.1,f.2.1,f.2.2.1,())) (0,())).bind fun g=>if sel (gtI (zF f.2.2.1) 1) (eqI g.1 2) false=true then jn (fun (x:A6×A4×List A5×Unit)=>.pure (.next (x.1,x.2.1,x.2.2.1,()))) fun (j:A6×A4×List A5×Unit→Comp (Comp.Step A12 A12))=>(sub f.2.2.1 0 (gi .i64 (zF f.2.2.1) 1)).bind fun ys=>j (f.1,f.2.1,ys,()) else .pure (.done (f.1,f.2.1,f.2.2.1,()))) (e.1,e.2.1,e.2.2.1,())).bind fun x=>.pure ((x.1,x.2.1,x.2.2.1,()),())) fun (j:A6×A4×List A5×Unit→Comp (A12×Unit))=>if eqI (zF d.2.2.1) 0=true then (vE a.1 [] (Int.ofNat 0)).bind fun x=>(app d.2.2.1 [x.1]).bind fun zs=>j (d.1,d.2.1,zs,()) else j (d.1,d.2.1,d.2.2.1,())) fun (j:A6×A4×List A5×Unit→Comp (A12×Unit))=>if gtI (zF x0) 2=true then (idx x0 2).bind fun x=>(zI (x,0,()) (Int.ofNat 3)).bind fun y=>jn (fun (x:A6×A4×List A5×Unit)=>j (x.1,x.2.1,x.2.2.1,())) fun (j:A6×A4×List A5×Unit→Comp (A12×Unit))=>if eqI y.2.1 2=true then (idx x0 2).bind fun x=>(idx x0 2).bind fun c=>(sub x (Dq (zF c) 1) (zF x)).bind fun x=>(vH [x] a.1).bind fun x=>(yQ a.1 b.1 x.1 []).bind fun x=>jn (fun (x:A6×A4×List A5×Unit)=>j (x.1,x.2.1,x.2.2.1,())) fun (j:A6×A4×List A5×Unit→Comp (A12×Unit))=>if eqI x.2.1 0=true then j (a.1,x.1,[],()) else j (a.1,b.1,[],()) else j (a.1,b.1,[],()) else j (a.1,b.1,[],())
def j8:yZ×List A3×List Int×Unit→List Int→Comp A19:=fun x0 x1=>(Comp.loop (fun (x:A44)=>if ltI x.2 (zF x0.2.2.1)=true then (idx x0.2.2.1 x.2).bind fun a=>(Comp.gd (ltI x.2 (zF x1)) (idx x1 x.2) (Int.ofNat 0)).bind fun b=>(Comp.gd (ltI x.2 (zF x1)) (rem b 5) (Int.ofNat 0)).bind fun c=>(Comp.gd (sel (ltI x.2 (zF x1)) (gtI c 0) false) (idx x1 x.2) (Int.ofNat 0)).bind fun d=>(Comp.gd (sel (ltI x.2 (zF x1)) (gtI c 0) false) (rem d 5) (Int.ofNat 0)).bind fun e=>jn (fun (f:Int)=>(app x.1 [f]).bind fun zs=>.pure (.next (zs,zJ .i64 x.2 1))) fun (j:Int→Comp (Comp.Step A44 A15))=>if sel (sel (ltI x.2 (zF x1)) (gtI c 0) false) (ltI e 4) false=true then (idx x1 x.2).bind fun x=>(rem x 5).bind fun x=>j x else j a else .pure (.done x.1)) ([],0)).bind fun x=>.pure (x,())
def gJ:List A15×List Int×Unit→Comp (A17×List Int×Unit):=fun x0=>(Comp.loop (fun (x:List A15×Int)=>if sel (ltI x.2 (zF x0.1)) (ltI x.2 7) false=true then (idx x0.1 x.2).bind fun a=>(idx x0.1 x.2).bind fun b=>(sub a 0 (Dq (zF b) 40)).bind fun c=>(app x.1 [c]).bind fun zs=>.pure (.next (zs,zJ .i64 x.2 1)) else .pure (.done x.1)) ([],0)).bind fun x=>(j9 x).bind fun y=>(sub x0.2.1 0 (Dq (zF x0.2.1) 8)).bind fun x=>(j8 y.1.1 x).bind fun y_1=>.pure ((y.1.1,y.1.2.1,y.1.2.2.1,()),y_1.1,())
def YH:List A3→Comp A18:=fun x0=>(Comp.loop (fun (x:A21)=>if ltI x.2 (zF x0)=true then (idx x0 x.2).bind fun a=>(zU a).bind fun y=>(app x.1 [y.1]).bind fun zs=>.pure (.next (zs,zJ .i64 x.2 1)) else .pure (.done x.1)) ([],0)).bind fun x=>.pure (x,())
def vb:Int→List A2→List A2→Comp A9:=fun x0 x1 x2=>(j7 x1 x2).bind fun x=>.pure (ntB x.1,())
def ym:List A3→(Int×List A2×Unit→Comp A9)→Comp A18:=fun x0 x1=>(Comp.loop (fun (x:A21)=>if ltI x.2 (zF x0)=true then (idx x0 x.2).bind fun a=>(x1 (x.2,a,())).bind fun b=>jn (fun (c:A16)=>.pure (.next (c,zJ .i64 x.2 1))) fun (j:List A3→Comp (Comp.Step A21 A16))=>if b.1=true then (app x.1 [a]).bind fun zs=>j zs else j x.1 else .pure (.done x.1)) ([],0)).bind fun x=>.pure (x,())
def Yw:yZ×List A3×List Int×Unit→List Bool×List Bool×List A3×Unit→List A3→List A3→Comp A20:=fun x0 x1 x2 x3=>(ZE x0 x1).bind fun x=>if neI x.1 0=true then .pure (([],[],[],()),x.1,()) else (zY [x2,x3]).bind fun y=>(jU y.1).bind fun a=>if neI a.1 0=true then .pure (([],[],[],()),a.1,()) else if gtI (zJ .i64 (zF x1.2.2.1) (zF x2)) 24=true then .pure (([],[],[],()),2,()) else (zp x1.1).bind fun y_1=>(zp x1.2.1).bind fun y_2=>(zY [x1.2.2.1,x2]).bind fun b=>(YH b.1).bind fun y_3=>(Comp.loop (fun (c:Int×A4×List Bool×List Bool×List A3×Unit)=>if ltI c.1 (zF x0.2.1)=true then jn (fun (x:A4×List Bool×List Bool×List A3×Unit)=>.pure (.next (zJ .i64 c.1 1,x.1,x.2.1,x.2.2.1,x.2.2.2.1,()))) fun (j:A4×List Bool×List Bool×List A3×Unit→Comp (Comp.Step (Int×A4×List Bool×List Bool×List A3×Unit) A41))=>(idx x0.2.1 c.1).bind fun d=>(idx c.2.2.2.1 c.1).bind fun e=>(Comp.gd (ntB e) (yU d x2) (false,())).bind fun f=>(Comp.gd (ntB (sel e true (ntB f.1))) (yU d x3) (false,())).bind fun g=>(inb c.2.2.2.1.length c.1).bind fun h=>(idx c.2.2.1 c.1).bind fun i=>if i=true then j (c.2.1,c.2.2.1,jZ c.2.2.2.1 c.1 (sel (sel e true (ntB f.1)) true (ntB g.1)),c.2.2.2.2.1,()) else (ym c.2.2.2.2.1 fun (z:Int×List A2×Unit)=>vb z.1 z.2.1 d).bind fun y=>(gY y.1 d).bind fun x=>if neI x.2.1 0=true then .pure (.done (Sum.inr (x.2.1,[],[],[],()))) else (inb c.2.2.1.length c.1).bind fun k=>j (c.2.1,jZ c.2.2.1 c.1 x.1,jZ c.2.2.2.1 c.1 (sel (sel e true (ntB f.1)) true (ntB g.1)),c.2.2.2.2.1,()) else .pure (.done (Sum.inl (c.2.1,c.2.2.1,c.2.2.2.1,c.2.2.2.2.1,())))) (0,([],[],[],()),y_1.1,y_2.1,y_3.1,())).bind fun (x:A4×List Bool×List Bool×List A3×Unit⊕Int×List Bool×List Bool×List A3×Unit)=>match x with
             |.inl x=>.pure ((x.2.1,x.2.2.1,x.2.2.2.1,()),0,())
             |.inr x=>.pure (x.2,x.1,())
def gv:A8×A4×List A5×Unit→yZ×List A3×List Int×Unit→List Int→Comp A20:=fun x0 x1 x2=>(Comp.loop (fun (x:Int×A4×List Bool×List Bool×List A3×Unit)=>if ltI x.1 (zF x2)=true then (idx x2 x.1).bind fun a=>if sel (ltI a 0) true (geI a (zF x0.2.2.1))=true then .pure (.done (Sum.inr (1,[],[],[],()))) else (idx x0.2.2.1 a).bind fun b=>(idx x0.2.2.1 a).bind fun c=>(Yw x1 x.2.2 b.1 c.2.1).bind fun d=>if neI d.2.1 0=true then .pure (.done (Sum.inr (d.2.1,[],[],[],()))) else .pure (.next (zJ .i64 x.1 1,x.2.1,d.1)) else .pure (.done (Sum.inl (x.2.1,x.2.2)))) (0,([],[],[],()),x0.2.1)).bind fun (x:A4×List Bool×List Bool×List A3×Unit⊕Int×List Bool×List Bool×List A3×Unit)=>match x with
   |.inl x=>.pure (x.2,0,())
   |.inr x=>.pure (x.2,x.1,())
def kI(recF:Int→Int→Comp (List A15×Unit)):Int→Int→Comp (List A15×Unit):=fun x0 x1=>(Comp.loop (fun (x:List A15×Int)=>if ltI x.2 x1=true then (recF (zJ .i64 x.2 1) x1).bind fun y=>(Comp.loop (fun (a:List A15×Int)=>if ltI a.2 (zF y.1)=true then (idx y.1 a.2).bind fun b=>(app [x.2] b).bind fun zs=>(app a.1 [zs]).bind fun zs=>.pure (.next (zs,zJ .i64 a.2 1)) else .pure (.done a.1)) (x.1,0)).bind fun a=>.pure (.next (a,zJ .i64 x.2 1)) else .pure (.done x.1)) ([[]],x0)).bind fun x=>.pure (x,())
def gQ:Nat→Int→Int→Comp (List A15×Unit):=Sc (fun _ _=>Comp.fail) kI
def Kr:A8×A4×List A5×Unit→List Int→Comp (List Bool×Bool×Unit):=fun x0 x1=>(Comp.loop (fun (x:Int×List Bool)=>if ltI x.1 (zF x1)=true then (idx x1 x.1).bind fun a=>if sel (ltI a 0) true (geI a (zF x0.2.2.1))=true then .pure (.done (Sum.inr (false,[false,false,false,false,false,false,false,false]))) else (inb 8 a).bind fun b=>.pure (.next (zJ .i64 x.1 1,jZ x.2 a true)) else .pure (.done (Sum.inl x.2))) (0,[false,false,false,false,false,false,false,false])).bind fun (x:List Bool⊕Bool×List Bool)=>match x with
   |.inl x=>(j0 x1).bind fun a=>.pure (x,a.1,())
   |.inr x=>.pure (x.2,x.1,())
def Y1:A8×A4×List A5×Unit→List Int→Comp A28:=fun x0 x1=>(kf x0).bind fun x=>if neI x.1 0=true then .pure (false,x.1,()) else (Kr x0 x1).bind fun x=>if ntB x.2.1=true then .pure (false,1,()) else (vG (x0,[false,false,false,false,false,false,false,false],()) x.1).bind fun x=>.pure (x.1,x.2.1,())
def ZF:A8×A4×List A5×Unit→List Int→Comp A9:=fun x0 x1=>(kf x0).bind fun x=>if neI x.1 0=true then .pure (false,()) else (Kr x0 x1).bind fun x=>(Comp.gd x.2.1 (ZZ x0) (((([],[],[],()),([],[],[],()),[],()),[],()),())).bind fun (a:(A12×List Bool×Unit)×Unit)=>(Comp.gd x.2.1 (vf a.1 x.1) (false,())).bind fun b=>.pure (sel x.2.1 b.1 false,())
def jc:List A15×List Int×Unit→Comp A9:=fun x0=>jJ.bind fun x=>(gJ x0).bind fun a=>(Yk a.1 a.2.1).bind fun b=>(gK a.1.1 a.2.1).bind fun c=>if neI c.2.1 0=true then .pure (false,()) else jn (fun (d:Unit)=>if sel (neI b.2.2.1 0) (neI b.2.2.1 60) false=true then .pure (x.1,()) else (gQ 40 (Int.ofNat 0) (zF a.1.2.2.1)).bind fun y=>(Comp.loop (fun (e:Int)=>if ltI e (zF y.1)=true then jn (fun (x:Unit)=>.pure (.next (zJ .i64 e 1))) fun (j:Unit→Comp (Comp.Step Int A30))=>(idx y.1 e).bind fun f=>(Y1 (c.1,a.1.2.1,a.1.2.2.1,()) f).bind fun g=>(Comp.gd (ntB (sel (neI g.2.1 0) true (ntB g.1))) (ZF (c.1,a.1.2.1,a.1.2.2.1,()) f) (false,())).bind fun h=>if sel (sel (neI g.2.1 0) true (ntB g.1)) true (ntB h.1)=true then j () else (Comp.loop (fun (i:A34)=>if ltI i.2 (zF f)=true then (idx f i.2).bind fun x=>(idx a.1.2.2.1 x).bind fun x=>.pure (.next (zJ .i64 i.1 x.2.2.1,zJ .i64 i.2 1)) else .pure (.done i.1)) (0,0)).bind fun x=>if sel (eqI b.2.2.1 60) true (ltI x b.2.1)=true then .pure (.done (Sum.inr false)) else j () else .pure (.done (Sum.inl ()))) 0).bind fun (e:A30)=>match e with
            |.inl f=>.pure (x.1,())
            |.inr x=>.pure (x,())) fun (j:Unit→Comp A9)=>if eqI b.2.2.1 0=true then (gv a.1 c.1 b.1).bind fun x=>(Comp.gd (eqI x.2.1 0) (jV c.1 x.1) (0,())).bind fun d=>if sel (eqI x.2.1 0) (neI d.1 0) false=true then .pure (false,()) else j () else j ()
end Go.F
end
section
namespace Go.Geo
open Go Go.Eng Go.Lift Go.Den Go.F
variable {α β γ δ ε σ τ:Type}
abbrev V3:=Int×Int×Int×Unit
abbrev Pnt:=Int×Int×Int×Int×Unit
def okv(k n:Int):Bool:=decide (-k≤n∧n≤k)
def J4(v:V3):Nat:=Nat.gcd (Nat.gcd v.1.natAbs v.2.1.natAbs) v.2.2.1.natAbs
def okN(v:V3):Bool:=okv 4608 v.1 && (okv 4608 v.2.1 && okv 4608 v.2.2.1)
def okP(p:Pln):Bool:=okN p.1 && (decide (J4 p.1=1) && okv 2097152 p.2.1)
theorem Rg:∀(b a:Nat),(Comp.loop
   (fun (x:Int×Int)=>if gtI x.2 0=true then (rem x.1 x.2).bind fun x_3=>Comp.pure (.next (x.2,x_3))
    else Comp.pure (.done x.1)) ((a:Int),(b:Int))).val=some ((Nat.gcd a b:Nat):Int):=by
 intro b
 induction b using Nat.strongRecOn with
 |_ b ih =>
  intro a
  conv=>lhs;rw[zN]
  by_cases hb:0<b
  ·have h1:(0:Int)<(b:Int):=by omega
   have h2:(rem (a:Int) (b:Int)).val=some ((a % b:Nat):Int):=by rw[Zv (by omega)];rfl
   have:=ih (a % b) (Nat.mod_lt _ hb) b;simp only[yd,h1,if_true,zA,h2,zLB,Comp.zB];rw[show Nat.gcd a b=Nat.gcd b (a % b) by rw[Nat.gcd_comm a b,Nat.gcd_rec,Nat.gcd_comm]]
   simp only[yd]at this;exact this
  ·have h0:b=0:=by omega
   subst h0;simp[gtI]
theorem Gt:∀(b a:Int),∃r,r.natAbs=Nat.gcd a.natAbs b.natAbs∧(Comp.loop
   (fun (x:Int×Int)=>if neI x.2 0=true then (rem x.1 x.2).bind fun x_2=>Comp.pure (.next (x.2,x_2)) else Comp.pure (.done x.1)) (a,b)).val=some r:=by
 intro b;generalize hn:b.natAbs=n
 induction n using Nat.strongRecOn generalizing b with
 |_ n ih =>
  intro a;by_cases hb:b=0
  ·refine⟨a,?_,?_⟩
   ·subst hb;simp at hn;simp[←hn]
   ·conv=>lhs;rw[zN]
    simp[neI,hb]
  ·have hlt:(a.tmod b).natAbs<n:=by rw[Int.natAbs_tmod,←hn];exact Nat.mod_lt _ (by omega)
   obtain⟨r,h1,h2⟩:=ih _ hlt (a.tmod b) rfl b;refine⟨r,?_,?_⟩
   ·rw[h1,Int.natAbs_tmod,hn]
    exact(Nat.gcd_comm _ _).trans ((Nat.gcd_rec n a.natAbs).symm.trans (Nat.gcd_comm _ _))
   ·conv=>lhs;rw[zN]
    simp only[zf,ne_eq,hb,not_false_eq_true,if_true,zA,Zv hb,zLB,Comp.zB];simp only[zf,ne_eq]at h2;exact h2
theorem qv{n:Int}(h : -9223372036854775808<n∧n<9223372036854775808):rW n (Yl .i64 n)=(n.natAbs:Int):=by
 rw[Jg h];unfold rW;omega
theorem nF{n:Int}(h : -9223372036854775808<n∧n<9223372036854775808):(jx n).val=some ((n.natAbs:Int),()):=by
 unfold jx;rw[Comp.zB,qv h]
theorem AU{l:List Int}(hl:l.length<9223372036854775807)(h:∀n∈l, -9223372036854775808<n∧n<9223372036854775808):(Zh l).val=some (((l.foldl (fun g n=>Nat.gcd g n.natAbs) 0:Nat):Int),()):=by
 unfold Zh;have h1:=wG (fun (s:Nat) i=>(((s:Nat):Int),((i:Nat):Int))) l (fun (s:Nat) n=>.next (Nat.gcd s n.natAbs)) (fun s=>(Sum.inl ((s:Nat):Int):Int⊕Int)) 0
  (body:=fun (x:Int×Int)=>if ltI x.2 (zF l)=true then
       (idx l x.2).bind fun x_1=>if eqI x_1 (-9223372036854775808)=true then Comp.pure (.done (Sum.inr 0))
        else
         (Go.F.jx x_1).bind fun x_2=>(Comp.loop
             (fun (x:Int×Int)=>if gtI x.2 0=true then (rem x.1 x.2).bind fun x_3=>Comp.pure (.next (x.2,x_3))
              else Comp.pure (.done x.1))
             (x.1,x_2.1)).bind fun x_3=>Comp.pure (.next (x_3,zJ .i64 x.2 1))
      else Comp.pure (.done (Sum.inl x.1)))
  (fun s i n hx=>by
   have hlt:=zO hx;have hn:=h n (zLI hx)
   have h1:(i:Int)<zF l:=by rw[zC];omega
   rw[if_pos (by rw[zH];exact h1),zA,zL hx,zLB,if_neg (by rw[yw];omega),zA,nF hn,zLB,zA,Rg,zLB,Comp.zB,zM (show i<9223372036854775807 by omega)]
   rfl)
  (fun s=>by
   have h1:¬((l.length:Int)<zF l):=by rw[zC];omega
   simp only[zH,h1,if_false,Comp.zB])
 rw[XZ]at h1;rw[zA];refine(congrArg (fun o=>Option.bind o _) h1).trans ?_
 rw[zLB];exact Comp.zB _
theorem tK{k:Int}{l:List Int}(hk:0≤k∧k<9223372036854775808)(hl:l.length<9223372036854775807):(jM k l).val=some (l.all fun n=>okv k n,()):=by
 unfold jM;have h1:=ZQ l (okv k) (c:=(Sum.inr false:Unit⊕Bool)) (d:=Sum.inl ())
  (body:=fun (x:Int)=>if ltI x (zF l)=true then
       (idx l x).bind fun x_1=>if sel (ltI x_1 (Yl .i64 k)) true (gtI x_1 k)=true then Comp.pure (.done (Sum.inr false))
        else Comp.pure (.next (zJ .i64 x 1))
      else Comp.pure (.done (Sum.inl ())))
  (fun i n hx=>by
   have hlt:=zO hx;have h1:(i:Int)<zF l:=by rw[zC];omega
   rw[if_pos (by rw[zH];exact h1),zA,zL hx,zLB,Jg (by omega),zM (show i<9223372036854775807 by omega),Xr]
   have e:sel (ltI n (-k)) true (gtI n k) = !okv k n:=by
    rw[gm];unfold ltI gtI okv;by_cases h1:n < -k<;>by_cases h2:n > k<;>simp[h1,h2]<;>omega
   rw[e];cases okv k n<;>simp)
  (by
   have h1:¬((l.length:Int)<zF l):=by rw[zC];omega
   simp only[zH,h1,if_false,Comp.zB])
 rw[zA];refine(congrArg (fun o=>Option.bind o _) h1).trans ?_
 rw[zLB];show _=some (l.all (okv k),())
 cases l.all (okv k)<;>exact Comp.zB _
theorem Ec{v:V3}(h:okN v=true):∀n∈[v.1,v.2.1,v.2.2.1], -4608≤n∧n≤4608:=by
 unfold okN okv at h;simp only[zLD,decide_eq_true_eq]at h;intro n hn;simp only[zLH,List.not_mem_nil,or_false]at hn;rcases hn with rfl|rfl|rfl<;>omega
theorem uK(p:Pln):(Y0 p).val=some (okP p,()):=by
 unfold Y0;have h1:(jM (Int.ofNat 4608) [p.1.1,p.1.2.1,p.1.2.2.1]).val=some (okN p.1,()):=by
  rw[tK (by decide) (by simp)]
  simp[okN]
 have h2:(jM (Int.ofNat 2097152) [p.2.1]).val=some (okv 2097152 p.2.1,()):=by
  rw[tK (by decide) (by simp)]
  simp
 rw[vZ,zA,h1,zLB,Xr]
 cases hN:okN p.1 with
 |false=>simp[okP,hN]
 |true =>
  rw[if_pos rfl];have h3:=AU (l:=[p.1.1,p.1.2.1,p.1.2.2.1]) (by simp) (fun n hn=>by have:=Ec hN n hn;omega)
  have h4:[p.1.1,p.1.2.1,p.1.2.2.1].foldl (fun g n=>Nat.gcd g n.natAbs) 0=J4 p.1:=by simp[J4]
  rw[h4]at h3;rw[zA,h3,zLB,Xr];by_cases hg:J4 p.1=1
  ·have:eqI ((J4 p.1:Nat):Int) 1=true:=by rw[yw];omega
   rw[if_pos this,zA,h2,zLB,Comp.zB];unfold okP;rw[hN,decide_eq_true hg];rfl
  ·have:eqI ((J4 p.1:Nat):Int) 1=false:=by unfold eqI;rw[decide_eq_false];omega
   rw[if_neg (by rw[this];simp),Comp.zB]
   unfold okP;rw[hN,decide_eq_false hg];rfl
def chk(c:List Pln):Int:=if 48<c.length then 2 else bif c.all okP then 0 else 12
theorem Rp{c:List Pln}:chk c=0↔c.length≤48∧c.all okP=true:=by
 unfold chk;split
 ·simp;omega
 ·cases c.all okP<;>simp;omega
theorem V4(c:List Pln):(c.any fun p=>!okP p) = !c.all okP:=by rw[List.all_eq_not_any_not,Bool.not_not]
theorem gI(c:List Pln):(vP c).val=some (chk c,()):=by
 unfold vP chk;by_cases h:48<c.length
 ·rw[if_pos (by rw[yd,zC];omega),if_pos h,Comp.zB]
 ·rw[if_neg (by rw[yd,zC];omega),if_neg h]
  have h1:(zb c fun z=>jY z.1).val=some (c.any fun p=>!okP p,()) :=
   ZP (xs:=c) (f:=fun z=>jY z.1) (p:=fun p=>!okP p) (by omega) fun p _=>by
    show (jY p).val=_
    unfold jY;rw[zA,uK,zLB,Comp.zB];rfl
  rw[zA,h1,zLB,V4,Xr];cases c.all okP<;>simp
theorem Yd(l:List (List Pln))(hl:l.length<9223372036854775807):(Zc l).val=some (l.all fun c=>decide (chk c=0),()):=by
 unfold Zc;have h1:(zG l fun z=>jX z.1).val=some (l.any fun c=>!decide (chk c=0),()) :=
  ZP (xs:=l) (f:=fun z=>jX z.1) (p:=fun c=>!decide (chk c=0)) hl fun c _=>by
   show (jX c).val=_
   unfold jX;rw[zA,gI,zLB,Comp.zB];unfold neI;by_cases h:chk c=0<;>simp[h]
 rw[zA,h1,zLB,Comp.zB,yM,List.all_eq_not_any_not]
theorem NM{n:Int}(h : -9223372036854775808<n∧n<9223372036854775808):(vX n).val=some ((n.natAbs:Int),()):=by
 unfold vX;by_cases h0:n<0
 ·rw[if_pos (by rw[zH];exact h0),Comp.zB,Jg h];congr 2;omega
 ·rw[if_neg (by rw[zH];exact h0),Comp.zB];congr 2;omega
theorem IU{v:V3}(h:okN v=true):∃u,(jB v).val=some (u,((J4 v:Nat):Int),()):=by
 have hin:=Ec h;unfold jB;have hc:(yD v).val=some ([v.1,v.2.1,v.2.2.1],()):=by unfold yD;exact Comp.zB _
 rw[zA,hc,zLB];simp only;generalize hl:[v.1,v.2.1,v.2.2.1]=l at hin;have hlen:l.length=3:=by rw[←hl];rfl
 have h1:=wG (fun (s:Nat) i=>((((s:Nat):Int),((i:Nat):Int),(0,0,0,())):Int×Int×Int×Int×Int×Unit)) l (fun (s:Nat) n=>.next (Nat.gcd s n.natAbs)) (fun s=>(Sum.inl ((((s:Nat):Int),(0,0,0,())):Int×Int×Int×Int×Unit):(Int×Int×Int×Int×Unit)⊕(Int×Int×Int×Int×Unit))) 0
  (body:=(fun (x_1:Int×Int×Int×Int×Int×Unit)=>if ltI x_1.2.1 3=true then
        (idx l x_1.2.1).bind fun x_2=>if eqI x_2 (-9223372036854775808)=true then Comp.pure (.done (Sum.inr (0,0,0,0,())))
         else
          (idx l x_1.2.1).bind fun x=>(Go.F.vX x).bind fun x=>(Comp.loop
               (fun (x:Int×Int)=>if gtI x.2 0=true then (rem x.1 x.2).bind fun x_3=>Comp.pure (.next (x.2,x_3))
                else Comp.pure (.done x.1))
               (x_1.1,x.1)).bind fun x=>Comp.pure (.next (x,zJ .i64 x_1.2.1 1,x_1.2.2))
       else Comp.pure (.done (Sum.inl (x_1.1,x_1.2.2)))))
  (fun s i n hx=>by
   have hlt:=zO hx;have hn:=hin n (zLI hx)
   rw[if_pos (by rw[zH];show (i:Int)<3;omega),zA,zL hx,zLB,if_neg (by rw[yw];omega),zA,zL hx,zLB,zA,NM (by omega),zLB,zA,Rg,zLB,Comp.zB,zM (show i<9223372036854775807 by omega)]
   rfl)
  (fun s=>by
   rw[if_neg (by rw[zH,hlen];simp),Comp.zB])
 rw[XZ]at h1;have hg:l.foldl (fun g n=>Nat.gcd g n.natAbs) 0=J4 v:=by rw[←hl];simp[J4]
 rw[hg]at h1;rw[zA]
 have h2:=congrArg (fun o=>Option.bind o fun (x:(Int×Int×Int×Int×Unit)⊕(Int×Int×Int×Int×Unit))=>(match x with
    |Sum.inl x =>
     if eqI x.1 0=true then Comp.pure ((0,0,0,()),0,())
     else
      (quo .i64 v.1 x.1).bind fun x_1=>(quo .i64 v.2.1 x.1).bind fun x_2=>(quo .i64 v.2.2.1 x.1).bind fun x_3=>Comp.pure ((x_1,x_2,x_3,()),x.1,())
    |Sum.inr x=>Comp.pure (x.2,x.1,()):Comp Pln).val) h1
 by_cases h0:J4 v=0
 ·refine⟨(0,0,0,()),h2.trans ?_⟩
  show (if eqI ((J4 v:Nat):Int) 0=true then _ else _:Comp Pln).val=_
  rw[if_pos (by rw[yw];omega),Comp.zB,h0];rfl
 ·have hq:∀n,∃m,(quo .i64 n ((J4 v:Nat):Int)).val=some m:=fun n=>by
   unfold quo;rw[if_neg (by omega)]
   exact⟨_,Comp.zB _⟩
  obtain⟨a,ha⟩:=hq v.1;obtain⟨b,hb⟩:=hq v.2.1;obtain⟨c,hc⟩:=hq v.2.2.1;refine⟨(a,b,c,()),h2.trans ?_⟩;show (if eqI ((J4 v:Nat):Int) 0=true then _ else _:Comp Pln).val=_
  rw[if_neg (by rw[yw];omega),zA,ha,zLB,zA,hb,zLB,zA,hc,zLB,Comp.zB]
theorem DL(p:Pln):(gW p).val=some (okP p,()):=by
 unfold gW;have hc:(yD p.1).val=some ([p.1.1,p.1.2.1,p.1.2.2.1],()):=by unfold yD;exact Comp.zB _
 rw[zA,hc,zLB];have h1:=ZQ [p.1.1,p.1.2.1,p.1.2.2.1] (okv 4608) (c:=(Sum.inr false:Unit⊕Bool)) (d:=Sum.inl ())
  (body:=(fun (x_1:Int)=>if ltI x_1 3=true then
        (idx [p.1.1,p.1.2.1,p.1.2.2.1] x_1).bind fun x_2=>(Comp.gd (ntB (ltI x_2 (-4608))) (idx [p.1.1,p.1.2.1,p.1.2.2.1] x_1) (Int.ofNat 0)).bind fun x_3=>if sel (ltI x_2 (-4608)) true (gtI x_3 4608)=true then Comp.pure (.done (Sum.inr false))
          else Comp.pure (.next (zJ .i64 x_1 1))
       else Comp.pure (.done (Sum.inl ()))))
  (fun i n hx=>by
   have hlt:=zO hx;have hlt3:i<3:=hlt
   rw[if_pos (by rw[zH];omega),zA,zL hx,zLB,zA,Qd,zL hx,zM (show i<9223372036854775807 by omega)]
   unfold okv;by_cases h1:n < -4608
   ·have:ltI n (-4608)=true:=by rw[zH];exact h1
    have h2:¬(-4608≤n∧n≤4608):=by omega
    simp[this,yM,sel,h2]
   ·have:ltI n (-4608)=false:=by unfold ltI;exact decide_eq_false h1
    by_cases h3:n > 4608
    ·have h2:¬(-4608≤n∧n≤4608):=by omega
     have h4:gtI n 4608=true:=by rw[yd];exact h3
     simp[this,yM,sel,h2,h4]
    ·have h2:(-4608≤n∧n≤4608):=by omega
     have h4:gtI n 4608=false:=by unfold gtI;exact decide_eq_false h3
     simp[this,yM,sel,h2,h4])
  (by rw[if_neg (by rw[zH];simp),Comp.zB])
 rw[zA];have hall:[p.1.1,p.1.2.1,p.1.2.2.1].all (okv 4608)=okN p.1:=by simp[okN]
 rw[hall]at h1;refine(congrArg (fun o=>Option.bind o _) h1).trans ?_
 rw[zLB]
 cases hN:okN p.1 with
 |false=>exact(Comp.zB _).trans (by unfold okP;rw[hN];rfl)
 |true =>
  obtain⟨u,hu⟩:=IU hN;show ((jB p.1).bind fun x=>Comp.pure (sel (sel (eqI x.2.1 1) (geI p.2.1 (-2097152)) false) (leI p.2.1 2097152) false,())).val=_
  rw[zA,hu,zLB,Comp.zB];unfold okP okv;rw[hN,kX,kX];unfold eqI geI leI
  congr 2
  have:decide (((J4 p.1:Nat):Int)=1)=decide (J4 p.1=1):=by by_cases hg:J4 p.1=1<;>simp[hg]<;>omega
  rw[this];by_cases h1:p.2.1 ≥ -2097152<;>by_cases h2:p.2.1≤2097152<;>simp[h1,h2]
theorem j5(c:List Pln):(zd c).val=some (chk c,()):=by
 unfold zd chk;by_cases h:48<c.length
 ·rw[if_pos (by rw[yd,zC];omega),if_pos h,Comp.zB]
 ·rw[if_neg (by rw[yd,zC];omega),if_neg h]
  have h1:=ZQ c okP (c:=(Sum.inr 12:Unit⊕Int)) (d:=Sum.inl ())
   (body:=(fun (x:Int)=>if ltI x (zF c)=true then
        (idx c x).bind fun x_1=>(Go.F.gW x_1).bind fun x_2=>if ntB x_2.1=true then Comp.pure (.done (Sum.inr 12)) else Comp.pure (.next (zJ .i64 x 1))
       else Comp.pure (.done (Sum.inl ()))))
   (fun i p hx=>by
    have hlt:=zO hx;rw[if_pos (by rw[zH,zC];omega),zA,zL hx,zLB,zA,DL,zLB,Xr,yM,zM (show i<9223372036854775807 by omega)]
    cases okP p<;>simp)
   (by rw[if_neg (by rw[zH,zC];omega),Comp.zB])
  rw[zA];refine(congrArg (fun o=>Option.bind o _) h1).trans ?_
  rw[zLB];cases c.all okP<;>exact Comp.zB _
def cr(a b:V3):V3:=(a.2.1 * b.2.2.1-a.2.2.1 * b.2.1,a.2.2.1 * b.1-a.1 * b.2.2.1,a.1 * b.2.1-a.2.1 * b.1,())
def dt(a b:V3):Int:=a.1 * b.1+a.2.1 * b.2.1+a.2.2.1 * b.2.2.1
def ad(a b:V3):V3:=(a.1+b.1,a.2.1+b.2.1,a.2.2.1+b.2.2.1,())
def sc(a:V3)(n:Int):V3:=(a.1 * n,a.2.1 * n,a.2.2.1 * n,())
def Bd(k:Int)(v:V3):Prop:=(-k≤v.1∧v.1≤k)∧(-k≤v.2.1∧v.2.1≤k)∧(-k≤v.2.2.1∧v.2.2.1≤k)
theorem vr{a b A B:Int}(ha : -A≤a∧a≤A)(hb : -B≤b∧b≤B) : -(A * B)≤a * b∧a * b≤A * B:=by
 have hA:0≤A:=by omega
 have hB:0≤B:=by omega
 have h1:(a * b).natAbs≤(A * B).natAbs:=by
  rw[Int.natAbs_mul,Int.natAbs_mul];exact Nat.mul_le_mul (by omega) (by omega)
 have h2:0≤A * B:=Int.mul_nonneg hA hB;omega
theorem zCt{v:V3}(h:okN v=true):Bd 4608 v:=by
 have:=Ec h;exact⟨this v.1 (by simp),this v.2.1 (by simp),this v.2.2.1 (by simp)⟩
theorem KC{a b:V3}(ha:Bd 4608 a)(hb:Bd 4608 b):Bd 42467328 (cr a b):=by
 obtain⟨a1,a2,a3⟩:=ha;obtain⟨b1,b2,b3⟩:=hb;have e1:=vr a2 b3;have e2:=vr a3 b2;have e3:=vr a3 b1;have e4:=vr a1 b3;have e5:=vr a1 b2;have e6:=vr a2 b1
 unfold cr Bd;simp only;refine⟨?_,?_,?_⟩<;>omega
theorem K6{a:V3}{n A B:Int}(ha:Bd A a)(hn : -B≤n∧n≤B):Bd (A * B) (sc a n):=⟨vr ha.1 hn,vr ha.2.1 hn,vr ha.2.2 hn⟩
theorem Bd.le{A B:Int}{v:V3}(h:Bd A v)(hAB:A≤B):Bd B v:=by
 obtain⟨h1,h2,h3⟩:=h;refine⟨?_,?_,?_⟩<;>omega
theorem Jd{a b:V3}(ha:Bd 4608 a)(hb:Bd 4608 b):(Zn a b).val=some (cr a b,()):=by
 obtain⟨a1,a2,a3⟩:=ha;obtain⟨b1,b2,b3⟩:=hb;have e1:=vr a2 b3;have e2:=vr a3 b2;have e3:=vr a3 b1;have e4:=vr a1 b3;have e5:=vr a1 b2;have e6:=vr a2 b1
 unfold Zn;rw[Comp.zB,YN (m:=a.2.1) (by omega),YN (m:=a.2.2.1) (by omega),YN (m:=a.2.2.1) (by omega),YN (m:=a.1) (by omega),YN (m:=a.1) (by omega),YN (m:=a.2.1) (by omega),
  YK (by omega),YK (by omega),YK (by omega)]
 rfl
theorem XY{a b:V3}(ha:Bd 4608 a)(hb:Bd 4608 b):(vh a b).val=some (cr a b,()):=Jd ha hb
theorem uz{a b:V3}(ha:Bd 4608 a)(hb:Bd 42467328 b):(Ze a b).val=some (dt a b,()):=by
 obtain⟨a1,a2,a3⟩:=ha;obtain⟨b1,b2,b3⟩:=hb;have e1:=vr a1 b1;have e2:=vr a2 b2;have e3:=vr a3 b3
 unfold Ze;rw[Comp.zB,YN (m:=a.1) (by omega),YN (m:=a.2.1) (by omega),YN (m:=a.2.2.1) (by omega),yh (m:=a.1 * b.1) (by omega),yh (by omega)]
 rfl
theorem NL{a b:V3}(ha:Bd 4608 a)(hb:Bd 42467328 b):(YC a b).val=some (dt a b,()):=uz ha hb
theorem JV{a:V3}{n:Int}(h:Bd 9223372036854775807 (sc a n)):(Yi a n).val=some (sc a n,()):=by
 obtain⟨h1,h2,h3⟩:=h;unfold sc at h1 h2 h3;simp only at h1 h2 h3;unfold Yi;rw[Comp.zB,YN (m:=a.1) (by omega),YN (m:=a.2.1) (by omega),YN (m:=a.2.2.1) (by omega)]
 rfl
theorem Yz{a:V3}{n:Int}(h:Bd 9223372036854775807 (sc a n)):(yi a n).val=some (sc a n,()):=JV h
theorem u9{a b:V3}(h:Bd 9223372036854775807 (ad a b)):(XN a b).val=some (ad a b,()):=by
 obtain⟨h1,h2,h3⟩:=h;unfold ad at h1 h2 h3;simp only at h1 h2 h3;unfold XN;rw[Comp.zB,yh (m:=a.1) (by omega),yh (m:=a.2.1) (by omega),yh (m:=a.2.2.1) (by omega)]
 rfl
theorem BB{a b:V3}(h:Bd 9223372036854775807 (ad a b)):(kU a b).val=some (ad a b,()):=u9 h
theorem rI{a b:V3}{A B:Int}(ha:Bd A a)(hb:Bd B b):Bd (A+B) (ad a b):=by
 obtain⟨a1,a2,a3⟩:=ha;obtain⟨b1,b2,b3⟩:=hb;unfold ad Bd;simp only;refine⟨?_,?_,?_⟩<;>omega
def det(p q r:Pln):Int:=dt p.1 (cr q.1 r.1)
def num(p q r:Pln):V3:=ad (ad (sc (cr q.1 r.1) p.2.1) (sc (cr r.1 p.1) q.2.1)) (sc (cr p.1 q.1) r.2.1)
theorem mZ(p q r:Pln):det p q r=dt r.1 (cr p.1 q.1):=by
 unfold det dt cr;simp only[Int.mul_sub];generalize p.1.1=a1;generalize p.1.2.1=a2;generalize p.1.2.2.1=a3;generalize q.1.1=b1;generalize q.1.2.1=b2;generalize q.1.2.2.1=b3;generalize r.1.1=c1;generalize r.1.2.1=c2;generalize r.1.2.2.1=c3;have e:∀x y z:Int,x * (y * z)=z * (x * y):=fun x y z=>by rw[←Int.mul_assoc,Int.mul_comm]
 have e1:=e a1 b2 c3;have e2:=e a1 b3 c2;have e3:=e a2 b3 c1;have e4:=e a2 b1 c3;have e5:=e a3 b1 c2;have e6:=e a3 b2 c1
 rw[e1,e2,e3,e4,e5,e6,Int.mul_comm a2 b1,Int.mul_comm a3 b1,Int.mul_comm a3 b2];rw[Int.mul_comm b1 a2,Int.mul_comm b1 a3,Int.mul_comm b2 a3];omega
def okB(p:Pln):Prop:=Bd 4608 p.1∧(-2097152≤p.2.1∧p.2.1≤2097152)
theorem zFS{p:Pln}(h:okP p=true):okB p:=by
 unfold okP okv at h;simp only[zLD,decide_eq_true_eq]at h;exact⟨zCt h.1,h.2.2⟩
theorem Em{p q r:Pln}(hp:okB p)(hq:okB q)(hr:okB r) : -600000000000≤det p q r∧det p q r≤600000000000:=by
 have hc:=KC hq.1 hr.1;have e1:=vr hp.1.1 hc.1;have e2:=vr hp.1.2.1 hc.2.1;have e3:=vr hp.1.2.2 hc.2.2
 unfold det dt;omega
theorem Ed{p q r:Pln}(hp:okB p)(hq:okB q)(hr:okB r):Bd 300000000000000 (num p q r):=by
 have h1:=K6 (KC hq.1 hr.1) hp.2;have h2:=K6 (KC hr.1 hp.1) hq.2
 have h3:=K6 (KC hp.1 hq.1) hr.2;exact(rI (rI h1 h2) h3).le (by decide)
def Z9(v:V3)(w:Int):Nat:=Nat.gcd (Nat.gcd v.1.natAbs v.2.1.natAbs) (Nat.gcd v.2.2.1.natAbs w.natAbs)
def mkP(v:V3)(w:Int):Pnt :=
 let g:Int:=(Z9 v w:Nat)
 if w<0 then ((-v.1).tdiv g,(-v.2.1).tdiv g,(-v.2.2.1).tdiv g,(-w).tdiv g,()) else (v.1.tdiv g,v.2.1.tdiv g,v.2.2.1.tdiv g,w.tdiv g,())
def mt(p q r:Pln):Option Pnt:=if det p q r=0 then none else some (mkP (num p q r) (det p q r))
def uQ:Option Pnt→Pnt×Bool×Unit
 |some x=>(x,true,())
 |none=>((0,0,0,0,()),false,())
theorem Be{v:V3}{w:Int}(h:w≠0):0<Z9 v w:=by
 unfold Z9;refine Nat.gcd_pos_of_pos_right _ (Nat.gcd_pos_of_pos_right _ (by omega))
theorem E4{a b:Int}:(a.tdiv b).natAbs≤a.natAbs:=by rw[Int.natAbs_tdiv];exact Nat.div_le_self _ _
theorem kr{a b:Int}(hb:b≠0)(ha : -9223372036854775808<a∧a<9223372036854775808):(quo .i64 a b).val=some (a.tdiv b):=by
 unfold quo;rw[if_neg hb,Comp.zB];have:=E4 (a:=a) (b:=b)
 exact congrArg some (Dx (by omega))
theorem nD{v:V3}{w:Int}(hv:Bd 300000000000000 v)(hw : -600000000000≤w∧w≤600000000000):(Kj [v.1,v.2.1,v.2.2.1,w]).val=some (((Z9 v w:Nat):Int),()):=by
 unfold Kj;generalize hl:[v.1,v.2.1,v.2.2.1,w]=l;have hlen:l.length=4:=by rw[←hl];rfl
 have key:∀(ys zs:List Int) (g:Int),l=zs++ys→∃r,r.natAbs=ys.foldl (fun g n=>Nat.gcd g n.natAbs) g.natAbs∧(Comp.loop
     (fun (x:Int×Int)=>if ltI x.2 (zF l)=true then
       (idx l x.2).bind fun x_1=>(Comp.loop
           (fun (x:Int×Int)=>if neI x.2 0=true then (rem x.1 x.2).bind fun x_2=>Comp.pure (.next (x.2,x_2)) else Comp.pure (.done x.1))
           (x.1,x_1)).bind fun x_2=>Comp.pure (.next (x_2,zJ .i64 x.2 1))
      else Comp.pure (.done x.1)) (g,(zs.length:Int))).val=some r:=by
  intro ys
  induction ys with
  |nil =>
   intro zs g hx;refine⟨g,rfl,?_⟩;rw[zN,if_neg (by rw[zH,zC,hx];simp),Comp.zB,zLB]
  |cons y ys ih =>
   intro zs g hx;have hy:l[zs.length]?=some y:=by rw[hx];simp
   have hlt:=zO hy;obtain⟨r1,h1,h2⟩:=Gt y g;obtain⟨r,h3,h4⟩:=ih (zs++[y]) r1 (by rw[hx];simp)
   refine⟨r,by rw[h3,List.foldl_cons,h1],?_⟩
   rw[zN,if_pos (by rw[zH,zC];show (zs.length:Int)<_;omega),zA,zL hy,zLB,zA,h2,zLB,Comp.zB,zM (by omega),zLB]
   simpa using h4
 obtain⟨r,h1,h2⟩:=key l [] 0 rfl;rw[zA];refine(congrArg (fun o=>Option.bind o _) h2).trans ?_
 rw[zLB,Comp.zB];have hg:r.natAbs=Z9 v w:=by
  rw[h1,←hl];simp only[List.foldl_cons,List.foldl_nil,Int.natAbs_zero,Nat.gcd_zero_left];unfold Z9;rw[Nat.gcd_assoc]
 have hgw:(Z9 v w)≤900000000000000:=by
  unfold Z9;by_cases hw0:w=0
  ·by_cases h3:v.2.2.1=0
   ·by_cases h2:v.2.1=0
    ·rw[hw0,h3,h2];simp;have:=hv.1;omega
    ·refine zLK (Nat.le_of_dvd (by omega) (Nat.dvd_trans (Nat.gcd_dvd_left _ _) (Nat.gcd_dvd_right _ _)):_≤v.2.1.natAbs) ?_
     have:=hv.2.1;omega
   ·refine zLK (Nat.le_of_dvd (by omega) (Nat.dvd_trans (Nat.gcd_dvd_right _ _) (Nat.gcd_dvd_left _ _)):_≤v.2.2.1.natAbs) ?_
    have:=hv.2.2;omega
  ·refine zLK (Nat.le_of_dvd (by omega) (Nat.dvd_trans (Nat.gcd_dvd_right _ _) (Nat.gcd_dvd_right _ _)):_≤w.natAbs) ?_
   omega
 rw[qv (by omega),hg]
theorem J3(a b:Nat):(zz (a:Int) (b:Int)).val=some (((Nat.gcd a b:Nat):Int),()):=by
 unfold zz;obtain⟨r,h1,h2⟩:=Gt (b:Int) (a:Int);have key:∀(b a:Nat),(Comp.loop
   (fun (x:Int×Int)=>if neI x.2 0=true then (rem x.1 x.2).bind fun x_2=>Comp.pure (.next (x.2,x_2)) else Comp.pure (.done x.1)) ((a:Int),(b:Int))).val=some ((Nat.gcd a b:Nat):Int):=by
  intro b
  induction b using Nat.strongRecOn with
  |_ b ih =>
   intro a;rw[zN];by_cases hb:b=0
   ·subst hb
    rw[if_neg (by rw[zf];simp),Comp.zB,zLB];simp
   ·have h2:(rem (a:Int) (b:Int)).val=some ((a % b:Nat):Int):=by rw[Zv (by omega)];rfl
    rw[if_pos (by rw[zf];show (b:Int)≠0;omega),zA,h2,zLB,Comp.zB,zLB]
    refine(ih (a % b) (Nat.mod_lt _ (by omega)) b).trans ?_
    rw[show Nat.gcd a b=Nat.gcd b (a % b) by rw[Nat.gcd_comm a b,Nat.gcd_rec,Nat.gcd_comm]]
 rw[zA,key,zLB,Comp.zB]
theorem zCz{v:V3}{k:Int}(h:Bd k v):Bd k (sc v (-1)):=by
 obtain⟨h1,h2,h3⟩:=h;unfold sc Bd;simp only;refine⟨?_,?_,?_⟩<;>omega
theorem rQ{p q r:Pln}(hp:okB p)(hq:okB q)(hr:okB r):(XP [p,q,r]).val=some (uQ (mt p q r)):=by
 unfold XP;have hd:=Em hp hq hr
 have hn:=Ed hp hq hr;have c1:=KC hq.1 hr.1;have c2:=KC hr.1 hp.1;have c3:=KC hp.1 hq.1
 have s1:=K6 c1 hp.2;have s2:=K6 c2 hq.2;have s3:=K6 c3 hr.2
 have z:Bd 0 (0,0,0,()):=by unfold Bd;simp
 have a1:=rI z s1;have a2:=rI a1 s2;have a3:=rI a2 s3
 have hz:ad (0,0,0,()) (sc (cr q.1 r.1) p.2.1)=sc (cr q.1 r.1) p.2.1:=by unfold ad;simp
 have r1:(rem (zJ .i64 0 1) 3).val=some 1:=by rw[Zv (by decide)];rfl
 have r2:(rem (zJ .i64 0 2) 3).val=some 2:=by rw[Zv (by decide)];rfl
 have r3:(rem (zJ .i64 1 1) 3).val=some 2:=by rw[Zv (by decide)];rfl
 have r4:(rem (zJ .i64 1 2) 3).val=some 0:=by rw[Zv (by decide)];rfl
 have r5:(rem (zJ .i64 2 1) 3).val=some 0:=by rw[Zv (by decide)];rfl
 have r6:(rem (zJ .i64 2 2) 3).val=some 1:=by rw[Zv (by decide)];rfl
 have i0:(idx [p,q,r] 0).val=some p:=Kw rfl;have i1:(idx [p,q,r] 1).val=some q:=Kw rfl
 have i2:(idx [p,q,r] 2).val=some r:=Kw rfl;have hloop:(Comp.loop
     (fun (x:Int×Int×Int×Int×Int×Unit)=>if ltI x.2.1 3=true then
       (idx [p,q,r] x.2.1).bind fun x_1=>(rem (zJ .i64 x.2.1 1) 3).bind fun x_2=>(idx [p,q,r] x_2).bind fun x_3=>(rem (zJ .i64 x.2.1 2) 3).bind fun x_4=>(idx [p,q,r] x_4).bind fun x_5=>(Go.F.Zn x_3.1 x_5.1).bind fun x_6=>(Go.F.Ze x_1.1 x_6.1).bind fun x_7=>(Go.F.Yi x_6.1 x_1.2.1).bind fun x_8=>(Go.F.XN x.2.2 x_8.1).bind fun x_9=>Comp.pure (.next (x_7.1,zJ .i64 x.2.1 1,x_9.1))
      else Comp.pure (.done (x.1,x.2.2)))
     (0,0,0,0,0,())).val=some ((det p q r,num p q r):Int×V3):=by
  rw[zN,if_pos (by rw[zH];show (0:Int)<3;omega)]
  simp only[zA,i0,r1,i1,r2,i2,Jd hq.1 hr.1,uz hp.1 c1,JV (s1.le (by decide)),zLB,Comp.zB]
  rw[u9 (a1.le (by decide)),zLB,zLB]
  simp only;rw[zN,if_pos (by rw[zH];show zJ .i64 0 1<3;decide)]
  simp only[show zJ .i64 0 1=1 from rfl,zA,i1,r3,i2,r4,i0,Jd hr.1 hp.1,uz hq.1 c2,JV (s2.le (by decide)),zLB,Comp.zB]
  rw[u9 (a2.le (by decide)),zLB,zLB]
  simp only;rw[zN,if_pos (by rw[zH];show zJ .i64 1 1<3;decide)]
  simp only[show zJ .i64 1 1=2 from rfl,zA,i2,r5,i0,r6,i1,Jd hp.1 hq.1,uz hr.1 c3,JV (s3.le (by decide)),zLB,Comp.zB]
  rw[u9 (a3.le (by decide)),zLB,zLB]
  simp only;rw[zN,if_neg (by rw[zH];show ¬(zJ .i64 2 1<3);decide),Comp.zB,zLB,hz,mZ]
  rfl
 rw[zA];refine(congrArg (fun o=>Option.bind o _) hloop).trans ?_
 rw[zLB];simp only;unfold mt;by_cases h0:det p q r=0
 ·rw[if_pos (by rw[yw];exact h0),if_pos h0,Comp.zB];rfl
 ·rw[if_neg (by rw[yw];exact h0),if_neg h0,zA,nD hn hd,zLB,vZ]
  have hg:=Be (v:=num p q r) h0;have hgb:Z9 (num p q r) (det p q r)≤600000000000:=by
   refine zLK (Nat.le_of_dvd (by omega) (Nat.dvd_trans (Nat.gcd_dvd_right _ _) (Nat.gcd_dvd_right _ _)):_≤(det p q r).natAbs) ?_
   omega
  obtain⟨n1,n2,n3⟩:=hn;by_cases hneg:det p q r<0
  ·rw[if_pos (by rw[zH];exact hneg),Jg (by omega)]
   rw[zA,kr (by omega) (by omega),zLB,zA,kr (by omega) (by omega),zLB,zA,kr (by omega) (by omega),zLB,zA,kr (by omega) (by omega),zLB,Comp.zB]
   unfold mkP;simp only[if_pos hneg,Int.tdiv_neg,Int.neg_tdiv];rfl
  ·rw[if_neg (by rw[zH];exact hneg)]
   rw[zA,kr (by omega) (by omega),zLB,zA,kr (by omega) (by omega),zLB,zA,kr (by omega) (by omega),zLB,zA,kr (by omega) (by omega),zLB,Comp.zB]
   unfold mkP;simp only[if_neg hneg];rfl
theorem IP{p q r:Pln}(hp:okB p)(hq:okB q)(hr:okB r):(vJ p q r).val=some (uQ (mt p q r)):=by
 unfold vJ;have hd:=Em hp hq hr
 have hn:=Ed hp hq hr;have c1:=KC hq.1 hr.1;have c2:=KC hr.1 hp.1;have c3:=KC hp.1 hq.1
 have s1:=K6 c1 hp.2;have s2:=K6 c2 hq.2;have s3:=K6 c3 hr.2
 have a2:=rI s1 s2;have a3:=rI a2 s3
 rw[zA,XY hq.1 hr.1,zLB,zA,NL hp.1 c1,zLB];unfold mt;by_cases h0:det p q r=0
 ·rw[if_pos (by rw[yw];exact h0),if_pos h0,Comp.zB];rfl
 ·rw[if_neg (by rw[yw];exact h0),if_neg h0]
  rw[zA,XY hq.1 hr.1,zLB,zA,Yz (s1.le (by decide)),zLB,zA,XY hr.1 hp.1,zLB,zA,Yz (s2.le (by decide)),zLB,
   zA,BB (a2.le (by decide)),zLB,zA,XY hp.1 hq.1,zLB,zA,Yz (s3.le (by decide)),zLB,zA,BB (a3.le (by decide)),zLB,vZ]
  change (if ltI (det p q r) 0=true then (yi (num p q r) (Int.negSucc 0)).bind _ else _:Comp (Pnt×Bool×Unit)).val=_
  have key:∀(w:Int) (v:V3),w≠0→(0<w∧w≤600000000000)→Bd 300000000000000 v→((zz (rW v.1 (Yl .i64 v.1)) (rW v.2.1 (Yl .i64 v.2.1))).bind fun x_9=>(Go.F.zz (rW v.2.2.1 (Yl .i64 v.2.2.1)) w).bind fun x_10=>(Go.F.zz x_9.1 x_10.1).bind fun x_11=>(quo .i64 v.1 x_11.1).bind fun x_12=>(quo .i64 v.2.1 x_11.1).bind fun x_13=>(quo .i64 v.2.2.1 x_11.1).bind fun x_14=>(quo .i64 w x_11.1).bind fun x=>(Comp.pure ((x_12,x_13,x_14,x,()),true,()):Comp (Pnt×Bool×Unit))).val =
     some ((v.1.tdiv (Z9 v w:Nat),v.2.1.tdiv (Z9 v w:Nat),v.2.2.1.tdiv (Z9 v w:Nat),w.tdiv (Z9 v w:Nat),()),true,()):=by
   intro w v hw0 hw hv;obtain⟨n1,n2,n3⟩:=hv;have hg:=Be (v:=v) hw0
   have ew:w=((w.natAbs:Nat):Int):=by omega
   rw[qv (by omega),qv (by omega),qv (by omega)]
   rw[zA,J3,zLB,zA];have h2:(zz ((v.2.2.1.natAbs:Nat):Int) w).val=some (((Nat.gcd v.2.2.1.natAbs w.natAbs:Nat):Int),()):=by
    conv=>lhs;rw[ew]
    rw[J3]
   rw[h2,zLB,zA,J3,zLB]
   change ((quo .i64 v.1 ((Z9 v w:Nat):Int)).bind _).val=_
   rw[zA,kr (by omega) (by omega),zLB]
   change ((quo .i64 v.2.1 ((Z9 v w:Nat):Int)).bind _).val=_
   rw[zA,kr (by omega) (by omega),zLB]
   change ((quo .i64 v.2.2.1 ((Z9 v w:Nat):Int)).bind _).val=_
   rw[zA,kr (by omega) (by omega),zLB]
   change ((quo .i64 w ((Z9 v w:Nat):Int)).bind _).val=_
   rw[zA,kr (by omega) (by omega),zLB,Comp.zB]
  by_cases hneg:det p q r<0
  ·rw[if_pos (by rw[zH];exact hneg)]
   have hb:Bd 300000000000000 (sc (num p q r) (Int.negSucc 0)):=zCz hn;rw[zA,Yz (hb.le (by decide)),zLB,show Yl .i64 (dt p.1 (cr q.1 r.1)) = -det p q r from Jg (m:=det p q r) (by omega)]
   refine(key (-det p q r) (sc (num p q r) (Int.negSucc 0)) (by omega) (by omega) hb).trans ?_
   have hg:Z9 (sc (num p q r) (Int.negSucc 0)) (-det p q r)=Z9 (num p q r) (det p q r):=by
    unfold Z9 sc;simp only[Int.natAbs_mul,Int.natAbs_neg];rw[show (Int.negSucc 0).natAbs=1 from rfl]
    simp
   unfold uQ mkP;simp only[if_pos hneg,hg];unfold sc;simp only[show Int.negSucc 0 = -1 from rfl,Int.mul_neg,Int.mul_one]
  ·rw[if_neg (by rw[zH];exact hneg)]
   refine(key (det p q r) (num p q r) h0 (by omega) hn).trans ?_
   unfold uQ mkP;simp only[if_neg hneg]
theorem Yn(ys:List τ)(c:Comp (List τ×β)):(tell ys c).val=c.val.map fun p=>(ys++p.1,p.2):=by
 unfold tell;rw[zA];cases c.val<;>simp
theorem tV{body:σ→Comp (List τ×Comp.Step σ ε)}{s s':σ}{ys zs:List τ}{e:ε}(h1:(body s).val=some (ys,.next s'))(h2:(YF body s').val=some (zs,e)):(YF body s).val=some (ys++zs,e):=by
 obtain⟨n,hn⟩:=vM.1 h1;obtain⟨m,hm⟩:=vM.1 h2;refine vM.2 ⟨max n m+1,?_⟩;have a1:=(body s).mono (show n≤max n m+1 by omega) hn
 have a2:kW body (max n m+1) (max n m) s'=some (zs,e):=wm (by omega) (by omega) hm
 show kW body (max n m+1) (max n m+1) s=_
 simp only[kW,a1,a2]
theorem J0{body:σ→Comp (List τ×Comp.Step σ ε)}{s:σ}{ys:List τ}{e:ε}(h1:(body s).val=some (ys,.done e)):(YF body s).val=some (ys,e):=by
 obtain⟨n,hn⟩:=vM.1 h1;refine vM.2 ⟨n+1,?_⟩;have a1:=(body s).mono (show n≤n+1 by omega) hn
 show kW body (n+1) (n+1) s=_
 simp only[kW,a1]
theorem Ju{body:Int→Comp (List τ×Comp.Step Int ε)}(xs:List α)(g:Nat→List τ){e:ε}(hb:∀(i:Nat) x,xs[i]?=some x→(body (i:Int)).val=some (g i,.next ((i+1:Nat):Int)))(he:(body (xs.length:Int)).val=some ([],.done e)) :
  (YF body 0).val=some ((List.range xs.length).flatMap g,e):=by
 have key:∀(m k:Nat),k+m=xs.length→(YF body (k:Int)).val=some ((List.range' k m).flatMap g,e):=by
  intro m
  induction m with
  |zero =>
   intro k hk;rw[show k=xs.length by omega]
   exact J0 he
  |succ m ih =>
   intro k hk;obtain⟨x,hx⟩:=zK (xs:=xs) (k:=k) (by omega)
   rw[List.range'_succ,List.flatMap_cons];exact tV (hb k x hx) (ih (k+1) (by omega))
 rw[List.range_eq_range'];exact key xs.length 0 (by omega)
def prs:List α→List (α×α)
 | []=>[]
 |q::l=>l.map (fun s=>(q,s))++prs l
def tri:List α→List (α×α×α)
 | []=>[]
 |p::l=>(prs l).map (fun t=>(p,t))++tri l
theorem Ir(l:List α)(f:α→List β)(i:Nat)(g:Nat→List β)(h:∀(k:Nat) x,l[k]?=some x→g (i+k)=f x):(List.range' i l.length).flatMap g=l.flatMap f:=by
 induction l generalizing i with
 |nil=>rfl
 |cons x l ih =>
  rw[zLL,List.range'_succ,List.flatMap_cons,List.flatMap_cons];have h0:=h 0 x rfl
  rw[Nat.add_zero]at h0;rw[h0,ih (i+1) fun k y hk=>by rw[←h (k+1) y (by simpa using hk)];congr 1;omega]
theorem AP(l:List α)(f:α→β):l.flatMap (fun s=>[f s])=l.map f:=by
 induction l with
 |nil=>rfl
 |cons x l ih=>rw[List.flatMap_cons,ih];rfl
theorem IW(l:List α)(g:Nat→List β)(f:α×α→β)(i:Nat)(h:∀(k:Nat) q,l[k]?=some q→g (i+k)=(l.drop (k+1)).map fun s=>f (q,s)):(List.range' i l.length).flatMap g=(prs l).map f:=by
 induction l generalizing i with
 |nil=>rfl
 |cons x l ih =>
  rw[zLL,List.range'_succ,List.flatMap_cons];have h0:=h 0 x rfl
  rw[Nat.add_zero]at h0;rw[h0,prs,List.map_append,List.map_map]
  congr 1
  exact ih (i+1) fun k y hk=>by
   have:=h (k+1) y (by simpa using hk)
   rw[show i+1+k=i+(k+1) by omega,this];rfl
theorem IC(l:List α)(g:Nat→List β)(f:α×α×α→β)(i:Nat)(h:∀(k:Nat) p,l[k]?=some p→g (i+k)=(prs (l.drop (k+1))).map fun t=>f (p,t)):(List.range' i l.length).flatMap g=(tri l).map f:=by
 induction l generalizing i with
 |nil=>rfl
 |cons x l ih =>
  rw[zLL,List.range'_succ,List.flatMap_cons];have h0:=h 0 x rfl
  rw[Nat.add_zero]at h0;rw[h0,tri,List.map_append,List.map_map]
  congr 1
  exact ih (i+1) fun k y hk=>by
   have:=h (k+1) y (by simpa using hk)
   rw[show i+1+k=i+(k+1) by omega,this];rfl
theorem nq{xs:List α}{k:Nat}(h:k≤xs.length):(sub xs (k:Int) (zF xs)).val=some (xs.drop k):=by
 rw[YQ (by rw[zC];omega),zC];simp
theorem lx{r:List Pln}(hl:r.length<4611686018427387904):(vu r).val=some ((tri r).map fun t=>([t.1,t.2.1,t.2.2],())):=by
 unfold vu;have inner:∀(p q:Pln) (l:List Pln),l.length<4611686018427387904→(YF
                     (fun (x_5:Int)=>if ltI x_5 (zF l)=true then
                       (idx l x_5).bind fun x=>tell [([p,q,x],())] (Comp.pure ([],.next (zJ .i64 x_5 1)))
                      else Comp.pure ([],.done (Sum.inl ():Unit⊕Unit)))
                     0).val=some (l.map fun s=>([p,q,s],()),Sum.inl ()):=by
  intro p q l hl;have h1:=Ju l (fun i=>match l[i]? with|some s=>[([p,q,s],())]|none=>[]) (e:=(Sum.inl ():Unit⊕Unit)) (body:=(fun (x_5:Int)=>if ltI x_5 (zF l)=true then
                       (idx l x_5).bind fun x=>tell [([p,q,x],())] (Comp.pure ([],.next (zJ .i64 x_5 1)))
                      else Comp.pure ([],.done (Sum.inl ():Unit⊕Unit))))
   (fun i x hx=>by
    have hlt:=zO hx;rw[if_pos (by rw[zH,zC];omega),zA,zL hx,zLB,Yn,Comp.zB,zM (by omega),hx]
    rfl)
   (by rw[if_neg (by rw[zH,zC];omega),Comp.zB])
  rw[h1,List.range_eq_range',Ir l (fun s=>[([p,q,s],())]) 0 _ (fun k x hk=>by rw[Nat.zero_add,hk])]
  rw[AP]
 have mid:∀(p:Pln) (i:Nat),i<r.length→(YF
              (fun (x_3:Int)=>if ltI x_3 (zF (r.drop (i+1)))=true then
                (idx (r.drop (i+1)) x_3).bind fun x_4=>(sub r (zJ .i64 (zJ .i64 (i:Int) x_3) 2) (zF r)).bind fun x=>(YF
                     (fun (x_5:Int)=>if ltI x_5 (zF x)=true then
                       (idx x x_5).bind fun x=>tell [([p,x_4,x],())] (Comp.pure ([],.next (zJ .i64 x_5 1)))
                      else Comp.pure ([],.done (Sum.inl ():Unit⊕Unit)))
                     0).bind fun (p:List (List (Pln)×Unit)×(Unit⊕Unit))=>tell p.1
                    (match p.2 with
                    |Sum.inl x=>Comp.pure ([],.next (zJ .i64 x_3 1))
                    |Sum.inr x=>Comp.pure ([],.done (Sum.inr ():Unit⊕Unit)))
               else Comp.pure ([],.done (Sum.inl ():Unit⊕Unit)))
              0).val=some ((prs (r.drop (i+1))).map fun t=>([p,t.1,t.2],()),Sum.inl ()):=by
  intro p i hi;have hdl:(r.drop (i+1)).length=r.length-(i+1):=List.length_drop ..
  have h1:=Ju (r.drop (i+1)) (fun j=>match (r.drop (i+1))[j]? with|some q=>((r.drop (i+1)).drop (j+1)).map fun s=>([p,q,s],())|none=>[]) (e:=(Sum.inl ():Unit⊕Unit)) (body:=(fun (x_3:Int)=>if ltI x_3 (zF (r.drop (i+1)))=true then
                (idx (r.drop (i+1)) x_3).bind fun x_4=>(sub r (zJ .i64 (zJ .i64 (i:Int) x_3) 2) (zF r)).bind fun x=>(YF
                     (fun (x_5:Int)=>if ltI x_5 (zF x)=true then
                       (idx x x_5).bind fun x=>tell [([p,x_4,x],())] (Comp.pure ([],.next (zJ .i64 x_5 1)))
                      else Comp.pure ([],.done (Sum.inl ():Unit⊕Unit)))
                     0).bind fun (p:List (List (Pln)×Unit)×(Unit⊕Unit))=>tell p.1
                    (match p.2 with
                    |Sum.inl x=>Comp.pure ([],.next (zJ .i64 x_3 1))
                    |Sum.inr x=>Comp.pure ([],.done (Sum.inr ():Unit⊕Unit)))
               else Comp.pure ([],.done (Sum.inl ():Unit⊕Unit))))
   (fun j q hq=>by
    have hlt:=zO hq;have e1:zJ .i64 (zJ .i64 (i:Int) (j:Int)) 2=((i+j+2:Nat):Int):=by rw[yh (m:=(i:Int)) (by omega),yh (by omega)];omega
    rw[if_pos (by rw[zH,zC];omega),zA,zL hq,zLB,e1,zA,nq (by omega),zLB,zA,inner p q _ (by rw[List.length_drop];omega),zLB,Yn]
    simp only;rw[Comp.zB,zM (by omega),hq,List.drop_drop]
    simp only[Option.map_some,List.append_nil];rw[show i+1+(j+1)=i+j+2 by omega])
   (by rw[if_neg (by rw[zH,zC];omega),Comp.zB])
  rw[h1,List.range_eq_range',IW (r.drop (i+1)) _ (fun t=>([p,t.1,t.2],())) 0 (fun k q hk=>by rw[Nat.zero_add,hk])]
 have h1:=Ju r (fun i=>match r[i]? with|some p=>(prs (r.drop (i+1))).map fun t=>([p,t.1,t.2],())|none=>[]) (e:=(Sum.inl ():Unit⊕Unit)) (body:=(fun (x:Int)=>if ltI x (zF r)=true then
         (idx r x).bind fun x_1=>(sub r (zJ .i64 x 1) (zF r)).bind fun x_2=>(YF
              (fun (x_3:Int)=>if ltI x_3 (zF x_2)=true then
                (idx x_2 x_3).bind fun x_4=>(sub r (zJ .i64 (zJ .i64 x x_3) 2) (zF r)).bind fun x=>(YF
                     (fun (x_5:Int)=>if ltI x_5 (zF x)=true then
                       (idx x x_5).bind fun x=>tell [([x_1,x_4,x],())] (Comp.pure ([],.next (zJ .i64 x_5 1)))
                      else Comp.pure ([],.done (Sum.inl ())))
                     0).bind fun (p:List (List (Pln)×Unit)×(Unit⊕Unit))=>tell p.1
                    (match p.2 with
                    |Sum.inl x=>Comp.pure ([],.next (zJ .i64 x_3 1))
                    |Sum.inr x=>Comp.pure ([],.done (Sum.inr ())))
               else Comp.pure ([],.done (Sum.inl ())))
              0).bind fun (p:List (List (Pln)×Unit)×(Unit⊕Unit))=>tell p.1
             (match p.2 with
             |Sum.inl x_3=>Comp.pure ([],.next (zJ .i64 x 1))
             |Sum.inr x=>Comp.pure ([],.done (Sum.inr ())))
        else Comp.pure ([],.done (Sum.inl ()))))
  (fun i p hp=>by
   have hlt:=zO hp;rw[if_pos (by rw[zH,zC];omega),zA,zL hp,zLB,zM (by omega),zA,nq (by omega),zLB,zA,mid p i hlt,zLB,Yn]
   simp only;rw[Comp.zB,hp];simp only[Option.map_some,List.append_nil])
  (by rw[if_neg (by rw[zH,zC];omega),Comp.zB])
 rw[List.range_eq_range',IC r _ (fun t=>([t.1,t.2.1,t.2.2],())) 0 (fun k p hk=>by rw[Nat.zero_add,hk])]at h1
 rw[zA,zA];refine(congrArg (fun o=>Option.bind (Option.bind o _) _) h1).trans ?_
 rw[zLB,Yn];simp only;rw[Comp.zB];simp only[Option.map_some,zLB,List.append_nil];exact Comp.zB _
def rm(p:Pln)(x:Pnt):Int:=W (p.2.1 * x.2.2.2.1-dt p.1 (x.1,x.2.1,x.2.2.1,()))
def ins(r:List Pln)(x:Pnt):Bool:=r.all fun p=>decide (0≤rm p x)
def kj(r:List Pln)(l:List Pnt)(t:Pln×Pln×Pln):List Pnt:=match mt t.1 t.2.1 t.2.2 with
 |none=>l
 |some x=>if x∈l then l else bif ins r x then l++[x] else l
def crn(r:List Pln):List Pnt:=(tri r).foldl (kj r) []
def full(r:List Pln):Bool:=r.all fun p=>(crn r).any fun x=>decide (0<rm p x)
theorem qM(p:Pln)(x:Pnt):(Zg p x).val=some (rm p x,()):=by
 unfold Zg Ze;rw[zA,Comp.zB,zLB,Comp.zB]
 congr 2
 unfold rm dt;simp only[Qh,RH,zDk,HN,HM,WB,WA]
theorem YD{r:List Pln}{x:Pnt}(hl:r.length<9223372036854775807):(Zq r x).val=some (ins r x,()):=by
 unfold Zq;have h1:(zb r fun z=>jF z.1 x).val=some (r.any fun p=>decide (rm p x<0),()) :=
  ZP (xs:=r) (f:=fun z=>jF z.1 x) (p:=fun p=>decide (rm p x<0)) hl fun p _=>by
   show (jF p x).val=_
   unfold jF;rw[zA,qM,zLB,Comp.zB];rfl
 rw[zA,h1,zLB,Comp.zB];unfold ins
 congr 2
 simp only[yM];rw[List.all_eq_not_any_not]
 congr 2
 funext p
 by_cases h:rm p x<0
 ·have:¬(0≤rm p x):=by omega
  simp[h,this]
 ·have:0≤rm p x:=by omega
  simp[h,this]
def rX(x y:Pnt):Bool:=adB (eqI x.1 y.1) (adB (eqI x.2.1 y.2.1) (adB (eqI x.2.2.1 y.2.2.1) (eqI x.2.2.2.1 y.2.2.2.1)))
theorem mX(x y:Pnt):rX x y=decide (x=y):=by
 obtain⟨a,b,c,d,_⟩:=x;obtain⟨a',b',c',d',_⟩:=y;unfold rX eqI adB;simp only;rw[Bool.eq_iff_iff];simp[Prod.ext_iff]
def kn(l:List Pnt):List (Pnt×Bool):=l.map fun x=>(x,true)
theorem zDM(l:List Pnt)(x:Pnt):mgB rX (kn l) x=if x∈l then some true else none:=by
 induction l with
 |nil=>rfl
 |cons y l ih =>
  show (bif rX x y then some true else mgB rX (kn l) x)=_
  rw[mX,ih];by_cases h:x=y
  ·simp[h]
  ·simp[h]
theorem zDL{l:List Pnt}{x:Pnt}(h:x ∉ l):mpB rX (kn l) x true=kn (l++[x]):=by
 induction l with
 |nil=>rfl
 |cons y l ih =>
  simp only[zLH,not_or]at h;show (bif rX x y then (x,true)::kn l else (y,true)::mpB rX (kn l) x true)=_
  rw[mX,decide_eq_false h.1,cond_false,ih h.2];rfl
theorem nk:∀ {r:List α} {t:α×α×α},t∈tri r→t.1∈r∧t.2.1∈r∧t.2.2∈r
 | [],_,h=>by cases h
 |p::l,t,h=>by
  have prs_mem:∀ {l:List α} {t:α×α},t∈prs l→t.1∈l∧t.2∈l:=by
   intro l
   induction l with
   |nil=>intro t h;cases h
   |cons q l ih =>
    intro t h;simp only[prs,zLM,List.mem_map]at h;rcases h with ⟨s,h1,rfl⟩|h
    ·exact⟨by simp,zLN _ h1⟩
    ·have:=ih h;exact⟨zLN _ this.1,zLN _ this.2⟩
  simp only[tri,zLM,List.mem_map]at h;rcases h with ⟨s,h1,rfl⟩|h
  ·have:=prs_mem h1
   exact⟨by simp,zLN _ this.1,zLN _ this.2⟩
  ·have:=nk h
   exact⟨zLN _ this.1,zLN _ this.2.1,zLN _ this.2.2⟩
theorem Ut(l:List α):(prs l).length≤l.length * l.length:=by
 induction l with
 |nil=>simp[prs]
 |cons x l ih =>
  simp only[prs,zLE,List.length_map,zLL];have:(l.length+1) * (l.length+1)=l.length * l.length+2 * l.length+1:=by
   rw[Nat.add_mul,Nat.mul_add];omega
  omega
theorem Ko(l:List α):(tri l).length≤l.length * (l.length * l.length):=by
 induction l with
 |nil=>simp[tri]
 |cons x l ih =>
  simp only[tri,zLE,List.length_map,zLL];have h1:=Ut l
  have h2:l.length * (l.length * l.length)+l.length * l.length≤(l.length+1) * ((l.length+1) * (l.length+1)):=by
   rw[Nat.add_mul,Nat.one_mul];refine Nat.add_le_add (Nat.mul_le_mul_left _ (Nat.mul_le_mul (by omega) (by omega))) (Nat.mul_le_mul (by omega) (by omega))
  omega
theorem Kh{r:List Pln}{l:List Pnt}{t:Pln×Pln×Pln}:(kj r l t).length≤l.length+1:=by
 unfold kj;split
 ·omega
 ·split
  ·omega
  ·cases ins r _<;>simp
theorem mb(r:List Pln):(crn r).length≤(tri r).length:=by
 unfold crn;have key:∀(ts:List (Pln×Pln×Pln)) (l:List Pnt),(ts.foldl (kj r) l).length≤l.length+ts.length:=by
  intro ts
  induction ts with
  |nil=>intro l;simp
  |cons t ts ih =>
   intro l;have:=ih (kj r l t)
   have:=Kh (r:=r) (l:=l) (t:=t);simp only[List.foldl_cons,zLL];omega
 have:=key (tri r) [];simpa using this
theorem JU{b k i:Bool}{c:Comp (Bool×Unit)}(hc:b=true→k=false→c.val=some (i,())){A B:Comp β} :
  ((Comp.gd (sel b (ntB k) false) c (false,())).bind fun x2=>if sel (sel b (ntB k) false) x2.1 false=true then A else B).val=(bif b && (!k && i) then A else B).val:=by
 rw[zA]
 cases b with
 |false =>
  show (Option.bind (Comp.pure (false,())).val _)=_
  rw[Comp.zB,zLB];rfl
 |true =>
  cases k with
  |true =>
   show (Option.bind (Comp.pure (false,())).val _)=_
   rw[Comp.zB,zLB];rfl
  |false =>
   have:=hc rfl rfl;show (Option.bind c.val _)=_
   rw[this,zLB];cases i<;>rfl
theorem wy{r:List Pln}(hl:r.length≤1000)(hb:∀p∈r,okB p):(vo r).val=some (crn r,()):=by
 have hL:=YW;have h3:(tri r).length≤1000000000:=by
  refine zLK (Ko r) ?_;exact Nat.mul_le_mul hl (Nat.mul_le_mul hl hl)
 unfold vo kJ;rw[zA,Comp.zB,zLB,zA,lx (by omega),zLB]
 -- the walk over a list of triples,from a list of vertices
 have key:∀(ts:List (Pln×Pln×Pln)) (l:List Pnt),(∀t∈ts,okB t.1∧okB t.2.1∧okB t.2.2)→l.length+ts.length≤1000000000→(wA
       (fun (x:List (Pnt)×List ((Pnt)×Bool))
         (d:List (Pln)×Unit) =>
        (Go.F.XP d.1).bind fun x_1=>(Comp.gd
            (sel x_1.2.1
             (ntB
              (match
               mgB
                (fun (x x_2:Pnt)=>adB (eqI x.1 x_2.1) (adB (eqI x.2.1 x_2.2.1) (adB (eqI x.2.2.1 x_2.2.2.1) (eqI x.2.2.2.1 x_2.2.2.2.1))))
                x.2 x_1.1 with
              |some x=>x
              |none=>false))
             false)
            (Go.F.Zq r x_1.1) (false,())).bind fun x_2=>jn (fun (x:List (Pnt)×List ((Pnt)×Bool))=>Comp.pure (.next (x.1,x.2)))
           fun (j :
             List (Pnt)×List ((Pnt)×Bool)→Comp (Comp.Step (List (Pnt)×List ((Pnt)×Bool)) Empty)) =>
           if
             sel
               (sel x_1.2.1
                (ntB
                 (match
                  mgB
                   (fun (x x_3:Pnt)=>adB (eqI x.1 x_3.1) (adB (eqI x.2.1 x_3.2.1) (adB (eqI x.2.2.1 x_3.2.2.1) (eqI x.2.2.2.1 x_3.2.2.2.1))))
                   x.2 x_1.1 with
                 |some x=>x
                 |none=>false))
                false)
               x_2.1 false =
              true then
            (app x.1 [x_1.1]).bind fun zs=>j
              (zs,
               mpB
                (fun (x x_3:Pnt)=>adB (eqI x.1 x_3.1) (adB (eqI x.2.1 x_3.2.1) (adB (eqI x.2.2.1 x_3.2.2.1) (eqI x.2.2.2.1 x_3.2.2.2.1))))
                x.2 x_1.1 true)
           else j (x.1,x.2))
       (ts.map fun t=>([t.1,t.2.1,t.2.2],())) (l,kn l)).val=some (.next (ts.foldl (kj r) l,kn (ts.foldl (kj r) l))):=by
  intro ts
  induction ts with
  |nil=>intro l _ _;exact Comp.zB _
  |cons t ts ih =>
   intro l hts hlen;obtain⟨h1,h2,h3⟩:=hts t (by simp)
   simp only[zLL]at hlen;rw[List.map_cons];unfold wA;have hmg:∀x,(match mgB (fun (x x_2:Pnt)=>adB (eqI x.1 x_2.1) (adB (eqI x.2.1 x_2.2.1) (adB (eqI x.2.2.1 x_2.2.2.1) (eqI x.2.2.2.1 x_2.2.2.2.1)))) (kn l) x with|some x=>x|none=>false)=decide (x∈l):=by
    intro x;show (match mgB rX (kn l) x with|some x=>x|none=>false)=_
    rw[zDM];by_cases h:x∈l<;>simp[h]
   have hlen':=Kh (r:=r) (l:=l) (t:=t);have hgo:=ih (kj r l t) (fun t' ht'=>hts t' (zLN _ ht')) (by omega)
   rw[zA,zA,rQ h1 h2 h3,zLB,List.foldl_cons]
   let B0:Comp (Comp.Step (List Pnt×List (Pnt×Bool)) Empty):=Comp.pure (.next (l,kn l))
   let A0:Pnt→Comp (Comp.Step (List Pnt×List (Pnt×Bool)) Empty):=fun x=>(app l [x]).bind fun zs=>Comp.pure (.next (zs,mpB rX (kn l) x true))
   cases hm:mt t.1 t.2.1 t.2.2 with
   |none =>
    have hcr:kj r l t=l:=by unfold kj;rw[hm]
    rw[hcr]at hgo ⊢;refine(congrArg (fun o=>Option.bind o _) ((JU (b:=false) (i:=false) (fun h=>nomatch h) (A:=A0 (0,0,0,0,())) (B:=B0)).trans (Comp.zB _))).trans ?_
    exact hgo
   |some x =>
    have hcr:kj r l t=if x∈l then l else bif ins r x then l++[x] else l:=by unfold kj;rw[hm]
    by_cases hx:x∈l
    ·rw[if_pos hx]at hcr
     rw[hcr]at hgo ⊢;have hk:=hmg x
     rw[decide_eq_true hx]at hk;have hv:∀k,k=true→(bif true && (!k && ins r x) then A0 x else B0).val=some (.next (l,kn l)):=fun k hk=>by subst hk;exact Comp.zB _
     refine(congrArg (fun o=>Option.bind o _) ((JU (b:=true) (i:=ins r x) (fun _ _=>YD (by omega)) (A:=A0 x) (B:=B0)).trans (hv _ hk))).trans ?_
     exact hgo
    ·rw[if_neg hx]at hcr
     have hk:=hmg x;rw[decide_eq_false hx]at hk
     cases hin:ins r x with
     |false =>
      rw[hin,cond_false]at hcr;rw[hcr]at hgo ⊢;have hv:∀k,k=false→(bif true && (!k && ins r x) then A0 x else B0).val=some (.next (l,kn l)):=fun k hk=>by subst hk;rw[hin];exact Comp.zB _
      refine(congrArg (fun o=>Option.bind o _) ((JU (b:=true) (i:=ins r x) (fun _ _=>YD (by omega)) (A:=A0 x) (B:=B0)).trans (hv _ hk))).trans ?_
      exact hgo
     |true =>
      rw[hin,cond_true]at hcr;rw[hcr]at hgo ⊢;have hv:∀k,k=false→(bif true && (!k && ins r x) then A0 x else B0).val=some (.next (l++[x],kn (l++[x]))):=fun k hk=>by
       subst hk;rw[hin];show ((app l [x]).bind fun zs=>(Comp.pure (.next (zs,mpB rX (kn l) x true)):Comp (Comp.Step (List Pnt×List (Pnt×Bool)) Empty))).val=_
       rw[zA,yG (by simp only[zLG];unfold LIM;omega),zLB,Comp.zB,zDL hx]
      refine(congrArg (fun o=>Option.bind o _) ((JU (b:=true) (i:=ins r x) (fun _ _=>YD (by omega)) (A:=A0 x) (B:=B0)).trans (hv _ hk))).trans ?_
      exact hgo
 have h1:=key (tri r) [] (fun t ht=>by
  obtain⟨a,b,c⟩:=nk ht;exact⟨hb _ a,hb _ b,hb _ c⟩) (by simpa using h3)
 rw[zA];refine(congrArg (fun o=>Option.bind o _) h1).trans ?_
 rw[zLB];exact Comp.zB _
theorem Bf{r:List Pln}(hl:r.length≤1000)(hb:∀p∈r,okB p):(jC r).val=some (full r,()):=by
 have hL:=YW;have h3:(crn r).length≤1000000000:=by
  refine zLK (mb r) (zLK (Ko r) ?_);exact Nat.mul_le_mul hl (Nat.mul_le_mul hl hl)
 unfold jC;rw[zA,wy hl hb,zLB];have h1:(yI r fun z=>y9 z.1 (crn r)).val=some (r.any fun p=>!(crn r).any fun x=>decide (0<rm p x),()) :=
  ZP (xs:=r) (f:=fun z=>y9 z.1 (crn r)) (p:=fun p=>!(crn r).any fun x=>decide (0<rm p x)) (by omega) fun p _=>by
   show (y9 p (crn r)).val=_
   unfold y9;have h2:(yR (crn r) fun z=>yW z.1 p).val=some ((crn r).any fun x=>decide (0<rm p x),()) :=
    ZP (xs:=crn r) (f:=fun z=>yW z.1 p) (p:=fun x=>decide (0<rm p x)) (by omega) fun x _=>by
     show (yW x p).val=_
     unfold yW;rw[zA,qM,zLB,Comp.zB];rfl
   rw[zA,h2,zLB,Comp.zB];rfl
 rw[zA,h1,zLB,Comp.zB,yM];unfold full;rw[List.all_eq_not_any_not]
def bx0:List Pln:=[((1,0,0,()),24,()),((-1,0,0,()),24,()),((0,1,0,()),24,()),((0, -1,0,()),24,()),((0,0,1,()),24,()),((0,0, -1,()),24,())]
theorem rH:∀p∈bx0,okB p:=by
 intro p hp;unfold bx0 at hp;simp only[zLH,List.not_mem_nil,or_false]at hp;unfold okB Bd;rcases hp with rfl|rfl|rfl|rfl|rfl|rfl<;>simp
theorem yv{l:List (List Pln)}(hl:l.length<9223372036854775807)(h:l.flatten.length≤1000):(cell_of l).val=some (l.flatten++bx0,()):=by
 unfold cell_of;have h1:(zQ l).val=some (l.flatten,()):=K0 (z:=((0,0,0,()),0,())) (by unfold LIM;omega) hl
 rw[zA,h1,zLB];generalize l.flatten=c at h;have h2:=Yf (fun (s:List Pln) i=>(s,((i:Nat):Int))) [(1,0,0,()),(-1,0,0,()),(0,1,0,()),(0, -1,0,()),(0,0,1,()),(0,0, -1,())] (fun (s:List Pln) (x:V3)=>.next (s++[(x,24,())])) (fun s=>s) (fun s i=>s.length=c.length+i)
  (body:=(fun (x:List (Pln)×Int)=>if
         ltI x.2
           (zF
            [(1,0,0,()),(-1,0,0,()),(0,1,0,()),(0, -1,0,()),(0,0,1,()),
             (0,0, -1,())]) =
          true then
        (idx [(1,0,0,()),(-1,0,0,()),(0,1,0,()),(0, -1,0,()),(0,0,1,()),(0,0, -1,())]
           x.2).bind fun x_1=>(app x.1 [(x_1,24,())]).bind fun zs=>Comp.pure (.next (zs,zJ .i64 x.2 1))
       else Comp.pure (.done x.1)))
  (fun s i x hx hs=>by
   have hlt:=zO hx;simp only[zLL,List.length_nil]at hlt;rw[if_pos (by rw[zH,zC];simp only[zLL,List.length_nil];omega),zA,zL hx,zLB,zA,yG (by simp only[zLG];unfold LIM;omega),zLB,Comp.zB,zM (by omega)]
   rfl)
  (fun s i x s' hx hs he=>by cases he;simp[hs];omega)
  (fun s hs=>by rw[if_neg (by rw[zH,zC];simp),Comp.zB]) c (by simp)
 rw[XZ]at h2;rw[zA];refine(congrArg (fun o=>Option.bind o _) h2).trans ?_
 rw[zLB,Comp.zB];simp[bx0]
theorem Z4{c:List Pln}(h:chk c=0):c.length≤48∧∀p∈c,okB p:=by
 rw[Rp]at h;exact⟨h.1,fun p hp=>zFS (List.all_eq_true.1 h.2 p hp)⟩
def ful(c:List Pln):Bool:=decide (chk c=0) && full (c++bx0)
def apa(a b:List Pln):Bool:=!(decide (chk a=0) && decide (chk b=0)) || !full (a++b++bx0)
theorem Zi(c:List Pln):(kG c).val=some (ful c,()):=by
 unfold kG;rw[vZ,zA,Yd _ (by simp),zLB]
 simp only[List.all_cons,List.all_nil,Bool.and_true];unfold ful;by_cases h:chk c=0
 ·obtain⟨h1,h2⟩:=Z4 h
  rw[if_pos (by simpa using h),zA,yv (by simp) (by simp;omega),zLB,zA]
  simp only[List.flatten_cons,List.flatten_nil,List.append_nil];rw[Bf (by simp[bx0];omega) (fun p hp=>(zLM.1 hp).elim (h2 p) (rH p)),zLB,Comp.zB,decide_eq_true h,Bool.true_and]
 ·rw[if_neg (by simpa using h),Comp.zB,decide_eq_false h,Bool.false_and]
theorem jG(a b:List Pln):(j7 a b).val=some (apa a b,()):=by
 unfold j7;rw[vZ,zA,Yd _ (by simp),zLB]
 simp only[List.all_cons,List.all_nil,Bool.and_true,yM,Bool.not_not];unfold apa;by_cases h:(decide (chk a=0) && decide (chk b=0))=true
 ·rw[if_pos h,h]
  simp only[zLD,decide_eq_true_eq]at h;obtain⟨h1,h2⟩:=Z4 h.1;obtain⟨h3,h4⟩:=Z4 h.2;rw[zA,yv (by simp) (by simp;omega),zLB,zA]
  simp only[List.flatten_cons,List.flatten_nil,List.append_nil];rw[Bf (by simp[bx0];omega) (fun p hp=>(zLM.1 hp).elim (fun hp=>(zLM.1 hp).elim (h2 p) (h4 p)) (rH p)),zLB,Comp.zB]
  rfl
 ·have h':(decide (chk a=0) && decide (chk b=0))=false:=by simpa using h
  rw[if_neg h,h',Comp.zB];rfl
theorem wH(p:Pln)(x:Pnt):(zj p x).val=some (rm p x,()):=by
 unfold zj;rw[Comp.zB]
 congr 2
 unfold rm dt;simp only[Qh,RH,HN,HM]
 congr 1
 omega
theorem Un{r:List Pln}{x:Pnt}(hl:r.length<9223372036854775807):(gH r x).val=some (ins r x,()):=by
 unfold gH;have h1:=ZQ r (fun p=>decide (0≤rm p x)) (c:=(Sum.inr false:Unit⊕Bool)) (d:=Sum.inl ())
  (body:=(fun (x_1:Int)=>if ltI x_1 (zF r)=true then
       (idx r x_1).bind fun x_2=>(Go.F.zj x_2 x).bind fun x_3=>if ltI x_3.1 0=true then Comp.pure (.done (Sum.inr false)) else Comp.pure (.next (zJ .i64 x_1 1))
      else Comp.pure (.done (Sum.inl ()))))
  (fun i p hp=>by
   have hlt:=zO hp;rw[if_pos (by rw[zH,zC];omega),zA,zL hp,zLB,zA,wH,zLB,zM (by omega)]
   by_cases h:rm p x<0
   ·rw[if_pos (by rw[zH];exact h),Comp.zB,if_neg (by simp;omega)]
   ·rw[if_neg (by rw[zH];exact h),Comp.zB,if_pos (by simp;omega)])
  (by rw[if_neg (by rw[zH,zC];omega),Comp.zB])
 rw[zA];refine(congrArg (fun o=>Option.bind o _) h1).trans ?_
 rw[zLB];unfold ins;cases r.all fun p=>decide (0≤rm p x)<;>exact Comp.zB _
theorem DF{l:List Pnt}{x:Pnt}(hl:l.length<9223372036854775807):(y4 l x).val=some (decide (x∈l),()):=by
 unfold y4;have h1:=ZQ l (fun y=>!decide (y=x)) (c:=(Sum.inr true:Unit⊕Bool)) (d:=Sum.inl ())
  (body:=(fun (i:Int)=>if ltI i (zF l)=true then
       (idx l i).bind fun x_1=>if adB (eqI x_1.1 x.1) (adB (eqI x_1.2.1 x.2.1) (adB (eqI x_1.2.2.1 x.2.2.1) (eqI x_1.2.2.2.1 x.2.2.2.1)))=true then
         Comp.pure (.done (Sum.inr true))
        else Comp.pure (.next (zJ .i64 i 1))
      else Comp.pure (.done (Sum.inl ()))))
  (fun i p hp=>by
   have hlt:=zO hp;have he:adB (eqI p.1 x.1) (adB (eqI p.2.1 x.2.1) (adB (eqI p.2.2.1 x.2.2.1) (eqI p.2.2.2.1 x.2.2.2.1)))=decide (p=x):=mX p x
   rw[if_pos (by rw[zH,zC];omega),zA,zL hp,zLB,zM (by omega)]
   by_cases h:p=x
   ·rw[if_pos (by rw[he];exact decide_eq_true h),Comp.zB,if_neg (by simp[h])]
   ·rw[if_neg (by rw[he,decide_eq_false h];simp),Comp.zB,if_pos (by simp[h])])
  (by rw[if_neg (by rw[zH,zC];omega),Comp.zB])
 rw[zA];refine(congrArg (fun o=>Option.bind o _) h1).trans ?_
 rw[zLB];by_cases h:x∈l
 ·have:(l.all fun y=>!decide (y=x))=false:=by
   rw[List.all_eq_false];exact⟨x,h,by simp⟩
  rw[this,decide_eq_true h];exact Comp.zB _
 ·have:(l.all fun y=>!decide (y=x))=true:=by
   rw[List.all_eq_true];intro y hy;simp;intro e;subst e;exact h hy
  rw[this,decide_eq_false h];exact Comp.zB _
theorem jd{body:σ×Int→Comp (Comp.Step (σ×Int) σ)}(n:Nat)(G F:Nat→σ→σ)(I:σ→Nat→Prop)
  (hb:∀s (i:Nat),i<n→I s i→(body (s,(i:Int))).val=some (.next (G i s,((i+1:Nat):Int)))∧I (G i s) (i+1)∧F i s=F (i+1) (G i s)) (he:∀s,(body (s,(n:Int))).val=some (.done s)) (hF:∀s,F n s=s) :
  ∀(k:Nat) (s:σ),k≤n→I s k→(Comp.loop body (s,(k:Int))).val=some (F k s):=by
 have key:∀(m k:Nat) (s:σ),k+m=n→I s k→(Comp.loop body (s,(k:Int))).val=some (F k s):=by
  intro m
  induction m with
  |zero =>
   intro k s hk hI;rw[show k=n by omega,zN,he,hF];rfl
  |succ m ih =>
   intro k s hk hI;obtain⟨h1,h2,h3⟩:=hb s k (by omega) hI
   rw[zN,h1,h3];exact ih (k+1) (G k s) (by omega) h2
 exact fun k s hk hI=>key (n-k) k s (by omega) hI
theorem drop_cons{xs:List α}{k:Nat}{x:α}(h:xs[k]?=some x):xs.drop k=x::xs.drop (k+1):=by
 have:=zLJ.1 h;rw[List.drop_eq_getElem_cons this.1];congr 1;exact this.2
theorem pT{r:List Pln}(ts:List (Pln×Pln×Pln)):∀(l:List Pnt),(ts.foldl (kj r) l).length≤l.length+ts.length:=by
 induction ts with
 |nil=>intro l;simp
 |cons t ts ih =>
  intro l;have h1:=ih (kj r l t)
  have h2:=Kh (r:=r) (l:=l) (t:=t);simp only[List.foldl_cons,zLL];omega
theorem wX{b i h:Bool}{c:Comp (Bool×Unit)}{d:Comp (Bool×Unit)}(hc:b=true→c.val=some (i,()))(hd:b=true→i=true→d.val=some (h,())){A B:Comp β} :
  ((Comp.gd b c (false,())).bind fun x5=>(Comp.gd (sel b x5.1 false) d (false,())).bind fun x6=>if sel (sel b x5.1 false) (ntB x6.1) false=true then A else B).val=(bif b && (i && !h) then A else B).val:=by
 rw[zA]
 cases b with
 |false =>
  show (Option.bind (Comp.pure (false,())).val _)=_
  rw[Comp.zB,zLB,zA];show (Option.bind (Comp.pure (false,())).val _)=_
  rw[Comp.zB,zLB];rfl
 |true =>
  have h1:=hc rfl;show (Option.bind c.val _)=_
  rw[h1,zLB,zA]
  cases i with
  |false =>
   show (Option.bind (Comp.pure (false,())).val _)=_
   rw[Comp.zB,zLB];rfl
  |true =>
   have h2:=hd rfl rfl;show (Option.bind d.val _)=_
   rw[h2,zLB];cases h<;>rfl
theorem KM{r:List Pln}(hl:r.length≤1000)(hb:∀p∈r,okB p):(vn r).val=some (crn r,()):=by
 have hL:=YW;have h3:(tri r).length≤1000000000:=by
  refine zLK (Ko r) ?_;exact Nat.mul_le_mul hl (Nat.mul_le_mul hl hl)
 unfold vn
 -- the innermost walk
 have inner:∀(i j:Nat) (p q:Pln),r[i]?=some p→r[j]?=some q→∀(k:Nat) (l:List Pnt),k≤r.length→l.length+(r.length-k)≤1000000000→(Comp.loop
               (fun (x_2:List (Pnt)×Int)=>if ltI x_2.2 (zF r)=true then
                 (idx r (i:Int)).bind fun x=>(idx r (j:Int)).bind fun x_3=>(idx r x_2.2).bind fun x_4=>(Go.F.vJ x x_3 x_4).bind fun x=>(Comp.gd x.2.1 (Go.F.gH r x.1) (false,())).bind fun x_5=>(Comp.gd (sel x.2.1 x_5.1 false) (Go.F.y4 x_2.1 x.1) (false,())).bind fun x_6=>jn (fun (x:List (Pnt))=>Comp.pure (.next (x,zJ .i64 x_2.2 1)))
                        fun (j :
                          List (Pnt)→Comp (Comp.Step (List (Pnt)×Int) (List (Pnt)))) =>
                        if sel (sel x.2.1 x_5.1 false) (ntB x_6.1) false=true then
                         (app x_2.1 [x.1]).bind fun zs=>j zs
                        else j x_2.1
                else Comp.pure (.done x_2.1)) (l,(k:Int))).val=some ((r.drop k).foldl (fun l s=>kj r l (p,q,s)) l):=by
  intro i j p q hp hq;refine jd r.length (fun k l=>match r[k]? with|some s=>kj r l (p,q,s)|none=>l) (fun k l=>(r.drop k).foldl (fun l s=>kj r l (p,q,s)) l) (fun l k=>l.length+(r.length-k)≤1000000000)
   (fun l k hk hI=>?_) (fun l=>by rw[if_neg (by rw[zH,zC];simp),Comp.zB]) (fun l=>by rw[List.drop_length];rfl)
  obtain⟨s,hs⟩:=zK (xs:=r) (k:=k) hk;have hlen:=Kh (r:=r) (l:=l) (t:=(p,q,s))
  refine⟨?_,by rw[hs];show (kj r l (p,q,s)).length+_≤_;omega,by rw[drop_cons hs,hs];rfl⟩
  rw[hs];simp only;rw[if_pos (by rw[zH,zC];show (k:Int)<_;omega),zA,zL hp,zLB,zA,zL hq,zLB,zA,zL hs,zLB,zA,
   IP (hb p (zLI hp)) (hb q (zLI hq)) (hb s (zLI hs)),zLB]
  let A0:Pnt→Comp (Comp.Step (List Pnt×Int) (List Pnt)):=fun x=>(app l [x]).bind fun zs=>Comp.pure (.next (zs,zJ .i64 (k:Int) 1))
  let B0:Comp (Comp.Step (List Pnt×Int) (List Pnt)):=Comp.pure (.next (l,zJ .i64 (k:Int) 1))
  cases hm:mt p q s with
  |none =>
   have hcr:kj r l (p,q,s)=l:=by unfold kj;rw[hm]
   rw[hcr];refine(wX (b:=false) (i:=false) (h:=false) (fun h=>nomatch h) (fun h=>nomatch h) (A:=A0 (0,0,0,0,())) (B:=B0)).trans ?_
   show B0.val=_
   rw[←zM (show k<9223372036854775807 by omega)]
   exact Comp.zB _
  |some x =>
   have hcr:kj r l (p,q,s)=if x∈l then l else bif ins r x then l++[x] else l:=by unfold kj;rw[hm]
   refine(wX (b:=true) (i:=ins r x) (h:=decide (x∈l)) (fun _=>Un (by omega)) (fun _ _=>DF (by omega)) (A:=A0 x) (B:=B0)).trans ?_
   rw[hcr,←zM (show k<9223372036854775807 by omega)]
   by_cases hx:x∈l
   ·rw[decide_eq_true hx,if_pos hx]
    cases ins r x<;>exact Comp.zB _
   ·rw[decide_eq_false hx,if_neg hx]
    cases ins r x with
    |false=>exact Comp.zB _
    |true =>
     show (A0 x).val=_
     show ((app l [x]).bind fun zs=>(Comp.pure (.next (zs,zJ .i64 (k:Int) 1)):Comp (Comp.Step (List Pnt×Int) (List Pnt)))).val=_
     rw[zA,yG (by simp only[zLG];unfold LIM;omega),zLB,Comp.zB]
     rfl
 have mid:∀(i:Nat) (p:Pln),r[i]?=some p→∀(k:Nat) (l:List Pnt),k≤r.length→l.length+(prs (r.drop k)).length≤1000000000→(Comp.loop
          (fun (x_1:List (Pnt)×Int)=>if ltI x_1.2 (zF r)=true then
            (Comp.loop
               (fun (x_2:List (Pnt)×Int)=>if ltI x_2.2 (zF r)=true then
                 (idx r (i:Int)).bind fun x=>(idx r x_1.2).bind fun x_3=>(idx r x_2.2).bind fun x_4=>(Go.F.vJ x x_3 x_4).bind fun x=>(Comp.gd x.2.1 (Go.F.gH r x.1) (false,())).bind fun x_5=>(Comp.gd (sel x.2.1 x_5.1 false) (Go.F.y4 x_2.1 x.1) (false,())).bind fun x_6=>jn (fun (x:List (Pnt))=>Comp.pure (.next (x,zJ .i64 x_2.2 1)))
                        fun (j :
                          List (Pnt)→Comp (Comp.Step (List (Pnt)×Int) (List (Pnt)))) =>
                        if sel (sel x.2.1 x_5.1 false) (ntB x_6.1) false=true then
                         (app x_2.1 [x.1]).bind fun zs=>j zs
                        else j x_2.1
                else Comp.pure (.done x_2.1))
               (x_1.1,zJ .i64 x_1.2 1)).bind fun x=>Comp.pure (.next (x,zJ .i64 x_1.2 1))
           else Comp.pure (.done x_1.1)) (l,(k:Int))).val=some ((prs (r.drop k)).foldl (fun l t=>kj r l (p,t)) l):=by
  intro i p hp;refine jd r.length (fun k l=>match r[k]? with|some q=>(r.drop (k+1)).foldl (fun l s=>kj r l (p,q,s)) l|none=>l) (fun k l=>(prs (r.drop k)).foldl (fun l t=>kj r l (p,t)) l) (fun l k=>l.length+(prs (r.drop k)).length≤1000000000)
   (fun l k hk hI=>?_) (fun l=>by rw[if_neg (by rw[zH,zC];simp),Comp.zB]) (fun l=>by rw[List.drop_length];rfl)
  obtain⟨q,hq⟩:=zK (xs:=r) (k:=k) hk;have hpl:(prs (r.drop k)).length=(r.length-(k+1))+(prs (r.drop (k+1))).length:=by rw[drop_cons hq,prs,zLE,List.length_map,List.length_drop]
  have hfl:((r.drop (k+1)).foldl (fun l s=>kj r l (p,q,s)) l).length≤l.length+(r.length-(k+1)):=by
   have:=pT (r:=r) ((r.drop (k+1)).map fun s=>(p,q,s)) l
   rw[List.foldl_map,List.length_map,List.length_drop]at this;exact this
  refine⟨?_,by rw[hq];show ((r.drop (k+1)).foldl (fun l s=>kj r l (p,q,s)) l).length+_≤_;omega,by rw[drop_cons hq,hq,prs,List.foldl_append,List.foldl_map]⟩
  rw[hq];simp only;rw[if_pos (by rw[zH,zC];show (k:Int)<_;omega),zA]
  have h4:=inner i k p q hp hq (k+1) l (by omega) (by omega)
  rw[←zM (show k<9223372036854775807 by omega)]at h4
  refine(congrArg (fun o=>Option.bind o _) h4).trans ?_
  rw[zLB,Comp.zB,zM (show k<9223372036854775807 by omega)]
 have outer:∀(k:Nat) (l:List Pnt),k≤r.length→l.length+(tri (r.drop k)).length≤1000000000→(Comp.loop
     (fun (x:List (Pnt)×Int)=>if ltI x.2 (zF r)=true then
       (Comp.loop
          (fun (x_1:List (Pnt)×Int)=>if ltI x_1.2 (zF r)=true then
            (Comp.loop
               (fun (x_2:List (Pnt)×Int)=>if ltI x_2.2 (zF r)=true then
                 (idx r x.2).bind fun x=>(idx r x_1.2).bind fun x_3=>(idx r x_2.2).bind fun x_4=>(Go.F.vJ x x_3 x_4).bind fun x=>(Comp.gd x.2.1 (Go.F.gH r x.1) (false,())).bind fun x_5=>(Comp.gd (sel x.2.1 x_5.1 false) (Go.F.y4 x_2.1 x.1) (false,())).bind fun x_6=>jn (fun (x:List (Pnt))=>Comp.pure (.next (x,zJ .i64 x_2.2 1)))
                        fun (j :
                          List (Pnt)→Comp (Comp.Step (List (Pnt)×Int) (List (Pnt)))) =>
                        if sel (sel x.2.1 x_5.1 false) (ntB x_6.1) false=true then
                         (app x_2.1 [x.1]).bind fun zs=>j zs
                        else j x_2.1
                else Comp.pure (.done x_2.1))
               (x_1.1,zJ .i64 x_1.2 1)).bind fun x=>Comp.pure (.next (x,zJ .i64 x_1.2 1))
           else Comp.pure (.done x_1.1))
          (x.1,zJ .i64 x.2 1)).bind fun x_1=>Comp.pure (.next (x_1,zJ .i64 x.2 1))
      else Comp.pure (.done x.1)) (l,(k:Int))).val=some ((tri (r.drop k)).foldl (kj r) l):=by
  refine jd r.length (fun k l=>match r[k]? with|some p=>(prs (r.drop (k+1))).foldl (fun l t=>kj r l (p,t)) l|none=>l) (fun k l=>(tri (r.drop k)).foldl (kj r) l) (fun l k=>l.length+(tri (r.drop k)).length≤1000000000)
   (fun l k hk hI=>?_) (fun l=>by rw[if_neg (by rw[zH,zC];simp),Comp.zB]) (fun l=>by rw[List.drop_length];rfl)
  obtain⟨p,hp⟩:=zK (xs:=r) (k:=k) hk;have hpl:(tri (r.drop k)).length=(prs (r.drop (k+1))).length+(tri (r.drop (k+1))).length:=by rw[drop_cons hp,tri,zLE,List.length_map]
  have hfl:((prs (r.drop (k+1))).foldl (fun l t=>kj r l (p,t)) l).length≤l.length+(prs (r.drop (k+1))).length:=by
   have:=pT (r:=r) ((prs (r.drop (k+1))).map fun t=>(p,t)) l
   rw[List.foldl_map,List.length_map]at this;exact this
  refine⟨?_,by rw[hp];show ((prs (r.drop (k+1))).foldl (fun l t=>kj r l (p,t)) l).length+_≤_;omega,by rw[drop_cons hp,hp,tri,List.foldl_append,List.foldl_map]⟩
  rw[hp];simp only;rw[if_pos (by rw[zH,zC];show (k:Int)<_;omega),zA]
  have h4:=mid k p hp (k+1) l (by omega) (by omega)
  rw[←zM (show k<9223372036854775807 by omega)]at h4
  refine(congrArg (fun o=>Option.bind o _) h4).trans ?_
  rw[zLB,Comp.zB,zM (show k<9223372036854775807 by omega)]
 have h1:=outer 0 [] (Nat.zero_le _) (by simpa using h3)
 rw[zA];refine(congrArg (fun o=>Option.bind o _) h1).trans ?_
 rw[zLB];exact Comp.zB _
theorem rz{r:List Pln}(hl:r.length≤1000)(hb:∀p∈r,okB p):(jA r).val=some (full r,()):=by
 have hL:=YW;have h3:(crn r).length≤1000000000:=by
  refine zLK (mb r) (zLK (Ko r) ?_);exact Nat.mul_le_mul hl (Nat.mul_le_mul hl hl)
 unfold jA;rw[zA,KM hl hb,zLB];have inner:∀(i:Nat) (p:Pln),r[i]?=some p→(Comp.loop
           (fun (x_1:Bool×Int)=>if ltI x_1.2 (zF (crn r))=true then
             (Comp.gd (ntB x_1.1) (idx r (i:Int)) ((0,0,0,()),0,())).bind fun x=>(Comp.gd (ntB x_1.1) (idx (crn r) x_1.2) (0,0,0,0,())).bind fun x_2=>(Comp.gd (ntB x_1.1) (Go.F.zj x x_2) (0,())).bind fun x=>Comp.pure (.next (sel x_1.1 true (gtI x.1 0),zJ .i64 x_1.2 1))
            else Comp.pure (.done x_1.1))
           (false,((0:Nat):Int))).val=some ((crn r).any fun x=>decide (0<rm p x)):=by
  intro i p hp;have h5:=jd (crn r).length (fun k b=>match (crn r)[k]? with|some x=>b || decide (0<rm p x)|none=>b) (fun k b=>b || ((crn r).drop k).any fun x=>decide (0<rm p x)) (fun _ _=>True)
   (body:=(fun (x_1:Bool×Int)=>if ltI x_1.2 (zF (crn r))=true then
             (Comp.gd (ntB x_1.1) (idx r (i:Int)) ((0,0,0,()),0,())).bind fun x=>(Comp.gd (ntB x_1.1) (idx (crn r) x_1.2) (0,0,0,0,())).bind fun x_2=>(Comp.gd (ntB x_1.1) (Go.F.zj x x_2) (0,())).bind fun x=>Comp.pure (.next (sel x_1.1 true (gtI x.1 0),zJ .i64 x_1.2 1))
            else Comp.pure (.done x_1.1)))
   (fun b k hk _=>by
    obtain⟨x,hx⟩:=zK (xs:=crn r) (k:=k) hk;refine⟨?_,trivial,by rw[drop_cons hx,hx,List.any_cons,Bool.or_assoc]⟩
    rw[hx];simp only;rw[if_pos (by rw[zH,zC];show (k:Int)<_;omega),zA]
    cases b with
    |true =>
     show Option.bind (Comp.pure _).val _=_
     rw[Comp.zB,zLB,zA];show Option.bind (Comp.pure _).val _=_
     rw[Comp.zB,zLB,zA];show Option.bind (Comp.pure _).val _=_
     rw[Comp.zB,zLB,Comp.zB,zM (by omega)]
     rfl
    |false =>
     show Option.bind (idx r (i:Int)).val _=_
     rw[zL hp,zLB,zA];show Option.bind (idx (crn r) (k:Int)).val _=_
     rw[zL hx,zLB,zA];show Option.bind (zj p x).val _=_
     rw[wH,zLB,Comp.zB,zM (by omega)]
     rfl)
   (fun b=>by rw[if_neg (by rw[zH,zC];simp),Comp.zB]) (fun b=>by rw[List.drop_length];simp) 0 false (Nat.zero_le _) trivial
  simpa using h5
 have h1:=ZQ r (fun p=>(crn r).any fun x=>decide (0<rm p x)) (c:=(Sum.inr false:Unit⊕Bool)) (d:=Sum.inl ())
  (body:=(fun (x:Int)=>if ltI x (zF r)=true then
        (Comp.loop
           (fun (x_1:Bool×Int)=>if ltI x_1.2 (zF (crn r))=true then
             (Comp.gd (ntB x_1.1) (idx r x) ((0,0,0,()),0,())).bind fun x=>(Comp.gd (ntB x_1.1) (idx (crn r) x_1.2) (0,0,0,0,())).bind fun x_2=>(Comp.gd (ntB x_1.1) (Go.F.zj x x_2) (0,())).bind fun x=>Comp.pure (.next (sel x_1.1 true (gtI x.1 0),zJ .i64 x_1.2 1))
            else Comp.pure (.done x_1.1))
           (false,0)).bind fun x_1=>if ntB x_1=true then Comp.pure (.done (Sum.inr false)) else Comp.pure (.next (zJ .i64 x 1))
       else Comp.pure (.done (Sum.inl ()))))
  (fun i p hp=>by
   have hlt:=zO hp;rw[if_pos (by rw[zH,zC];omega),zA]
   refine(congrArg (fun o=>Option.bind o _) (inner i p hp)).trans ?_
   rw[zLB,zM (by omega)]
   cases (crn r).any fun x=>decide (0<rm p x)<;>exact Comp.zB _)
  (by rw[if_neg (by rw[zH,zC];omega),Comp.zB])
 rw[zA];refine(congrArg (fun o=>Option.bind o _) h1).trans ?_
 rw[zLB];unfold full;cases r.all fun p=>(crn r).any fun x=>decide (0<rm p x)<;>exact Comp.zB _
theorem qP{c:List Pln}(h:c.length≤1000):(gO c).val=some (c++bx0,()):=by
 unfold gO;have h1:(zw (-24, -24, -24,()) (24,24,24,())).val=some (bx0,()):=by
  unfold zw;rw[Comp.zB];rfl
 rw[zA,yG (by simp;unfold LIM;omega),zLB,zA,h1,zLB,zA,yG (by simp[bx0];unfold LIM;omega),zLB,Comp.zB]
 simp
theorem YX(c:List Pln):(yA c).val=some (ful c,()):=by
 unfold yA;rw[vZ,zA,j5,zLB];unfold ful;by_cases h:chk c=0
 ·obtain⟨h1,h2⟩:=Z4 h
  rw[if_pos (by rw[yw];exact h),zA,qP (by omega),zLB,zA,
   rz (by simp[bx0];omega) (fun p hp=>(zLM.1 hp).elim (h2 p) (rH p)),zLB,Comp.zB,decide_eq_true h,Bool.true_and]
 ·rw[if_neg (by rw[yw];exact h),Comp.zB,decide_eq_false h,Bool.false_and]
theorem ZY(a b:List Pln):(zh a b).val=some (apa a b,()):=by
 unfold zh;rw[zA,j5,zLB,zA];unfold apa;by_cases ha:chk a=0
 ·obtain⟨h1,h2⟩:=Z4 ha
  have e1:neI (chk a) 0=false:=by unfold neI;simp[ha]
  show Option.bind (Comp.gd (ntB (neI (chk a) 0)) _ _).val _=_
  rw[e1];show Option.bind (zd b).val _=_
  rw[j5,zLB];by_cases hb:chk b=0
  ·obtain⟨h3,h4⟩:=Z4 hb
   have e2:neI (chk b) 0=false:=by unfold neI;simp[hb]
   rw[if_neg (by show ¬sel false true (neI (chk b) 0)=true;rw[e2];simp[sel]),zA,yG (by simp;unfold LIM;omega),zLB,zA,yG (by simp;unfold LIM;omega),zLB,zA]
   simp only[List.nil_append];rw[qP (by simp;omega),zLB,zA,
    rz (by simp[bx0];omega) (fun p hp=>(zLM.1 hp).elim (fun hp=>(zLM.1 hp).elim (h2 p) (h4 p)) (rH p)),zLB,Comp.zB,decide_eq_true ha,decide_eq_true hb]
   rfl
  ·have e2:neI (chk b) 0=true:=by unfold neI;simp[hb]
   rw[if_pos (by show sel false true (neI (chk b) 0)=true;rw[e2];rfl),Comp.zB,decide_eq_true ha,decide_eq_false hb]
   rfl
 ·have e1:neI (chk a) 0=true:=by unfold neI;simp[ha]
  show Option.bind (Comp.gd (ntB (neI (chk a) 0)) _ _).val _=_
  rw[e1];show Option.bind (Comp.pure _).val _=_
  rw[Comp.zB,zLB,if_pos (by rfl),Comp.zB,decide_eq_false ha]
  rfl
theorem Y9(a b:V3):cr b a=sc (cr a b) (-1):=by
 unfold cr sc;simp only[Int.mul_neg,Int.mul_one,Prod.mk.injEq,and_true];refine⟨?_,?_,?_⟩
 ·rw[Int.mul_comm b.2.1,Int.mul_comm b.2.2.1];omega
 ·rw[Int.mul_comm b.2.2.1,Int.mul_comm b.1];omega
 ·rw[Int.mul_comm b.1,Int.mul_comm b.2.1];omega
theorem zAU(a b:V3)(n:Int):dt a (sc b n)=dt a b * n:=by
 unfold dt sc;simp only[←Int.mul_assoc,←Int.add_mul]
theorem nN(a:V3)(m n:Int):sc (sc a m) n=sc (sc a n) m:=by
 unfold sc;simp only[Prod.mk.injEq,and_true];refine⟨?_,?_,?_⟩<;>rw[Int.mul_right_comm]
theorem Hy(a b:V3)(n:Int):ad (sc a n) (sc b n)=sc (ad a b) n:=by
 unfold ad sc;simp only[Int.add_mul]
theorem V9(a b:V3):ad a b=ad b a:=by
 unfold ad;simp only[Prod.mk.injEq,and_true];refine⟨?_,?_,?_⟩<;>omega
theorem Qa(a b c:V3):ad (ad a b) c=ad (ad a c) b:=by
 unfold ad;simp only[Prod.mk.injEq,and_true];refine⟨?_,?_,?_⟩<;>omega
theorem zDc(p q r:Pln):det p r q = - det p q r:=by
 unfold det;rw[Y9 q.1 r.1,zAU];omega
theorem zDd(p q r:Pln):det q p r = - det p q r:=by
 rw[mZ q p r,mZ p q r,Y9 p.1 q.1,zAU];omega
theorem zCv(p q r:Pln):num p r q=sc (num p q r) (-1):=by
 unfold num;rw[Y9 q.1 r.1,Y9 p.1 q.1,Y9 r.1 p.1,nN (cr q.1 r.1),nN (cr p.1 q.1),nN (cr r.1 p.1),Hy,Hy,Qa]
theorem zCw(p q r:Pln):num q p r=sc (num p q r) (-1):=by
 unfold num;rw[Y9 q.1 r.1,Y9 p.1 q.1,Y9 r.1 p.1,nN (cr q.1 r.1),nN (cr p.1 q.1),nN (cr r.1 p.1),Hy,Hy,V9 (sc (cr r.1 p.1) q.2.1)]
theorem VS{v:V3}{w:Int}(h:w≠0):mkP (sc v (-1)) (-w)=mkP v w:=by
 have hg:Z9 (sc v (-1)) (-w)=Z9 v w:=by
  unfold Z9 sc;simp only[Int.natAbs_mul,Int.natAbs_neg];simp
 unfold mkP;simp only[hg];unfold sc;simp only[Int.mul_neg,Int.mul_one,Int.neg_neg];by_cases h1:w<0
 ·rw[if_neg (by omega),if_pos h1]
 ·rw[if_pos (by omega),if_neg h1]
theorem RJ{p q r p' q' r':Pln}(hd:det p' q' r' = - det p q r)(hn:num p' q' r'=sc (num p q r) (-1)):mt p' q' r'=mt p q r:=by
 unfold mt;rw[hd,hn];by_cases h:det p q r=0
 ·rw[if_pos (by omega),if_pos h]
 ·rw[if_neg (by omega),if_neg h,VS h]
def mtL:List Pln→Option Pnt
 | [p,q,r]=>mt p q r
 |_=>none
theorem Ml{a b c d:α}(h:[a,b].Perm [c,d]):(a=c∧b=d)∨(a=d∧b=c):=by
 have hc:c∈[a,b]:=h.symm.subset (by simp)
 simp only[zLH,List.not_mem_nil,or_false]at hc;rcases hc with rfl|rfl
 ·have:=List.perm_singleton.1 h.cons_inv
  exact .inl ⟨rfl,by simpa using this⟩
 ·have:=List.perm_singleton.1 ((List.Perm.swap a c []).trans h).cons_inv
  exact .inr ⟨by simpa using this,rfl⟩
theorem Nl{l l':List Pln}(h:l.Perm l'):mtL l=mtL l':=by
 induction h with
 |nil=>rfl
 |cons x h ih =>
  rename_i l1 l2;have hlen:=h.length_eq
  match l1,l2,hlen,h with
  | [a,b],[c,d],_,h =>
   rcases Ml h with ⟨rfl,rfl⟩|⟨rfl,rfl⟩
   ·rfl
   ·exact RJ (zDc _ _ _) (zCv _ _ _)
  | [],[],_,_=>rfl
  | [_],[_],_,_=>rfl
  |_::_::_::_,_::_::_::_,_,_=>rfl
 |swap x y l =>
  match l with
  | [z]=>exact RJ (zDd _ _ _) (zCw _ _ _)
  | []=>rfl
  |_::_::_=>rfl
 |trans _ _ ih1 ih2=>exact ih1.trans ih2
theorem GQ{l:List α}{a b:α}:(a,b)∈prs l↔[a,b].Sublist l:=by
 induction l with
 |nil=>simp[prs]
 |cons x l ih =>
  simp only[prs,zLM,List.mem_map,Prod.mk.injEq];constructor
  ·rintro(⟨s,h1,rfl,rfl⟩|h)
   ·exact List.Sublist.cons_cons _ (List.singleton_sublist.2 h1)
   ·exact(ih.1 h).cons _
  ·intro h
   cases h with
   |cons _ h=>exact .inr (ih.2 h)
   |cons_cons _ h=>exact .inl ⟨b,List.singleton_sublist.1 h,rfl,rfl⟩
theorem E3{l:List α}{a b c:α}:(a,b,c)∈tri l↔[a,b,c].Sublist l:=by
 induction l with
 |nil=>simp[tri]
 |cons x l ih =>
  simp only[tri,zLM,List.mem_map,Prod.mk.injEq];constructor
  ·rintro(⟨⟨s,t⟩,h1,rfl,h2⟩|h)
   ·cases h2
    exact List.Sublist.cons_cons _ (GQ.1 h1)
   ·exact(ih.1 h).cons _
  ·intro h
   cases h with
   |cons _ h=>exact .inr (ih.2 h)
   |cons_cons _ h=>exact .inl ⟨(b,c),GQ.2 h,rfl,rfl⟩
theorem u4{r:List Pln}{x:Pnt}:x∈crn r↔ins r x=true∧∃t∈tri r,mt t.1 t.2.1 t.2.2=some x:=by
 have key:∀(ts:List (Pln×Pln×Pln)) (l:List Pnt),x∈ts.foldl (kj r) l↔x∈l∨(ins r x=true∧∃t∈ts,mt t.1 t.2.1 t.2.2=some x):=by
  intro ts
  induction ts with
  |nil=>intro l;simp
  |cons t ts ih =>
   intro l;rw[List.foldl_cons,ih];have hs:x∈kj r l t↔x∈l∨(ins r x=true∧mt t.1 t.2.1 t.2.2=some x):=by
    unfold kj
    cases hm:mt t.1 t.2.1 t.2.2 with
    |none=>simp
    |some y =>
     simp only[Option.some.injEq];by_cases hy:y∈l
     ·rw[if_pos hy]
      constructor
      ·exact .inl
      ·rintro(h|⟨_,rfl⟩)
       ·exact h
       ·exact hy
     ·rw[if_neg hy]
      cases hi:ins r y with
      |false =>
       rw[cond_false];constructor
       ·exact .inl
       ·rintro(h|⟨h1,rfl⟩)
        ·exact h
        ·rw[hi]at h1;cases h1
      |true =>
       rw[cond_true,zLM,List.mem_singleton];constructor
       ·rintro(h|rfl)
        ·exact .inl h
        ·exact .inr ⟨hi,rfl⟩
       ·rintro(h|⟨_,rfl⟩)
        ·exact .inl h
        ·exact .inr rfl
   rw[hs];simp only[zLH,exists_eq_or_imp];constructor
   ·rintro((h|⟨h1,h2⟩)|⟨h1,h2⟩)
    ·exact .inl h
    ·exact .inr ⟨h1,.inl h2⟩
    ·exact .inr ⟨h1,.inr h2⟩
   ·rintro(h|⟨h1,h2|h2⟩)
    ·exact .inl (.inl h)
    ·exact .inl (.inr ⟨h1,h2⟩)
    ·exact .inr ⟨h1,h2⟩
 unfold crn;rw[key];simp
theorem Mn{r r':List α}(h:r.Perm r'):∀ {s:List α},s.Sublist r→∃s':List α,s'.Perm s∧s'.Sublist r':=by
 induction h with
 |nil=>exact fun {s} hs=>⟨s,.refl _,hs⟩
 |cons x h ih =>
  intro s hs
  cases hs with
  |cons _ hs =>
   obtain⟨s',h1,h2⟩:=ih hs;exact⟨s',h1,h2.cons _⟩
  |cons_cons _ hs =>
   obtain⟨s',h1,h2⟩:=ih hs;exact⟨x::s',h1.cons _,h2.cons_cons _⟩
 |swap x y l =>
  intro s hs
  cases hs with
  |cons _ hs =>
   cases hs with
   |cons _ hs=>exact⟨_,.refl _,(hs.cons _).cons _⟩
   |cons_cons _ hs=>exact⟨_,.refl _,(hs.cons _).cons_cons _⟩
  |cons_cons _ hs =>
   cases hs with
   |cons _ hs=>exact⟨_,.refl _,(hs.cons_cons _).cons _⟩
   |cons_cons _ hs=>exact⟨_,.swap _ _ _,(hs.cons_cons _).cons_cons _⟩
 |trans _ _ ih1 ih2 =>
  intro s hs;obtain⟨s1,h1,h2⟩:=ih1 hs;obtain⟨s2,h3,h4⟩:=ih2 h2;exact⟨s2,h3.trans h1,h4⟩
theorem QB{r r':List Pln}(h:r.Perm r'){x:Pnt}(hx:x∈crn r):x∈crn r':=by
 rw[u4]at hx ⊢;obtain⟨h1,⟨a,b,c⟩,h2,h3⟩:=hx;refine⟨?_,?_⟩
 ·unfold ins at h1 ⊢
  rw[List.all_eq_true]at h1 ⊢;exact fun p hp=>h1 p (h.symm.subset hp)
 ·obtain⟨l,g1,g2⟩:=Mn h (E3.1 h2)
  have hlen:=g1.length_eq
  match l,hlen,g1,g2 with
  | [a',b',c'],_,g1,g2=>exact⟨(a',b',c'),E3.2 g2,(Nl g1).trans h3⟩
theorem I0{r r':List Pln}(h:r.Perm r'):full r=full r':=by
 have key:∀ {r r':List Pln},r.Perm r'→full r=true→full r'=true:=by
  intro r r' h hf;unfold full at hf ⊢;rw[List.all_eq_true]at hf ⊢;intro p hp;have:=hf p (h.symm.subset hp)
  rw[List.any_eq_true]at this ⊢;obtain⟨x,h1,h2⟩:=this;exact⟨x,QB h h1,h2⟩
 rw[Bool.eq_iff_iff];exact⟨key h,key h.symm⟩
theorem CA(a b:List Pln):apa a b=apa b a:=by
 unfold apa;rw[Bool.and_comm,I0 (List.Perm.append_right bx0 (List.perm_append_comm (l₁:=a) (l₂:=b)))]
abbrev SS(l:List Pln):Prop:=l.Pairwise LtP
abbrev SL(l:List Pln):Prop:=l.Pairwise fun p q=>¬LtP q p
theorem SS.eq{l m:List Pln}(hl:SS l)(hm:SS m)(h:∀p,p∈l↔p∈m):l=m:=by
 induction l generalizing m with
 |nil =>
  cases m with
  |nil=>rfl
  |cons q m=>have:=(h q).2 (by simp);cases this
 |cons p l ih =>
  cases m with
  |nil=>have:=(h p).1 (by simp);cases this
  |cons q m =>
   rw[SS,List.pairwise_cons]at hl hm;have hpq:p=q:=by
    have h1:=(h p).1 (by simp)
    have h2:=(h q).2 (by simp)
    rcases zLH.1 h1 with rfl|h1
    ·rfl
    ·rcases zLH.1 h2 with rfl|h2
     ·rfl
     ·exact absurd (hl.1 q h2) fun k=>k.asym (hm.1 p h1)
   subst hpq
   congr 1
   refine ih hl.2 hm.2 fun x=>?_
   constructor
   ·intro hx
    have:=(h x).1 (zLN _ hx);rcases zLH.1 this with rfl|h1
    ·exact absurd (hl.1 x hx) LtP.irr
    ·exact h1
   ·intro hx
    have:=(h x).2 (zLN _ hx);rcases zLH.1 this with rfl|h1
    ·exact absurd (hm.1 x hx) LtP.irr
    ·exact h1
theorem qV{p x:Pln}:∀ {l:List Pln},x∈K4 p l↔x=p∨x∈l
 | []=>by simp[K4]
 |q::l=>by
  unfold K4;split
  ·rw[zLH,qV,zLH]
   constructor
   ·rintro(h|h|h)
    ·exact .inr (.inl h)
    ·exact .inl h
    ·exact .inr (.inr h)
   ·rintro(h|h|h)
    ·exact .inr (.inl h)
    ·exact .inl h
    ·exact .inr (.inr h)
  ·rw[zLH]
theorem Gn{p:Pln}:∀ {l:List Pln},SL l→SL (K4 p l)
 | [],_=>by simp[K4]
 |q::l,h=>by
  rw[SL,List.pairwise_cons]at h;unfold K4;split
  ·rename_i hc
   rw[SL,List.pairwise_cons];refine⟨fun x hx=>?_,Gn h.2⟩
   rcases qV.1 hx with rfl|hx
   ·exact fun k=>k.asym (KI.1 hc)
   ·exact h.1 x hx
  ·rename_i hc
   rw[SL,List.pairwise_cons];refine⟨fun x hx=>?_,by rw[List.pairwise_cons];exact h⟩
   have hpq:¬LtP q p:=fun k=>hc (KI.2 k)
   rcases zLH.1 hx with rfl|hx2
   ·exact hpq
   ·intro k
    have hxq:=h.1 x hx2;rcases LtP.tri p q with h1|h1|h1
    ·exact hxq (k.trans h1)
    ·exact hxq (h1 ▸ k)
    ·exact hpq h1
theorem qJ{x:Pln}:∀ {l:List Pln},x∈Jq l↔x∈l
 | []=>by simp[Jq]
 |p::l=>by unfold Jq;rw[qV,qJ,zLH]
theorem E9:∀ {l:List Pln},SL (Jq l)
 | []=>by simp[Jq]
 |p::l=>Gn E9
theorem Bb{p:Pln}:∀ {l:List Pln},(K4 p l).length=l.length+1
 | []=>rfl
 |q::l=>by unfold K4;split<;>simp[Bb]
theorem qK:∀ {l:List Pln},(Jq l).length=l.length
 | []=>rfl
 |p::l=>by unfold Jq;rw[Bb,qK];rfl
theorem pU:∀ {l:List Pln} {p:Pln},SL (p::l)→SS (p::J5 p l)∧∀x,x∈p::J5 p l↔x∈p::l
 | [],p,_=>⟨by simp[J5],fun x=>by simp[J5]⟩
 |q::l,p,h=>by
  rw[SL,List.pairwise_cons]at h;obtain⟨h1,h2⟩:=pU h.2;unfold J5;split
  ·rename_i e
   subst e;refine⟨h1,fun x=>?_⟩
   rw[h2,zLH (l:=q::l)];simp
  ·rename_i e
   refine⟨?_,fun x=>?_⟩
   ·rw[SS,List.pairwise_cons]
    refine⟨fun x hx=>?_,h1⟩
    have hpq:LtP p q:=by
     rcases LtP.tri p q with k|k|k
     ·exact k
     ·exact absurd k.symm e
     ·exact absurd k (h.1 q (by simp))
    rcases zLH.1 hx with rfl|hx'
    ·exact hpq
    ·exact hpq.trans ((List.pairwise_cons.1 h1).1 x hx')
   ·rw[zLH,h2,←zLH]
theorem QC{l:List Pln}(h:SL l):SS (cpc l)∧∀x,x∈cpc l↔x∈l:=by
 cases l with
 |nil=>exact⟨by simp[cpc],fun x=>by simp[cpc]⟩
 |cons p l=>exact pU h
def Ys(p:Pln):List Pln→List Pln
 | []=>[p]
 |q::l=>if Yv q p<0 then q::Ys p l else if q=p then q::l else p::q::l
theorem qQ{p x:Pln}:∀ {l:List Pln},x∈Ys p l↔x=p∨x∈l
 | []=>by simp[Ys]
 |q::l=>by
  unfold Ys;split
  ·rw[zLH,qQ,zLH]
   constructor
   ·rintro(h|h|h)
    ·exact .inr (.inl h)
    ·exact .inl h
    ·exact .inr (.inr h)
   ·rintro(h|h|h)
    ·exact .inr (.inl h)
    ·exact .inl h
    ·exact .inr (.inr h)
  ·split
   ·rename_i e;subst e;simp
   ·rw[zLH]
theorem GP{p:Pln}:∀ {l:List Pln},SS l→SS (Ys p l)
 | [],_=>by simp[Ys]
 |q::l,h=>by
  rw[SS,List.pairwise_cons]at h;unfold Ys;split
  ·rename_i hc
   rw[SS,List.pairwise_cons];refine⟨fun x hx=>?_,GP h.2⟩
   rcases qQ.1 hx with rfl|hx
   ·exact KI.1 hc
   ·exact h.1 x hx
  ·rename_i hc
   split
   ·rw[SS,List.pairwise_cons];exact h
   ·rename_i e
    have hpq:LtP p q:=by
     rcases LtP.tri p q with k|k|k
     ·exact k
     ·exact absurd k.symm e
     ·exact absurd (KI.2 k) hc
    rw[SS,List.pairwise_cons];refine⟨fun x hx=>?_,by rw[List.pairwise_cons];exact h⟩
    rcases zLH.1 hx with rfl|hx
    ·exact hpq
    ·exact hpq.trans (h.1 x hx)
theorem BC{p:Pln}:∀ {l:List Pln},(Ys p l).length≤l.length+1
 | []=>by simp[Ys]
 |q::l=>by
  have:=BC (p:=p) (l:=l);unfold Ys;split
  ·simp only[zLL];omega
  ·split<;>simp
theorem NN(l:List Pln):l.foldl (fun m p=>Ys p m) []=cpc (Jq l):=by
 have key:∀(l m:List Pln),SS m→SS (l.foldl (fun m p=>Ys p m) m)∧∀x,x∈l.foldl (fun m p=>Ys p m) m↔x∈l∨x∈m:=by
  intro l
  induction l with
  |nil=>intro m hm;exact⟨hm,fun x=>by simp⟩
  |cons p l ih =>
   intro m hm;obtain⟨h1,h2⟩:=ih (Ys p m) (GP hm);refine⟨h1,fun x=>?_⟩
   rw[List.foldl_cons,h2,qQ,zLH];constructor
   ·rintro(h|h|h)
    ·exact .inl (.inr h)
    ·exact .inl (.inl h)
    ·exact .inr h
   ·rintro((h|h)|h)
    ·exact .inr (.inl h)
    ·exact .inl h
    ·exact .inr (.inr h)
 obtain⟨h1,h2⟩:=key l [] (by simp)
 obtain⟨h3,h4⟩:=QC (E9 (l:=l));refine SS.eq h1 h3 fun p=>?_
 rw[h2,h4,qJ];simp
theorem IZ(a b:Int):(Zm a b).val=some (if a<b then -1 else if b<a then 1 else 0,()):=by
 unfold Zm;by_cases h1:a<b
 ·rw[if_pos (by rw[zH];exact h1),if_pos h1,Comp.zB]
 ·rw[if_neg (by rw[zH];exact h1),if_neg h1]
  by_cases h2:b<a
  ·rw[if_pos (by rw[yd];exact h2),if_pos h2,Comp.zB]
  ·rw[if_neg (by rw[yd];exact h2),if_neg h2,Comp.zB]
def MT:List (Int×Int)→Int
 | []=>0
 |x::l=>if x.1<x.2 then -1 else if x.2<x.1 then 1 else MT l
theorem Rm(p q:Pln):Yv p q=MT [(p.1.1,q.1.1),(p.1.2.1,q.1.2.1),(p.1.2.2.1,q.1.2.2.1),(p.2.1,q.2.1)]:=rfl
theorem AW(p q:Pln):(kP p q).val=some (Yv p q,()):=by
 unfold kP;rw[Rm];generalize hl:[(p.1.1,q.1.1),(p.1.2.1,q.1.2.1),(p.1.2.2.1,q.1.2.2.1),(p.2.1,q.2.1)]=l;have hm:[[p.1.1,q.1.1],[p.1.2.1,q.1.2.1],[p.1.2.2.1,q.1.2.2.1],[p.2.1,q.2.1]]=l.map fun x=>[x.1,x.2]:=by rw[←hl];rfl
 have hlen:l.length=4:=by rw[←hl];rfl
 rw[hm];have key:∀(ys zs:List (Int×Int)),l=zs++ys→(Comp.loop
     (fun (x:Int×Int)=>if ltI x.2 (zF (l.map fun x=>[x.1,x.2]))=true then
       (idx (l.map fun x=>[x.1,x.2]) x.2).bind fun x_1=>(idx x_1 0).bind fun x_2=>(idx x_1 1).bind fun x_3=>(Go.F.Zm x_2 x_3).bind fun x_4=>if eqI x_4.1 0=true then Comp.pure (.next (x_4.1,zJ .i64 x.2 1)) else Comp.pure (.done x_4.1)
      else Comp.pure (.done x.1)) (0,(zs.length:Int))).val=some (MT ys):=by
  intro ys
  induction ys with
  |nil =>
   intro zs hx;rw[zN,if_neg (by rw[zH,zC,List.length_map,hx];simp),Comp.zB];rfl
  |cons y ys ih =>
   intro zs hx;have hy:(l.map fun x=>[x.1,x.2])[zs.length]?=some [y.1,y.2]:=by rw[hx];simp
   have hlt:=zO hy;rw[List.length_map]at hlt;have i0:(idx [y.1,y.2] 0).val=some y.1:=Kw rfl
   have i1:(idx [y.1,y.2] 1).val=some y.2:=Kw rfl;rw[zN,if_pos (by rw[zH,zC,List.length_map];show (zs.length:Int)<_;omega),zA,zL hy,zLB,zA,i0,zLB,zA,i1,zLB,zA,IZ,zLB]
   unfold MT;by_cases h1:y.1<y.2
   ·rw[if_pos h1,if_neg (by rw[yw];show ¬((-1:Int)=0);decide),Comp.zB,if_pos h1];rfl
   ·rw[if_neg h1]
    by_cases h2:y.2<y.1
    ·rw[if_pos h2,if_neg (by rw[yw];show ¬((1:Int)=0);decide),Comp.zB,if_neg h1,if_pos h2];rfl
    ·rw[if_neg h2,if_pos (by rw[yw]),Comp.zB,if_neg h1,if_neg h2,zM (by omega),zLB]
     have:=ih (zs++[y]) (by rw[hx];simp)
     simpa using this
 rw[zA];refine(congrArg (fun o=>Option.bind o _) (key l [] rfl)).trans ?_
 rw[zLB,Comp.zB]
theorem M3{l:List Pln}(h:l.length≤LIM):(yB l fun z=>kP z.1 z.2.1).val=some (Jq l):=by
 unfold yB CT;rw[if_pos ⟨h,fun x y=>vM.1 (AW x y)⟩,Comp.zB]
theorem zHV(x y:Pln):adB (adB (eqI x.1.1 y.1.1) (adB (eqI x.1.2.1 y.1.2.1) (eqI x.1.2.2.1 y.1.2.2.1))) (eqI x.2.1 y.2.1)=decide (x=y):=by
 obtain⟨⟨a,b,c,u⟩,d,v⟩:=x;obtain⟨⟨a',b',c',u'⟩,d',v'⟩:=y;unfold eqI adB;simp only;rw[Bool.eq_iff_iff];simp[Prod.ext_iff]
def zHW(x y:Pln):Bool:=adB (adB (eqI x.1.1 y.1.1) (adB (eqI x.1.2.1 y.1.2.1) (eqI x.1.2.2.1 y.1.2.2.1))) (eqI x.2.1 y.2.1)
theorem Vd(x y:Pln):zHW x y=decide (x=y):=zHV x y
theorem AX{l:List Pln}(hl:l.length<9223372036854775807):(yC l).val=some (cpc l):=by
 have e:yC l=zEU zHW ((0,0,0,()),0,()) l:=by
  kernel_rfl
 rw[e];exact Vp Vd hl
def onn(p:Pln)(X:List Pnt):Nat:=(X.filter fun x=>decide (rm p x=0)).length
def fac(c:List Pln):List Pln:=c.filter fun p=>decide (3≤onn p (crn (c++bx0)))
def ln(c:List Pln):List Pln:=bif ful c then cpc (Jq (fac c)) else []
theorem pS{c:List Pln}(h:c.length≤48):(crn (c++bx0)).length≤1000000000:=by
 refine zLK (mb _) (zLK (Ko _) ?_);have:(c++bx0).length≤1000:=by simp[bx0];omega
 exact Nat.mul_le_mul this (Nat.mul_le_mul this this)
theorem DN{c:List Pln}(h:chk c=0):(Y4 c).val=some (crn (c++bx0),()):=by
 obtain⟨h1,h2⟩:=Z4 h;unfold Y4;rw[zA,Yd _ (by simp),zLB]
 simp only[List.all_cons,List.all_nil,Bool.and_true,yM];rw[if_neg (by simp[h]),zA,yv (by simp) (by simp;omega),zLB,zA]
 simp only[List.flatten_cons,List.flatten_nil,List.append_nil];rw[wy (by simp[bx0];omega) (fun p hp=>(zLM.1 hp).elim (h2 p) (rH p)),zLB,Comp.zB]
theorem l7{c:List Pln}(h:chk c=0):(jI c).val=some (crn (c++bx0),()):=by
 obtain⟨h1,h2⟩:=Z4 h;unfold jI;rw[zA,j5,zLB,if_neg (by rw[zf];simp[h]),zA,qP (by omega),zLB,zA,
  KM (by simp[bx0];omega) (fun p hp=>(zLM.1 hp).elim (h2 p) (rH p)),zLB,Comp.zB]
theorem Iu{p:Pln}{X:List Pnt}(hX:X.length≤1000000000):(kD p X).val=some (decide (onn p X<3),()):=by
 unfold kD;have h1:=jd (σ:=Int) X.length (fun k n=>match X[k]? with|some x=>if rm p x=0 then n+1 else n|none=>n) (fun k n=>n+(onn p (X.drop k):Nat)) (fun n k=>0≤n∧n≤k)
  (body:=(fun (x:Int×Int)=>if ltI x.2 (zF X)=true then
       (idx X x.2).bind fun x_1=>(Go.F.Zg p x_1).bind fun x_2=>jn (fun (x_3:Int)=>Comp.pure (.next (x_3,zJ .i64 x.2 1))) fun (j:Int→Comp (Comp.Step (Int×Int) Int))=>if eqI x_2.1 0=true then j (zJ .i64 x.1 1) else j x.1
      else Comp.pure (.done x.1)))
  (fun n k hk hI=>by
   obtain⟨x,hx⟩:=zK (xs:=X) (k:=k) hk;refine⟨?_,?_,?_⟩
   ·rw[hx]
    simp only;rw[if_pos (by rw[zH,zC];show (k:Int)<_;omega),zA,zL hx,zLB,zA,qM,zLB,vZ]
    by_cases h:rm p x=0
    ·rw[if_pos (by rw[yw];exact h),if_pos h,Comp.zB,zM (by omega),yh (by omega)]
    ·rw[if_neg (by rw[yw];exact h),if_neg h,Comp.zB,zM (by omega)]
   ·rw[hx]
    simp only;split<;>omega
   ·rw[drop_cons hx,hx]
    unfold onn;by_cases h:rm p x=0
    ·simp only[List.filter_cons,h,decide_true,if_true,zLL];omega
    ·simp[List.filter_cons,h])
  (fun n=>by rw[if_neg (by rw[zH,zC];simp),Comp.zB]) (fun n=>by rw[List.drop_length];simp[onn]) 0 0 (Nat.zero_le _) (by omega)
 rw[zA];refine(congrArg (fun o=>Option.bind o _) h1).trans ?_
 rw[zLB,Comp.zB]
 congr 2
 unfold ltI;rw[List.drop_zero,Int.zero_add];by_cases h:onn p X<3
 ·rw[decide_eq_true h,decide_eq_true (by omega)]
 ·rw[decide_eq_false h,decide_eq_false (by omega)]
theorem mW{c:List Pln}:(fac c).length≤c.length:=List.length_filter_le _ _
theorem KZ(c:List Pln):(ga c).val=some (ln c,()):=by
 unfold ga ln;rw[zA,Zi,zLB,yM]
 cases hf:ful c with
 |false=>rw[if_pos (by simp),Comp.zB];rfl
 |true =>
  have hc:chk c=0:=by
   unfold ful at hf;rw[zLD]at hf;simpa using hf.1
  obtain⟨h1,h2⟩:=Z4 hc;have hX:=pS h1
  have hL:=YW;have e1:(zU c).val=some (c,()):=YV (by unfold LIM;omega)
  have e2:(yH c fun z=>kD z.1 (crn (c++bx0))).val=some (fac c):=by
   refine(G4 (z:=((0,0,0,()),0,())) (f:=fun z=>kD z.1 (crn (c++bx0))) (p:=fun p=>decide (onn p (crn (c++bx0))<3)) (by omega) fun p _=>Iu hX).trans ?_
   unfold fac
   congr 2
   funext p
   by_cases h:onn p (crn (c++bx0))<3
   ·rw[decide_eq_true h,decide_eq_false (by omega)];rfl
   ·rw[decide_eq_false h,decide_eq_true (by omega)];rfl
  rw[if_neg (by simp),zA,DN hc,zLB,zA,e1,zLB,zA,e2,zLB,zA,M3 (by have:=mW (c:=c);unfold LIM;omega),zLB,zA,
   AX (by rw[qK];have:=mW (c:=c);omega),zLB,Comp.zB]
  rfl
theorem pk(p q:Pln):(y7 p q).val=some (Yv p q,()):=by
 unfold y7;rw[Rm];generalize hl:[(p.1.1,q.1.1),(p.1.2.1,q.1.2.1),(p.1.2.2.1,q.1.2.2.1),(p.2.1,q.2.1)]=l;have hm1:[p.1.1,p.1.2.1,p.1.2.2.1,p.2.1]=l.map fun x=>x.1:=by rw[←hl];rfl
 have hm2:[q.1.1,q.1.2.1,q.1.2.2.1,q.2.1]=l.map fun x=>x.2:=by rw[←hl];rfl
 have hlen:l.length=4:=by rw[←hl];rfl
 rw[hm1,hm2];have key:∀(ys zs:List (Int×Int)),l=zs++ys→∃r:Unit⊕Int,(match r with|.inl _=>0|.inr n=>n)=MT ys∧(Comp.loop
     (fun (x:Int)=>if ltI x 4=true then
       (idx (l.map fun x=>x.1) x).bind fun x_1=>(idx (l.map fun x=>x.2) x).bind fun x_2=>if ltI x_1 x_2=true then Comp.pure (.done (Sum.inr (-1)))
         else
          (idx (l.map fun x=>x.1) x).bind fun x_3=>(idx (l.map fun x=>x.2) x).bind fun x_4=>if gtI x_3 x_4=true then Comp.pure (.done (Sum.inr 1)) else Comp.pure (.next (zJ .i64 x 1))
      else Comp.pure (.done (Sum.inl ()))) (zs.length:Int)).val=some r:=by
  intro ys
  induction ys with
  |nil =>
   intro zs hx;have hz:zs.length=4:=by rw[←hlen,hx];simp
   exact⟨.inl (),rfl,by rw[zN,if_neg (by rw[zH];omega),Comp.zB];exact zLB ..⟩
  |cons y ys ih =>
   intro zs hx;have hz:zs.length<4:=by rw[←hlen,hx];simp
   have i1:(idx (l.map fun x=>x.1) (zs.length:Int)).val=some y.1:=zL (by rw[hx];simp)
   have i2:(idx (l.map fun x=>x.2) (zs.length:Int)).val=some y.2:=zL (by rw[hx];simp)
   unfold MT;by_cases h1:y.1<y.2
   ·refine⟨.inr (-1),by rw[if_pos h1],?_⟩
    rw[zN,if_pos (by rw[zH];omega),zA,i1,zLB,zA,i2,zLB,if_pos (by rw[zH];exact h1),Comp.zB];rfl
   ·by_cases h2:y.2<y.1
    ·refine⟨.inr 1,by rw[if_neg h1,if_pos h2],?_⟩
     rw[zN,if_pos (by rw[zH];omega),zA,i1,zLB,zA,i2,zLB,if_neg (by rw[zH];exact h1),zA,i1,zLB,zA,i2,zLB,if_pos (by rw[yd];exact h2),Comp.zB];rfl
    ·obtain⟨r,h3,h4⟩:=ih (zs++[y]) (by rw[hx];simp)
     refine⟨r,by rw[if_neg h1,if_neg h2];exact h3,?_⟩
     rw[zN,if_pos (by rw[zH];omega),zA,i1,zLB,zA,i2,zLB,if_neg (by rw[zH];exact h1),zA,i1,zLB,zA,i2,zLB,if_neg (by rw[yd];exact h2),Comp.zB,zM (by omega),zLB]
     simpa using h4
 obtain⟨r,h3,h4⟩:=key l [] rfl;rw[zA];refine(congrArg (fun o=>Option.bind o _) h4).trans ?_
 rw[zLB,←h3];cases r<;>exact Comp.zB _
def bef(p:Pln):List Pln→Nat
 | []=>0
 |q::l=>if Yv q p<0 then bef p l+1 else 0
theorem Rr{p:Pln}:∀ {l:List Pln},bef p l≤l.length
 | []=>zLF _
 |q::l=>by
  have:=Rr (p:=p) (l:=l);unfold bef;split<;>simp only[zLL]<;>omega
theorem BD{p:Pln}:∀ {l:List Pln},Ys p l=if l[bef p l]?=some p then l else l.take (bef p l)++p::l.drop (bef p l)
 | []=>rfl
 |q::l=>by
  have ih:=BD (p:=p) (l:=l);unfold Ys bef;split
  ·rw[ih]
   simp only[List.getElem?_cons_succ,List.take_succ_cons,List.drop_succ_cons,List.cons_append];split<;>rfl
  ·simp only[List.getElem?_cons_zero,Option.some.injEq,List.take_zero,List.drop_zero,List.nil_append]
theorem NC{l:List Pln}{p:Pln}(hl:l.length≤1000000):(jQ l p).val=some (Ys p l,()):=by
 have hL:=YW;unfold jQ;have key:∀(ys zs:List Pln),l=zs++ys→(Comp.loop
     (fun (x:Int)=>(Comp.gd (ltI x (zF l)) (idx l x) ((0,0,0,()),0,())).bind fun x_1=>(Comp.gd (ltI x (zF l)) (Go.F.y7 x_1 p) (0,())).bind fun x_2=>if sel (ltI x (zF l)) (ltI x_2.1 0) false=true then Comp.pure (.next (zJ .i64 x 1)) else Comp.pure (.done x))
     (zs.length:Int)).val=some (((zs.length+bef p ys:Nat)):Int):=by
  intro ys
  induction ys with
  |nil =>
   intro zs hx;have h1:ltI (zs.length:Int) (zF l)=false:=by unfold ltI;rw[decide_eq_false];rw[zC,hx];simp
   rw[zN];simp only[h1];rw[zA];show Option.bind (Option.bind (Comp.pure _).val _) _=_
   rw[Comp.zB,zLB,zA];show Option.bind (Option.bind (Comp.pure _).val _) _=_
   rw[Comp.zB,zLB];rw[if_neg (by simp[sel]),Comp.zB,zLB]
   rfl
  |cons y ys ih =>
   intro zs hx;have hy:l[zs.length]?=some y:=by rw[hx];simp
   have hlt:=zO hy;have h1:ltI (zs.length:Int) (zF l)=true:=by rw[zH,zC];omega
   rw[zN];simp only[h1];rw[zA];show Option.bind (Option.bind (idx l (zs.length:Int)).val _) _=_
   rw[zL hy,zLB,zA];show Option.bind (Option.bind (y7 y p).val _) _=_
   rw[pk,zLB];unfold bef;by_cases h2:Yv y p<0
   ·rw[if_pos (by show sel true (ltI (Yv y p) 0) false=true;show ltI (Yv y p) 0=true;rw[zH];exact h2),if_pos h2,Comp.zB,zM (by omega),zLB]
    have:=ih (zs++[y]) (by rw[hx];simp)
    simp only[zLE,zLG]at this;rw[show zs.length+(bef p ys+1)=zs.length+1+bef p ys by omega]
    exact this
   ·rw[if_neg (by show ¬sel true (ltI (Yv y p) 0) false=true;show ¬ltI (Yv y p) 0=true;rw[zH];exact h2),if_neg h2,Comp.zB,zLB]
    rfl
 have h1:=key l [] rfl;simp only[List.length_nil,Nat.zero_add]at h1;have hb:=Rr (p:=p) (l:=l)
 rw[zA];refine(congrArg (fun o=>Option.bind o _) h1).trans ?_
 rw[zLB,BD];have tail:((sub l 0 ((bef p l:Nat):Int)).bind fun x_2=>(app [] x_2).bind fun zs=>(app zs [p]).bind fun zs=>(sub l ((bef p l:Nat):Int) (zF l)).bind fun x=>(app zs x).bind fun zs=>(Comp.pure (zs,()):Comp (List Pln×Unit))).val=some (l.take (bef p l)++p::l.drop (bef p l),()):=by
  have s1:(sub l 0 ((bef p l:Nat):Int)).val=some (l.take (bef p l)):=by rw[YQ (by omega)];simp
  rw[zA,s1,zLB,zA,yG (by simp;unfold LIM;omega),zLB,zA,yG (by simp;unfold LIM;omega),zLB,zA,nq hb,zLB,zA,
   yG (by simp;unfold LIM;omega),zLB,Comp.zB]
  simp
 by_cases hlt:bef p l<l.length
 ·obtain⟨y,hy⟩:=zK (xs:=l) (k:=bef p l) hlt
  have h2:ltI ((bef p l:Nat):Int) (zF l)=true:=by rw[zH,zC];omega
  rw[h2,zA];show Option.bind (idx l ((bef p l:Nat):Int)).val _=_
  rw[zL hy,zLB,hy];have he:=zHV y p
  by_cases hp:y=p
  ·rw[if_pos (by show sel true _ false=true;show (adB _ _)=true;rw[he];exact decide_eq_true hp),if_pos (by rw[hp]),Comp.zB]
  ·rw[if_neg (by show ¬sel true _ false=true;show ¬(adB _ _)=true;rw[he];simp[hp]),if_neg (by simp[hp])]
   exact tail
 ·have h2:ltI ((bef p l:Nat):Int) (zF l)=false:=by unfold ltI;rw[decide_eq_false];rw[zC];omega
  rw[h2,zA];show Option.bind (Comp.pure _).val _=_
  rw[Comp.zB,zLB,if_neg (by simp[sel]),if_neg (by rw[List.getElem?_eq_none (by omega)];simp)]
  exact tail
theorem Um{i:Nat}{c:List Pln}{p:Pln}(hp:c[i]?=some p){X:List Pnt}(hX:X.length≤1000000000):(Comp.loop
             (fun (x_2:Int×Int)=>if ltI x_2.2 (zF X)=true then
               (idx c (i:Int)).bind fun x=>(idx X x_2.2).bind fun x_3=>(Go.F.zj x x_3).bind fun x=>jn (fun (x:Int)=>Comp.pure (.next (x,zJ .i64 x_2.2 1)))
                   fun (j:Int→Comp (Comp.Step (Int×Int) Int))=>if eqI x.1 0=true then j (zJ .i64 x_2.1 1) else j x_2.1
              else Comp.pure (.done x_2.1))
             (0,0)).val=some ((onn p X:Nat):Int):=by
 have h1:=jd (σ:=Int) X.length (fun k n=>match X[k]? with|some x=>if rm p x=0 then n+1 else n|none=>n) (fun k n=>n+(onn p (X.drop k):Nat)) (fun n k=>0≤n∧n≤k)
  (body:=(fun (x_2:Int×Int)=>if ltI x_2.2 (zF X)=true then
               (idx c (i:Int)).bind fun x=>(idx X x_2.2).bind fun x_3=>(Go.F.zj x x_3).bind fun x=>jn (fun (x:Int)=>Comp.pure (.next (x,zJ .i64 x_2.2 1)))
                   fun (j:Int→Comp (Comp.Step (Int×Int) Int))=>if eqI x.1 0=true then j (zJ .i64 x_2.1 1) else j x_2.1
              else Comp.pure (.done x_2.1)))
  (fun n k hk hI=>by
   obtain⟨x,hx⟩:=zK (xs:=X) (k:=k) hk;refine⟨?_,?_,?_⟩
   ·rw[hx]
    simp only;rw[if_pos (by rw[zH,zC];show (k:Int)<_;omega),zA,zL hp,zLB,zA,zL hx,zLB,zA,wH,zLB,vZ]
    by_cases h:rm p x=0
    ·rw[if_pos (by rw[yw];exact h),if_pos h,Comp.zB,zM (by omega),yh (by omega)]
    ·rw[if_neg (by rw[yw];exact h),if_neg h,Comp.zB,zM (by omega)]
   ·rw[hx]
    simp only;split<;>omega
   ·rw[drop_cons hx,hx]
    unfold onn;by_cases h:rm p x=0
    ·simp only[List.filter_cons,h,decide_true,if_true,zLL];omega
    ·simp[List.filter_cons,h])
  (fun n=>by rw[if_neg (by rw[zH,zC];simp),Comp.zB]) (fun n=>by rw[List.drop_length];simp[onn]) 0 0 (Nat.zero_le _) (by omega)
 rw[List.drop_zero,Int.zero_add]at h1;exact h1
theorem XL(c:List Pln):(zr c).val=some (ln c,()):=by
 unfold zr ln;rw[zA,YX,zLB,yM]
 cases hf:ful c with
 |false=>rw[if_pos (by simp),Comp.zB];rfl
 |true =>
  have hc:chk c=0:=by
   unfold ful at hf;rw[zLD]at hf;simpa using hf.1
  obtain⟨h1,h2⟩:=Z4 hc;have hX:=pS h1
  have hL:=YW;rw[if_neg (by simp),zA,l7 hc,zLB]
  have h3:=jd c.length (fun k l=>match c[k]? with|some p=>if 3≤onn p (crn (c++bx0)) then Ys p l else l|none=>l) (fun k l=>((c.drop k).filter fun p=>decide (3≤onn p (crn (c++bx0)))).foldl (fun m p=>Ys p m) l) (fun l k=>l.length≤k)
   (body:=(fun (x_1:List (Pln)×Int)=>if ltI x_1.2 (zF c)=true then
          (Comp.loop
             (fun (x_2:Int×Int)=>if ltI x_2.2 (zF (crn (c++bx0)))=true then
               (idx c x_1.2).bind fun x=>(idx (crn (c++bx0)) x_2.2).bind fun x_3=>(Go.F.zj x x_3).bind fun x=>jn (fun (x:Int)=>Comp.pure (.next (x,zJ .i64 x_2.2 1)))
                   fun (j:Int→Comp (Comp.Step (Int×Int) Int))=>if eqI x.1 0=true then j (zJ .i64 x_2.1 1) else j x_2.1
              else Comp.pure (.done x_2.1))
             (0,0)).bind fun x=>jn (fun (x:List (Pln))=>Comp.pure (.next (x,zJ .i64 x_1.2 1)))
            fun (j :
              List (Pln)→Comp (Comp.Step (List (Pln)×Int) (List (Pln)))) =>
            if geI x 3=true then
             (idx c x_1.2).bind fun x=>(Go.F.jQ x_1.1 x).bind fun x=>j x.1
            else j x_1.1
         else Comp.pure (.done x_1.1)))
   (fun l k hk hI=>by
    obtain⟨p,hp⟩:=zK (xs:=c) (k:=k) hk;refine⟨?_,?_,?_⟩
    ·rw[hp]
     simp only;rw[if_pos (by rw[zH,zC];show (k:Int)<_;omega),zA]
     refine(congrArg (fun o=>Option.bind o _) (Um hp hX)).trans ?_
     rw[zLB,vZ];by_cases h:3≤onn p (crn (c++bx0))
     ·rw[if_pos (by rw[XK];omega),if_pos h,zA,zL hp,zLB,zA,NC (by omega),zLB,Comp.zB,zM (by omega)]
     ·rw[if_neg (by rw[XK];omega),if_neg h,Comp.zB,zM (by omega)]
    ·rw[hp]
     simp only;have:=BC (p:=p) (l:=l)
     split<;>omega
    ·rw[drop_cons hp,hp]
     by_cases h:3≤onn p (crn (c++bx0))
     ·simp[List.filter_cons,h]
     ·simp[List.filter_cons,h])
   (fun n=>by rw[if_neg (by rw[zH,zC];simp),Comp.zB]) (fun n=>by rw[List.drop_length];rfl) 0 [] (Nat.zero_le _) (by simp)
  rw[zA];refine(congrArg (fun o=>Option.bind o _) h3).trans ?_
  rw[zLB,Comp.zB,List.drop_zero,NN];rfl
abbrev Cell:=List Pln
def gk:List Cell→Int
 | []=>0
 |c::s=>if chk c=0 then gk s else chk c
def sck(s:List Cell):Int:=if 16<s.length then 2 else gk s
def sap(c:Cell)(s:List Cell):Bool:=s.all fun q=>apa c q
def jl(p:Pln):Pln:=((-p.1.1, -p.1.2.1, -p.1.2.2.1,()), -p.2.1,())
def gp:Cell→List Pln→List (Option Cell)
 |_,[]=>[]
 |rest,p::fs=>if 48≤rest.length then [none] else (bif decide (ln (rest++[jl p])=[]) then [] else [some (ln (rest++[jl p]))])++gp (ln (rest++[p])) fs
def ju:List (Option α)→Bool
 | []=>false
 |none::_=>true
 |some _::l=>ju l
def yf:List (Option α)→List α
 | []=>[]
 |none::l=>yf l
 |some x::l=>x::yf l
def wo(q:Cell):List Cell→List Cell→Option (List Cell)
 | [],out=>some out
 |x::xs,out=>if apa x q=true then wo q xs (out++[x]) else if ju (gp x (ln q))=true then none else wo q xs (out++yf (gp x (ln q)))
def wth(pieces:List Cell)(q:Cell):List Cell×Int :=
 if ful q=true then match wo q pieces [] with
  |none=>([],9)
  |some out=>if 200<out.length then ([],9) else (out,0)
 else (pieces,0)
def Xm:List Cell→List Cell→List Cell×Int
 |pcs,[]=>(pcs,0)
 |pcs,q::s=>if (wth pcs q).2=0 then Xm (wth pcs q).1 s else ([],(wth pcs q).2)
def mns(c:Cell)(s:List Cell):List Cell×Int:=if chk c=0 then if sck s=0 then if ful c=true then Xm [ln c] s else ([],0) else ([],sck s) else ([],chk c)
def cov(s:List Cell)(c:Cell):Bool×Int:=(decide ((mns c s).2=0) && decide ((mns c s).1.length=0),(mns c s).2)
theorem lX:∀ {fs:List Pln} {rest:Cell},(gp rest fs).length≤fs.length
 | [],_=>zLF _
 |p::fs,rest=>by
  have:=lX (fs:=fs) (rest:=ln (rest++[p]));unfold gp;split
  ·simp
  ·cases decide (ln (rest++[jl p])=[])<;>simp<;>omega
theorem JW:∀ {l:List (Option α)},(yf l).length≤l.length
 | []=>zLF _
 |none::l=>by have:=JW (l:=l);simp only[yf,zLL];omega
 |some _::l=>by have:=JW (l:=l);simp only[yf,zLL];omega
theorem zAK:∀ {fs:List Pln} {rest:Cell} {c:Cell},some c∈gp rest fs→c≠[]
 | [],_,_,h=>by cases h
 |p::fs,rest,c,h=>by
  unfold gp at h;split at h
  ·simp at h
  ·rw[zLM]at h
   rcases h with h|h
   ·by_cases he:ln (rest++[jl p])=[]
    ·rw[decide_eq_true he]at h;cases h
    ·rw[decide_eq_false he]at h
     simp only[cond_false,List.mem_singleton,Option.some.injEq]at h;subst h;exact he
   ·exact zAK h
theorem qZ [DecidableEq α]{y:α}:∀ {l:List α} {x:α},y∈J5 x l→y∈l
 | [],_,h=>h
 |z::l,x,h=>by
  unfold J5 at h;split at h
  ·exact zLN _ (qZ h)
  ·rcases zLH.1 h with rfl|h
   ·simp
   ·exact zLN _ (qZ h)
theorem Vq [DecidableEq α]{y:α}{l:List α}(h:y∈cpc l):y∈l:=by
 cases l with
 |nil=>exact h
 |cons x l =>
  rcases zLH.1 h with rfl|h
  ·simp
  ·exact zLN _ (qZ h)
theorem VZ{c:Cell}(h:ful c=true):chk c=0:=by
 unfold ful at h;rw[zLD]at h;simpa using h.1
theorem zGt{c:Cell}:(ln c).length≤48∧∀p∈ln c,okB p:=by
 unfold ln
 cases hf:ful c with
 |false=>simp
 |true =>
  obtain⟨h1,h2⟩:=Z4 (VZ hf);have h3:=mW (c:=c)
  refine⟨?_,fun p hp=>?_⟩
  ·have:=G6 (l:=Jq (fac c))
   rw[qK]at this;show (cpc (Jq (fac c))).length≤48
   omega
  ·have:=qJ.1 (Vq (show p∈cpc (Jq (fac c)) from hp))
   exact h2 p (List.mem_filter.1 this).1
theorem Ew{pieces:List Cell}{q:Cell}(h:pieces.length≤200):(wth pieces q).1.length≤200:=by
 unfold wth;split
 ·split
  ·simp
  ·split
   ·simp
   ·simp only;omega
 ·exact h
theorem ux{s:List Cell}(hl:s.length<9223372036854775807){body:Int→Comp (Comp.Step Int (Unit⊕Int))}(hb:∀(i:Nat) c,s[i]?=some c→(body (i:Int)).val=some (if chk c=0 then .next ((i+1:Nat):Int) else .done (.inr (chk c))))(he:(body (s.length:Int)).val=some (.done (.inl ()))) :
  ∃r:Unit⊕Int,(match r with|.inl _=>0|.inr n=>n)=gk s∧(Comp.loop body 0).val=some r:=by
 have key:∀(ys zs:List Cell),s=zs++ys→∃r:Unit⊕Int,(match r with|.inl _=>0|.inr n=>n)=gk ys∧(Comp.loop body (zs.length:Int)).val=some r:=by
  intro ys
  induction ys with
  |nil =>
   intro zs hx;refine⟨.inl (),rfl,?_⟩;rw[zN,show zs.length=s.length by rw[hx];simp,he];rfl
  |cons y ys ih =>
   intro zs hx;have hy:s[zs.length]?=some y:=by rw[hx];simp
   unfold gk;by_cases h:chk y=0
   ·obtain⟨r,h1,h2⟩:=ih (zs++[y]) (by rw[hx];simp)
    refine⟨r,by rw[if_pos h];exact h1,?_⟩
    rw[zN,hb _ _ hy,if_pos h,zLB];simpa using h2
   ·refine⟨.inr (chk y),by rw[if_neg h],?_⟩
    rw[zN,hb _ _ hy,if_neg h,zLB]
 exact key s [] rfl
theorem uI(s:List Cell):(Yy s).val=some (sck s,()):=by
 unfold Yy sck;by_cases h:16<s.length
 ·rw[if_pos (by rw[yd,zC];omega),if_pos h,Comp.zB]
 ·rw[if_neg (by rw[yd,zC];omega),if_neg h]
  obtain⟨r,h1,h2⟩:=ux (s:=s) (by omega)
   (body:=(fun (x:Int)=>if ltI x (zF s)=true then
        (idx s x).bind fun x_1=>(Go.F.vP x_1).bind fun x_2=>if neI x_2.1 0=true then Comp.pure (.done (Sum.inr x_2.1)) else Comp.pure (.next (zJ .i64 x 1))
       else Comp.pure (.done (Sum.inl ()))))
   (fun i c hc=>by
    have hlt:=zO hc;rw[if_pos (by rw[zH,zC];omega),zA,zL hc,zLB,zA,gI,zLB,zM (by omega)]
    by_cases h:chk c=0
    ·rw[if_neg (by rw[zf];simp[h]),if_pos h,Comp.zB]
    ·rw[if_pos (by rw[zf];exact h),if_neg h,Comp.zB])
   (by rw[if_neg (by rw[zH,zC];omega),Comp.zB])
  rw[zA];refine(congrArg (fun o=>Option.bind o _) h2).trans ?_
  rw[zLB,←h1];cases r<;>exact Comp.zB _
theorem gN(c:Cell){s:List Cell}(hl:s.length<9223372036854775807):(yU c s).val=some (sap c s,()):=by
 unfold yU;have h1:(zG s fun z=>jD z.1 c).val=some (s.any fun q=>!apa c q,()) :=
  ZP (xs:=s) (f:=fun z=>jD z.1 c) (p:=fun q=>!apa c q) hl fun q _=>by
   show (jD q c).val=_
   unfold jD;rw[zA,jG,zLB,Comp.zB];rfl
 rw[zA,h1,zLB,Comp.zB,yM];unfold sap;rw[List.all_eq_not_any_not]
theorem Bi{p:Pln}(h:okB p):(Ye p).val=some (jl p,()):=by
 obtain⟨⟨h1,h2,h3⟩,h4⟩:=h;unfold Ye wI;rw[zA,Comp.zB,zLB,Comp.zB,Jg (by omega),YK (by simp only;omega),YK (by simp only;omega),YK (by simp only;omega)]
 unfold jl;simp only[Int.zero_sub]
theorem B3{c:Cell}{p:Pln}(h:c.length≤1000):(zQ [c,[p]]).val=some (c++[p],()):=by
 have:=K0 (z:=((0,0,0,()),0,())) (xs:=[c,[p]]) (by simp;unfold LIM;omega) (by simp)
 simp only[List.flatten_cons,List.flatten_nil,List.append_nil]at this;exact this
theorem r9{piece:Cell}{fs:List Pln}(hl:fs.length≤1000)(hB:∀p∈fs,okB p):(jw piece fs).val=some ((gp piece fs).map fun o=>(o,())):=by
 unfold jw;have key:∀(ys zs:List Pln) (rest:Cell),fs=zs++ys→∃e:Unit⊕Unit,(YF
       (fun (x:List (Pln)×Int)=>if ltI x.2 (zF fs)=true then
         (idx fs x.2).bind fun x_1=>if geI (zF x.1) 48=true then tell [(none,())] (Comp.pure ([],.done (Sum.inr ())))
          else
           (Go.F.Ye x_1).bind fun x_2=>(Go.F.zQ [x.1,[x_2.1]]).bind fun y=>(Go.F.ga y.1).bind fun y_1=>if gtI (zF y_1.1) 0=true then
               tell [(some y_1.1,())]
                ((Go.F.zQ [x.1,[x_1]]).bind fun y=>(Go.F.ga y.1).bind fun y=>Comp.pure ([],.next (y.1,zJ .i64 x.2 1)))
              else
               (Go.F.zQ [x.1,[x_1]]).bind fun y=>(Go.F.ga y.1).bind fun y=>Comp.pure ([],.next (y.1,zJ .i64 x.2 1))
        else Comp.pure ([],.done (Sum.inl ()))) (rest,(zs.length:Int))).val=some ((gp rest ys).map fun o=>(o,()),e):=by
  intro ys
  induction ys with
  |nil =>
   intro zs rest hx;exact⟨.inl (),J0 (by rw[if_neg (by rw[zH,zC,hx];simp),Comp.zB];rfl)⟩
  |cons p ys ih =>
   intro zs rest hx;have hy:fs[zs.length]?=some p:=by rw[hx];simp
   have hlt:=zO hy;have hp:=hB p (zLI hy)
   by_cases hr:48≤rest.length
   ·refine⟨.inr (),J0 ?_⟩
    rw[if_pos (by rw[zH,zC];show (zs.length:Int)<_;omega),zA,zL hy,zLB,if_pos (by rw[XK,zC];show _≤((rest.length:Nat):Int);omega),Yn,Comp.zB]
    unfold gp;rw[if_pos hr];rfl
   ·obtain⟨e,he⟩:=ih (zs++[p]) (ln (rest++[p])) (by rw[hx];simp)
    refine⟨e,?_⟩;have hgp:(gp rest (p::ys)).map (fun o=>(o,()))=(bif decide (ln (rest++[jl p])=[]) then [] else [(some (ln (rest++[jl p])),())])++(gp (ln (rest++[p])) ys).map fun o=>(o,()):=by
     conv=>lhs;unfold gp
     rw[if_neg hr,List.map_append];cases decide (ln (rest++[jl p])=[])<;>rfl
    rw[hgp];refine tV (s':=(ln (rest++[p]),((zs.length+1:Nat):Int))) ?_ (by simpa using he)
    rw[if_pos (by rw[zH,zC];show (zs.length:Int)<_;omega),zA,zL hy,zLB,if_neg (by rw[XK,zC];show ¬_≤((rest.length:Nat):Int);omega),
     zA,Bi hp,zLB,zA,B3 (by show rest.length≤1000;omega),zLB,zA,KZ,zLB]
    have ht:((Go.F.zQ [rest,[p]]).bind fun y=>(Go.F.ga y.1).bind fun y=>(Comp.pure ([],.next (y.1,zJ .i64 (zs.length:Int) 1)):Comp (List (Option Cell×Unit)×Comp.Step (Cell×Int) (Unit⊕Unit)))).val=some ([],.next (ln (rest++[p]),((zs.length+1:Nat):Int))):=by
     rw[zA,B3 (by omega),zLB,zA,KZ,zLB,Comp.zB,zM (by omega)]
    by_cases h0:ln (rest++[jl p])=[]
    ·rw[if_neg (by rw[yd,zC,h0];simp),decide_eq_true h0]
     exact ht
    ·rw[if_pos (by rw[yd,zC];have:=List.length_pos_iff.2 h0;show (0:Int)<((ln (rest++[jl p])).length:Int);omega),Yn,decide_eq_false h0]
     refine(congrArg (Option.map _) ht).trans ?_;rfl
 obtain⟨e,he⟩:=key fs [] piece rfl;rw[zA,zA];refine(congrArg (fun o=>Option.bind (Option.bind o _) _) he).trans ?_
 rw[zLB,Yn];have h3:∀e:Unit⊕Unit,(match e with|Sum.inl x=>Comp.pure ([],())|Sum.inr x=>Comp.pure ([],()):Comp (List (Option Cell×Unit)×Unit)).val=some ([],()):=fun e=>by cases e<;>exact Comp.zB _
 refine(congrArg (fun o=>Option.bind (Option.map _ o) _) (h3 e)).trans ?_
 simp only[Option.map_some,zLB,List.append_nil];exact Comp.zB _
theorem pN{a:List Cell}{b:Int}:∀(L:List (Option Cell)) (out:List Cell),(∀c,some c∈L→c≠[])→out.length+L.length≤1000000→(wA
                   (fun (x :
                      List (List (Pln))×Int×List (List (Pln)))
                     (d:Option (List (Pln))×Unit) =>
                    match d.1 with
                    |none=>Comp.pure (.done ([],Int.ofNat 9))
                    |some xs =>
                     amb (K3 xs) (Comp.pure (.done ([],Int.ofNat 9)))
                      ((app x.2.2 [xs]).bind fun zs=>Comp.pure (.next (x.1,x.2.1,zs))))
                   (L.map fun o=>(o,())) (a,b,out)).val=some (if ju L=true then .done ([],9) else .next (a,b,out++yf L):Comp.Step (List Cell×Int×List Cell) (List Cell×Int))
 | [],out,_,_=>by
  show (Comp.pure _).val=_
  rw[Comp.zB];simp[ju,yf]
 |none::L,out,_,_=>by
  show ((Comp.pure _).bind _).val=_
  rw[zA,Comp.zB,zLB,Comp.zB];rfl
 |some c::L,out,hne,hlen=>by
  have hc:=hne c (by simp)
  simp only[zLL]at hlen;show ((amb (K3 c) _ _).bind _).val=_
  have hn:K3 c=false:=by cases c with
   |nil=>exact absurd rfl hc
   |cons _ _=>rfl
  have h1:(amb (K3 c) (Comp.pure (.done ([],Int.ofNat 9))) ((app out [c]).bind fun zs=>Comp.pure (.next (a,b,zs))):Comp (Comp.Step (List Cell×Int×List Cell) (List Cell×Int))).val=some (.next (a,b,out++[c])):=by
   rw[hn];show ((app out [c]).bind _).val=_
   rw[zA,yG (by simp only[zLG];unfold LIM;omega),zLB,Comp.zB]
  rw[zA];refine(congrArg (fun o=>Option.bind o _) h1).trans ?_
  rw[zLB];refine(pN L (out++[c]) (fun c' h=>hne c' (zLN _ h)) (by simp only[zLE,zLG];omega)).trans ?_
  show some (if ju L=true then _ else _)=some (if ju L=true then _ else _)
  simp only[yf,List.append_assoc,List.singleton_append]
theorem wV{pieces:List Cell}(q:Cell)(hl:pieces.length≤200):(kO pieces q).val=some ((wth pieces q).1,(wth pieces q).2,()):=by
 unfold kO;rw[zA,Zi,zLB,yM];by_cases hf:ful q=true
 ·rw[if_neg (by simp[hf]),zA,KZ,zLB]
  have hq:=zGt (c:=q)
  have key:∀(ys zs:List Cell) (out:List Cell),pieces=zs++ys→out.length+ys.length * 49≤20000→∃r,(match r with
    |.inl x=>some x.2.2
    |.inr _=>none)=wo q ys out∧(∀x,r=.inr x→x=([],9))∧(∀x,r=.inl x→x.1=[]∧x.2.1=0)∧(Comp.loop
        (fun (x:Int×List (List (Pln))×Int×List (List (Pln)))=>if ltI x.1 (zF pieces)=true then
          jn
           (fun (x_1:List (List (Pln))×Int×List (List (Pln)))=>Comp.pure (.next (zJ .i64 x.1 1,x_1.1,x_1.2.1,x_1.2.2)))
           fun (j :
             List (List (Pln))×Int×List (List (Pln))→Comp
               (Comp.Step
                (Int×List (List (Pln))×Int×List (List (Pln)))
                (List (List (Pln))×Int×List (List (Pln)) ⊕
                 List (List (Pln))×Int))) =>
           (idx pieces x.1).bind fun x_1=>(Go.F.j7 x_1 q).bind fun x_2=>if x_2.1=true then (app x.2.2.2 [x_1]).bind fun zs=>j (x.2.1,x.2.2.1,zs)
             else
              (Go.F.Zl x_1 (ln q)).bind fun (x_3:Comp (List (Option (List (Pln))×Unit))×Unit)=>x_3.1.bind fun (xs:List (Option (List (Pln))×Unit))=>(wA
                   (fun (x :
                      List (List (Pln))×Int×List (List (Pln)))
                     (d:Option (List (Pln))×Unit) =>
                    match d.1 with
                    |none=>Comp.pure (.done ([],Int.ofNat 9))
                    |some xs =>
                     amb (K3 xs) (Comp.pure (.done ([],Int.ofNat 9)))
                      ((app x.2.2 [xs]).bind fun zs=>Comp.pure (.next (x.1,x.2.1,zs))))
                   xs (x.2.1,x.2.2.1,x.2.2.2)).bind fun (r :
                   Comp.Step
                    (List (List (Pln))×Int×List (List (Pln)))
                    (List (List (Pln))×Int)) =>
                 match r with
                 |.next x=>j (x.1,x.2.1,x.2.2)
                 |.done e=>Comp.pure (.done (Sum.inr (e.1,e.2)))
         else Comp.pure (.done (Sum.inl (x.2.1,x.2.2.1,x.2.2.2)))) ((zs.length:Int),[],0,out)).val=some r:=by
   intro ys
   induction ys with
   |nil =>
    intro zs out hx hlen;refine⟨.inl ([],0,out),rfl,(fun x h=>nomatch h),(fun x h=>by cases h;exact⟨rfl,rfl⟩),?_⟩
    rw[zN,if_neg (by rw[zH,zC,hx];simp),Comp.zB];rfl
   |cons y ys ih =>
    intro zs out hx hlen;simp only[zLL]at hlen;have hy:pieces[zs.length]?=some y:=by rw[hx];simp
    have hlt:=zO hy;by_cases ha:apa y q=true
    ·obtain⟨r,h1,h2,h3,h4⟩:=ih (zs++[y]) (out++[y]) (by rw[hx];simp) (by simp only[zLE,zLG];omega)
     refine⟨r,by rw[h1];conv=>rhs;unfold wo;rw[if_pos ha],h2,h3,?_⟩
     rw[zN,if_pos (by rw[zH,zC];show (zs.length:Int)<_;omega),vZ,zA,zL hy,zLB,zA,jG,zLB,if_pos ha,zA,
      yG (by simp only[zLG];unfold LIM;show out.length+1≤_;omega),zLB,Comp.zB,zLB,zM (by omega)]
     simpa using h4
    ·have hp:(Zl y (ln q)).val=some (jw y (ln q),()):=by unfold Zl;exact Comp.zB _
     have hfo:=pN (a:=[]) (b:=0) (gp y (ln q)) out (fun c h=>zAK h) (by have:=lX (fs:=ln q) (rest:=y);omega)
     by_cases hn:ju (gp y (ln q))=true
     ·refine⟨.inr ([],9),by conv=>rhs;unfold wo;rw[if_neg ha,if_pos hn],(fun x h=>by cases h;rfl),(fun x h=>nomatch h),?_⟩
      rw[if_pos hn]at hfo;rw[zN,if_pos (by rw[zH,zC];show (zs.length:Int)<_;omega),vZ,zA,zL hy,zLB,zA,jG,zLB,if_neg ha,zA,hp,zLB,zA,
       r9 (by omega) hq.2,zLB,zA]
      refine(congrArg (fun o=>Option.bind (Option.bind o _) _) hfo).trans ?_
      rw[zLB,Comp.zB];rfl
     ·have hs:=JW (l:=gp y (ln q))
      have hg:=lX (fs:=ln q) (rest:=y);obtain⟨r,h1,h2,h3,h4⟩:=ih (zs++[y]) (out++yf (gp y (ln q))) (by rw[hx];simp) (by simp only[zLE];omega)
      refine⟨r,by rw[h1];conv=>rhs;unfold wo;rw[if_neg ha,if_neg hn],h2,h3,?_⟩
      rw[if_neg hn]at hfo;rw[zN,if_pos (by rw[zH,zC];show (zs.length:Int)<_;omega),vZ,zA,zL hy,zLB,zA,jG,zLB,if_neg ha,zA,hp,zLB,zA,
       r9 (by omega) hq.2,zLB,zA]
      refine(congrArg (fun o=>Option.bind (Option.bind o _) _) hfo).trans ?_
      rw[zLB,Comp.zB,zLB,zM (by omega)]
      simpa using h4
  obtain⟨r,h1,h2,h3,h4⟩:=key pieces [] [] rfl (by simp;omega)
  rw[zA];refine(congrArg (fun o=>Option.bind o _) h4).trans ?_
  rw[zLB];unfold wth;rw[if_pos hf,←h1]
  cases r with
  |inl x =>
   simp only;by_cases hlen:200<x.2.2.length
   ·rw[if_pos (by rw[yd,zC];omega),if_pos hlen,Comp.zB]
   ·rw[if_neg (by rw[yd,zC];omega),if_neg hlen,Comp.zB]
  |inr x =>
   rw[h2 x rfl];exact Comp.zB _
 ·rw[if_pos (by simpa using hf),Comp.zB]
  unfold wth;rw[if_neg hf]
theorem Ip(c:Cell)(s:List Cell):(Yx c s).val=some ((mns c s).1,(mns c s).2,()):=by
 unfold Yx mns;rw[zA,gI,zLB];by_cases hc:chk c=0
 ·rw[if_neg (by rw[zf];simp[hc]),if_pos hc,zA,uI,zLB]
  by_cases hs:sck s=0
  ·have hlen:s.length≤16:=by
    unfold sck at hs;split at hs
    ·cases hs
    ·omega
   rw[if_neg (by rw[zf];simp[hs]),if_pos hs,zA,Zi,zLB,yM]
   by_cases hf:ful c=true
   ·rw[if_neg (by simp[hf]),if_pos hf,zA,KZ,zLB]
    have key:∀(ys zs:List Cell) (pcs:List Cell),s=zs++ys→pcs.length≤200→∃r:List Cell⊕List Cell×Int,(match r with
      |.inl x=>(x,0)
      |.inr x =>
            x)=Xm pcs ys∧(Comp.loop
            (fun (x:List (List (Pln))×Int)=>if ltI x.2 (zF s)=true then
              (idx s x.2).bind fun x_1=>(Go.F.kO x.1 x_1).bind fun x_2=>if neI x_2.2.1 0=true then Comp.pure (.done (Sum.inr ([],x_2.2.1)))
                else Comp.pure (.next (x_2.1,zJ .i64 x.2 1))
             else Comp.pure (.done (Sum.inl x.1))) (pcs,(zs.length:Int))).val=some r:=by
     intro ys
     induction ys with
     |nil =>
      intro zs pcs hx hlen;refine⟨.inl pcs,rfl,?_⟩;rw[zN,if_neg (by rw[zH,zC,hx];simp),Comp.zB];rfl
     |cons y ys ih =>
      intro zs pcs hx hlen';have hy:s[zs.length]?=some y:=by rw[hx];simp
      have hlt:=zO hy;unfold Xm;by_cases he:(wth pcs y).2=0
      ·obtain⟨r,h1,h2⟩:=ih (zs++[y]) (wth pcs y).1 (by rw[hx];simp) (Ew hlen')
       refine⟨r,by rw[if_pos he];exact h1,?_⟩
       rw[zN,if_pos (by rw[zH,zC];show (zs.length:Int)<_;omega),zA,zL hy,zLB,zA,wV y hlen',zLB,if_neg (by rw[zf];simp[he]),Comp.zB,zM (by omega),zLB]
       simpa using h2
      ·refine⟨.inr ([],(wth pcs y).2),by rw[if_neg he],?_⟩
       rw[zN,if_pos (by rw[zH,zC];show (zs.length:Int)<_;omega),zA,zL hy,zLB,zA,wV y hlen',zLB,if_pos (by rw[zf];exact he),Comp.zB,zLB]
    obtain⟨r,h1,h2⟩:=key s [] [ln c] rfl (by simp)
    rw[zA];refine(congrArg (fun o=>Option.bind o _) h2).trans ?_
    rw[zLB,←h1];cases r<;>exact Comp.zB _
   ·rw[if_pos (by simpa using hf),if_neg hf,Comp.zB]
  ·rw[if_pos (by rw[zf];exact hs),if_neg hs,Comp.zB]
 ·rw[if_pos (by rw[zf];exact hc),if_neg hc,Comp.zB]
theorem tq(s:List Cell)(c:Cell):(gY s c).val=some ((cov s c).1,(cov s c).2,()):=by
 unfold gY cov;rw[zA,Ip,zLB,Comp.zB,kX];unfold eqI;rw[zC]
 congr 3
 by_cases h:(mns c s).1.length=0
 ·simp[h]
 ·simp[h]
theorem l6(s:List Cell):(jk s).val=some (sck s,()):=by
 unfold jk sck;by_cases h:16<s.length
 ·rw[if_pos (by rw[yd,zC];omega),if_pos h,Comp.zB]
 ·rw[if_neg (by rw[yd,zC];omega),if_neg h]
  obtain⟨r,h1,h2⟩:=ux (s:=s) (by omega)
   (body:=(fun (x:Int)=>if ltI x (zF s)=true then
        (idx s x).bind fun x_1=>(Go.F.zd x_1).bind fun x_2=>if neI x_2.1 0=true then Comp.pure (.done (Sum.inr x_2.1)) else Comp.pure (.next (zJ .i64 x 1))
       else Comp.pure (.done (Sum.inl ()))))
   (fun i c hc=>by
    have hlt:=zO hc;rw[if_pos (by rw[zH,zC];omega),zA,zL hc,zLB,zA,j5,zLB,zM (by omega)]
    by_cases h:chk c=0
    ·rw[if_neg (by rw[zf];simp[h]),if_pos h,Comp.zB]
    ·rw[if_pos (by rw[zf];exact h),if_neg h,Comp.zB])
   (by rw[if_neg (by rw[zH,zC];omega),Comp.zB])
  rw[zA];refine(congrArg (fun o=>Option.bind o _) h2).trans ?_
  rw[zLB,←h1];cases r<;>exact Comp.zB _
theorem wa(c:Cell){s:List Cell}(hl:s.length<9223372036854775807):(yy c s).val=some (sap c s,()):=by
 unfold yy;have h1:=ZQ s (fun q=>apa c q) (c:=(Sum.inr false:Unit⊕Bool)) (d:=Sum.inl ())
  (body:=(fun (x:Int)=>if ltI x (zF s)=true then
       (idx s x).bind fun x_1=>(Go.F.zh c x_1).bind fun x_2=>if ntB x_2.1=true then Comp.pure (.done (Sum.inr false)) else Comp.pure (.next (zJ .i64 x 1))
      else Comp.pure (.done (Sum.inl ()))))
  (fun i q hq=>by
   have hlt:=zO hq;rw[if_pos (by rw[zH,zC];omega),zA,zL hq,zLB,zA,ZY,zLB,yM,zM (by omega)]
   cases apa c q<;>exact Comp.zB _)
  (by rw[if_neg (by rw[zH,zC];omega),Comp.zB])
 rw[zA];refine(congrArg (fun o=>Option.bind o _) h1).trans ?_
 rw[zLB];unfold sap;cases s.all fun q=>apa c q<;>exact Comp.zB _
theorem IQ{p:Pln}(h:okB p):(vK p).val=some (jl p,()):=Bi h
theorem Ad{c:Cell}{p:Pln}(h:c.length≤1000):(yP c p).val=some (c++[p],()):=by
 unfold yP;rw[zA,yG (by simp;unfold LIM;omega),zLB,zA,yG (by simp;unfold LIM;omega),zLB,Comp.zB]
 simp
def prt(piece:Cell)(fs:List Pln):List Cell×Int:=if ju (gp piece fs)=true then ([],9) else (yf (gp piece fs),0)
theorem DY{l m:List (Option α)}:ju (l++m)=(ju l || ju m):=by
 induction l with
 |nil=>simp[ju]
 |cons x l ih=>cases x<;>simp[ju,ih]
theorem IK{l m:List (Option α)}:yf (l++m)=yf l++yf m:=by
 induction l with
 |nil=>simp[yf]
 |cons x l ih=>cases x<;>simp[yf,ih]
theorem DG{piece:Cell}{fs:List Pln}(hl:fs.length≤1000)(hB:∀p∈fs,okB p):(gV piece fs).val=some ((prt piece fs).1,(prt piece fs).2,()):=by
 unfold gV
 have key:∀(ys zs:List Pln) (rest:Cell) (out:List Cell),fs=zs++ys→out.length+ys.length≤10000→∃r:List Cell⊕List Cell×Int,(match r with
   |.inl x=>(x,0)
   |.inr x=>x)=(if ju (gp rest ys)=true then ([],9) else (out++yf (gp rest ys),0))∧(Comp.loop
     (fun (x:List (List (Pln))×List (Pln)×Int)=>if ltI x.2.2 (zF fs)=true then
       if geI (zF x.2.1) 48=true then Comp.pure (.done (Sum.inr ([],9)))
       else
        (idx fs x.2.2).bind fun x_1=>(Go.F.vK x_1).bind fun x_2=>(Go.F.yP x.2.1 x_2.1).bind fun y=>(Go.F.zr y.1).bind fun x_3=>jn
             (fun (x_4:List (List (Pln)))=>(idx fs x.2.2).bind fun x_5=>(Go.F.yP x.2.1 x_5).bind fun y=>(Go.F.zr y.1).bind fun x_6=>Comp.pure (.next (x_4,x_6.1,zJ .i64 x.2.2 1)))
             fun (j :
               List (List (Pln))→Comp
                 (Comp.Step (List (List (Pln))×List (Pln)×Int)
                  (List (List (Pln))⊕List (List (Pln))×Int))) =>
             if gtI (zF x_3.1) 0=true then (app x.1 [x_3.1]).bind fun zs=>j zs
             else j x.1
      else Comp.pure (.done (Sum.inl x.1))) (out,rest,(zs.length:Int))).val=some r:=by
  intro ys
  induction ys with
  |nil =>
   intro zs rest out hx _;refine⟨.inl out,by simp[gp,ju,yf],?_⟩
   rw[zN,if_neg (by rw[zH,zC,hx];simp),Comp.zB];rfl
  |cons p ys ih =>
   intro zs rest out hx hlen;simp only[zLL]at hlen;have hy:fs[zs.length]?=some p:=by rw[hx];simp
   have hlt:=zO hy;have hp:=hB p (zLI hy)
   by_cases hr:48≤rest.length
   ·refine⟨.inr ([],9),by unfold gp;rw[if_pos hr];rfl,?_⟩
    rw[zN,if_pos (by rw[zH,zC];show (zs.length:Int)<_;omega),if_pos (by rw[XK,zC];show _≤((rest.length:Nat):Int);omega),Comp.zB];rfl
   ·let out2:List Cell:=if ln (rest++[jl p])=[] then out else out++[ln (rest++[jl p])]
    have hout2:out2.length≤out.length+1:=by
     show (if ln (rest++[jl p])=[] then out else out++[ln (rest++[jl p])]).length≤_
     split<;>simp
    obtain⟨r,h1,h2⟩:=ih (zs++[p]) (ln (rest++[p])) out2 (by rw[hx];simp) (by omega)
    refine⟨r,?_,?_⟩
    ·rw[h1]
     have hgp:gp rest (p::ys)=(bif decide (ln (rest++[jl p])=[]) then [] else [some (ln (rest++[jl p]))])++gp (ln (rest++[p])) ys:=by
      conv=>lhs;unfold gp
      rw[if_neg hr]
     rw[hgp,DY,IK];show (if _ then _ else ((if ln (rest++[jl p])=[] then out else out++[ln (rest++[jl p])])++_,_))=_
     by_cases h0:ln (rest++[jl p])=[]
     ·rw[decide_eq_true h0,if_pos h0];simp[ju,yf]
     ·rw[decide_eq_false h0,if_neg h0];simp[ju,yf]
    ·have ht:∀o:List Cell,((idx fs (zs.length:Int)).bind fun x_5=>(Go.F.yP rest x_5).bind fun y=>(Go.F.zr y.1).bind fun x_6=>(Comp.pure (.next (o,x_6.1,zJ .i64 (zs.length:Int) 1)):Comp (Comp.Step (List Cell×Cell×Int) (List Cell⊕List Cell×Int)))).val=some (.next (o,ln (rest++[p]),((zs.length+1:Nat):Int))):=fun o=>by
      rw[zA,zL hy,zLB,zA,Ad (by omega),zLB,zA,XL,zLB,Comp.zB,zM (by omega)]
     rw[zN,if_pos (by rw[zH,zC];show (zs.length:Int)<_;omega),if_neg (by rw[XK,zC];show ¬_≤((rest.length:Nat):Int);omega),
      zA,zL hy,zLB,zA,IQ hp,zLB,zA,Ad (by show rest.length≤1000;omega),zLB,zA,XL,zLB,vZ]
     have hout:(if gtI (zF (ln (rest++[jl p]))) 0=true then (app out [ln (rest++[jl p])]).bind fun zs1=>((idx fs (zs.length:Int)).bind fun x_5=>(Go.F.yP rest x_5).bind fun y=>(Go.F.zr y.1).bind fun x_6=>(Comp.pure (.next (zs1,x_6.1,zJ .i64 (zs.length:Int) 1)):Comp (Comp.Step (List Cell×Cell×Int) (List Cell⊕List Cell×Int))))
       else ((idx fs (zs.length:Int)).bind fun x_5=>(Go.F.yP rest x_5).bind fun y=>(Go.F.zr y.1).bind fun x_6=>(Comp.pure (.next (out,x_6.1,zJ .i64 (zs.length:Int) 1)):Comp (Comp.Step (List Cell×Cell×Int) (List Cell⊕List Cell×Int))))).val=some (.next (out2,ln (rest++[p]),((zs.length+1:Nat):Int))):=by
      show _=some (Comp.Step.next (if ln (rest++[jl p])=[] then out else out++[ln (rest++[jl p])],_,_))
      by_cases h0:ln (rest++[jl p])=[]
      ·rw[if_neg (by rw[yd,zC,h0];simp),if_pos h0]
       exact ht out
      ·rw[if_pos (by rw[yd,zC];have:=List.length_pos_iff.2 h0;omega),if_neg h0,zA,yG (by simp only[zLG];unfold LIM;omega),zLB]
       exact ht _
     refine(congrArg (fun o=>Option.bind o _) hout).trans ?_
     rw[zLB];simpa using h2
 obtain⟨r,h1,h2⟩:=key fs [] piece [] rfl (by simp;omega)
 rw[zA];refine(congrArg (fun o=>Option.bind o _) h2).trans ?_
 rw[zLB]
 have hp:prt piece fs=(match (generalizing:=false) r with
   |.inl x=>(x,0)
   |.inr x=>x):=by rw[h1];rfl
 rw[hp];cases r<;>exact Comp.zB _
theorem KL{pieces:List Cell}(q:Cell)(hl:pieces.length≤200):(y6 pieces q).val=some ((wth pieces q).1,(wth pieces q).2,()):=by
 unfold y6;rw[zA,YX,zLB,yM];by_cases hf:ful q=true
 ·rw[if_neg (by simp[hf])]
  have hq:=zGt (c:=q)
  have key:∀(ys zs:List Cell) (out:List Cell),pieces=zs++ys→out.length+ys.length * 49≤20000→∃r:List Cell⊕List Cell×Int,(match r with
    |.inl x=>some x
    |.inr _=>none)=wo q ys out∧(∀x,r=.inr x→x=([],9))∧(Comp.loop
       (fun (x:List (List (Pln))×Int)=>if ltI x.2 (zF pieces)=true then
         jn (fun (x_1:List (List (Pln)))=>Comp.pure (.next (x_1,zJ .i64 x.2 1)))
          fun (j :
            List (List (Pln))→Comp
              (Comp.Step (List (List (Pln))×Int)
               (List (List (Pln))⊕List (List (Pln))×Int))) =>
          (idx pieces x.2).bind fun x_1=>(Go.F.zh x_1 q).bind fun x_2=>if x_2.1=true then
             (idx pieces x.2).bind fun x_3=>(app x.1 [x_3]).bind fun zs=>j zs
            else
             (idx pieces x.2).bind fun x_3=>(Go.F.zr q).bind fun x_4=>(Go.F.gV x_3 x_4.1).bind fun x_5=>if neI x_5.2.1 0=true then Comp.pure (.done (Sum.inr ([],x_5.2.1)))
                else (app x.1 x_5.1).bind fun zs=>j zs
        else Comp.pure (.done (Sum.inl x.1))) (out,(zs.length:Int))).val=some r:=by
   intro ys
   induction ys with
   |nil =>
    intro zs out hx hlen;refine⟨.inl out,rfl,(fun x h=>nomatch h),?_⟩
    rw[zN,if_neg (by rw[zH,zC,hx];simp),Comp.zB];rfl
   |cons y ys ih =>
    intro zs out hx hlen;simp only[zLL]at hlen;have hy:pieces[zs.length]?=some y:=by rw[hx];simp
    have hlt:=zO hy;by_cases ha:apa y q=true
    ·obtain⟨r,h1,h2,h4⟩:=ih (zs++[y]) (out++[y]) (by rw[hx];simp) (by simp only[zLE,zLG];omega)
     refine⟨r,by rw[h1];conv=>rhs;unfold wo;rw[if_pos ha],h2,?_⟩
     rw[zN,if_pos (by rw[zH,zC];show (zs.length:Int)<_;omega),vZ,zA,zL hy,zLB,zA,ZY,zLB,if_pos ha,zA,zL hy,zLB,zA,
      yG (by simp only[zLG];unfold LIM;show out.length+1≤_;omega),zLB,Comp.zB,zLB,zM (by omega)]
     simpa using h4
    ·have hpv:=DG (piece:=y) (fs:=ln q) (by omega) hq.2
     by_cases hn:ju (gp y (ln q))=true
     ·have hp:prt y (ln q)=([],9):=by unfold prt;rw[if_pos hn]
      refine⟨.inr ([],9),by conv=>rhs;unfold wo;rw[if_neg ha,if_pos hn],(fun x h=>by cases h;rfl),?_⟩
      rw[hp]at hpv;rw[zN,if_pos (by rw[zH,zC];show (zs.length:Int)<_;omega),vZ,zA,zL hy,zLB,zA,ZY,zLB,if_neg ha,zA,zL hy,zLB,zA,
       XL,zLB,zA,hpv,zLB,if_pos (by rw[zf];show (9:Int)≠0;decide),Comp.zB]
      rfl
     ·have hp:prt y (ln q)=(yf (gp y (ln q)),0):=by unfold prt;rw[if_neg hn]
      have hs:=JW (l:=gp y (ln q));have hg:=lX (fs:=ln q) (rest:=y)
      obtain⟨r,h1,h2,h4⟩:=ih (zs++[y]) (out++yf (gp y (ln q))) (by rw[hx];simp) (by simp only[zLE];omega)
      refine⟨r,by rw[h1];conv=>rhs;unfold wo;rw[if_neg ha,if_neg hn],h2,?_⟩
      rw[hp]at hpv;rw[zN,if_pos (by rw[zH,zC];show (zs.length:Int)<_;omega),vZ,zA,zL hy,zLB,zA,ZY,zLB,if_neg ha,zA,zL hy,zLB,zA,
       XL,zLB,zA,hpv,zLB,if_neg (by rw[zf];simp),zA,yG (by unfold LIM;show out.length+(yf (gp y (ln q))).length≤_;omega),zLB,Comp.zB,zLB,zM (by omega)]
      simpa using h4
  obtain⟨r,h1,h2,h4⟩:=key pieces [] [] rfl (by simp;omega)
  rw[zA];refine(congrArg (fun o=>Option.bind o _) h4).trans ?_
  rw[zLB];unfold wth;rw[if_pos hf,←h1]
  cases r with
  |inl x =>
   simp only;by_cases hlen:200<x.length
   ·rw[if_pos (by rw[yd,zC];omega),if_pos hlen,Comp.zB]
   ·rw[if_neg (by rw[yd,zC];omega),if_neg hlen,Comp.zB]
  |inr x =>
   rw[h2 x rfl];exact Comp.zB _
 ·rw[if_pos (by simpa using hf),Comp.zB]
  unfold wth;rw[if_neg hf]
theorem pG:∀(s:List Cell),Xm [] s=([],0)
 | []=>rfl
 |q::s=>by
  have h:wth [] q=([],0):=by
   unfold wth;split
   ·rfl
   ·rfl
  unfold Xm;rw[h];exact pG s
theorem DH(c:Cell)(s:List Cell):(jj c s).val=some ((mns c s).1,(mns c s).2,()):=by
 unfold jj mns;rw[zA,j5,zLB,vZ];by_cases hc:chk c=0
 ·rw[if_pos (by rw[yw];exact hc),if_pos hc,zA,l6,zLB]
  by_cases hs:sck s=0
  ·have hlen:s.length≤16:=by
    unfold sck at hs;split at hs
    ·cases hs
    ·omega
   show (if neI (sck s) 0=true then _ else _:Comp (List Cell×Int×Unit)).val=_
   rw[if_neg (by rw[zf];simp[hs]),if_pos hs,zA,YX,zLB,vZ]
   have key:∀(ys zs:List Cell) (pcs:List Cell),s=zs++ys→pcs.length≤200→∃r:List Cell⊕List Cell×Int,(match r with
     |.inl x=>(x,0)
     |.inr x =>
           x)=Xm pcs ys∧(Comp.loop
           (fun (x:List (List (Pln))×Int)=>if ltI x.2 (zF s)=true then
             (idx s x.2).bind fun x_1=>(Go.F.y6 x.1 x_1).bind fun x_2=>if neI x_2.2.1 0=true then Comp.pure (.done (Sum.inr ([],x_2.2.1)))
               else Comp.pure (.next (x_2.1,zJ .i64 x.2 1))
            else Comp.pure (.done (Sum.inl x.1))) (pcs,(zs.length:Int))).val=some r:=by
    intro ys
    induction ys with
    |nil =>
     intro zs pcs hx hlen;refine⟨.inl pcs,rfl,?_⟩;rw[zN,if_neg (by rw[zH,zC,hx];simp),Comp.zB];rfl
    |cons y ys ih =>
     intro zs pcs hx hlen';have hy:s[zs.length]?=some y:=by rw[hx];simp
     have hlt:=zO hy;unfold Xm;by_cases he:(wth pcs y).2=0
     ·obtain⟨r,h1,h2⟩:=ih (zs++[y]) (wth pcs y).1 (by rw[hx];simp) (Ew hlen')
      refine⟨r,by rw[if_pos he];exact h1,?_⟩
      rw[zN,if_pos (by rw[zH,zC];show (zs.length:Int)<_;omega),zA,zL hy,zLB,zA,KL y hlen',zLB,if_neg (by rw[zf];simp[he]),Comp.zB,zM (by omega),zLB]
      simpa using h2
     ·refine⟨.inr ([],(wth pcs y).2),by rw[if_neg he],?_⟩
      rw[zN,if_pos (by rw[zH,zC];show (zs.length:Int)<_;omega),zA,zL hy,zLB,zA,KL y hlen',zLB,if_pos (by rw[zf];exact he),Comp.zB,zLB]
   have tail:∀pcs:List Cell,pcs.length≤200→((Comp.loop
            (fun (x:List (List (Pln))×Int)=>if ltI x.2 (zF s)=true then
              (idx s x.2).bind fun x_1=>(Go.F.y6 x.1 x_1).bind fun x_2=>if neI x_2.2.1 0=true then Comp.pure (.done (Sum.inr ([],x_2.2.1)))
                else Comp.pure (.next (x_2.1,zJ .i64 x.2 1))
             else Comp.pure (.done (Sum.inl x.1)))
            (pcs,0)).bind fun (x:List (List (Pln))⊕List (List (Pln))×Int)=>match x with
          |Sum.inl x=>(Comp.pure (x,0,()):Comp (List Cell×Int×Unit))
          |Sum.inr x=>Comp.pure (x.1,x.2,())).val=some ((Xm pcs s).1,(Xm pcs s).2,()):=by
    intro pcs hp;obtain⟨r,h1,h2⟩:=key s [] pcs rfl hp;rw[zA];refine(congrArg (fun o=>Option.bind o _) h2).trans ?_
    rw[zLB,←h1];cases r<;>exact Comp.zB _
   by_cases hf:ful c=true
   ·rw[if_pos hf,if_pos hf,zA,XL,zLB,zA,yG (by simp;unfold LIM;omega),zLB]
    exact tail [ln c] (by simp)
   ·rw[if_neg hf,if_neg hf]
    refine(tail [] (by simp)).trans ?_
    rw[pG]
  ·show (if neI (sck s) 0=true then _ else _:Comp (List Cell×Int×Unit)).val=_
   rw[if_pos (by rw[zf];exact hs),if_neg hs,Comp.zB]
 ·rw[if_neg (by rw[yw];exact hc),if_neg hc]
  show (if neI (chk c) 0=true then _ else _:Comp (List Cell×Int×Unit)).val=_
  rw[if_pos (by rw[zf];exact hc),Comp.zB]
theorem l9(s:List Cell)(c:Cell):(vF s c).val=some ((cov s c).1,(cov s c).2,()):=by
 unfold vF cov;rw[zA,DH,zLB,Comp.zB,kX];unfold eqI;rw[zC]
 congr 3
 by_cases h:(mns c s).1.length=0
 ·simp[h]
 ·simp[h]
end Go.Geo
end
