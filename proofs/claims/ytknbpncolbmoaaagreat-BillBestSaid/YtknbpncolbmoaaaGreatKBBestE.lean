/- Lemmas behind a claim. -/
import Derived.Test.YtknbpncolbmoaaaGreatKBBestD
set_option linter.unusedSimpArgs false
set_option linter.unusedVariables false
open Go.Lift.Comp (XZ ZV zA N3 Xn zL vC)
section
namespace Go.Geo
open Go Go.Eng Go.Lift Go.Den
variable {α β γ δ ε σ τ:Type}
def zDV (eq:α→α→Bool) (x2:Int) (x1:List α):Comp (List α×Int) :=
 Comp.loop
  (fun (x_4:List α×Int×Int)=>if ltI x_4.2.2 (zF (List.drop x2.toNat x_4.1))=true then
    (idx (List.drop x2.toNat x_4.1) x_4.2.2).bind fun x_5=>(idx (List.drop x2.toNat x_4.1) (gX .i64 x_4.2.2 1)).bind fun x_6=>jn
       (fun (x:List α×Int)=>Comp.pure (.next (x.1,x.2,zI .i64 x_4.2.2 1)))
       fun (j:List α×Int→Comp (Comp.Step (List α×Int×Int) (List α×Int)))=>if ntB (eq x_5 x_6)=true then
        (idx (List.drop x2.toNat x_4.1) x_4.2.2).bind fun x=>(inb x_4.1.length x_4.2.1).bind fun x_7=>j (jJ x_4.1 x_4.2.1 x,zI .i64 x_4.2.1 1)
       else j (x_4.1,x_4.2.1)
   else Comp.pure (.done (x_4.1,x_4.2.1)))
  (x1,x2,1)
def zDU (eq:α→α→Bool) (z:α) (xs:List α):Comp (List α) :=
 if ltI (zF xs) 2=true then Comp.pure xs
 else
  (Comp.loop
     (fun (x:List α×Int)=>if ltI x.2 (zF x.1)=true then
       (idx x.1 x.2).bind fun x_1=>(idx x.1 (gX .i64 x.2 1)).bind fun x_2=>if eq x_1 x_2=true then
          ((sub x.1 x.2 (zF x.1)).bind fun x=>Comp.pure ()).bind fun x_3=>(zDV eq x.2 x.1).bind fun x=>((sub x.1 x.2 (zF x.1)).bind fun x=>Comp.pure ()).bind fun x_4=>(sub x.1 (Int.ofNat x.2.toNat) (zF x.1)).bind fun x_5=>jn (fun (x:List α)=>Comp.pure (.done (Sum.inr x)))
               fun (j:List α→Comp (Comp.Step (List α×Int) (List α⊕List α)))=>(sub (List.take x.2.toNat x.1++List.replicate (x.1.length.sub x.2.toNat) z) 0 x.2).bind fun ys=>j ys
         else Comp.pure (.next (x.1,zI .i64 x.2 1))
      else Comp.pure (.done (Sum.inl x.1)))
     (xs,1)).bind fun (x:List α⊕List α)=>match x with
   |Sum.inl x=>Comp.pure x
   |Sum.inr x=>Comp.pure x
theorem zQ {xs:List α} {k:Nat} (h:k<xs.length):∃y,xs[k]?=some y:=⟨xs[k],by simp[h]⟩
theorem wY {l xs:List α} {i k:Nat} (h:l.drop i=xs.drop i) (hi:i≤k):l[k]?=xs[k]?:=by
 have:(l.drop i)[k-i]?=(xs.drop i)[k-i]?:=by rw[h]
 rw[List.getElem?_drop,List.getElem?_drop,show i+(k-i)=k by omega]at this
 exact this
theorem Nk [DecidableEq α] {eq:α→α→Bool} (heq:∀x y,eq x y=decide (x=y)) {xs:List α} (hl:xs.length<9223372036854775807) {i0:Nat} (h0:1≤i0) (hi:i0<xs.length) (hpre:cpc (xs.take i0)=xs.take i0) (hdup:xs[i0]?=xs[i0-1]?) :
  ∃l',l'.length=xs.length∧l'.take (cpc xs).length=cpc xs∧(zDV eq (i0:Int) xs).val=some (l',((cpc xs).length:Int)):=by
 have inv:∀(m k:Nat) (l:List α),i0+k+m=xs.length→1≤k→l.length=xs.length→l.take (cpc (xs.take (i0+k))).length=cpc (xs.take (i0+k))→l.drop (i0+k-1)=xs.drop (i0+k-1)→∃l',l'.length=xs.length∧l'.take (cpc xs).length=cpc xs∧(Comp.loop
  (fun (x_4:List α×Int×Int)=>if ltI x_4.2.2 (zF (List.drop (i0:Int).toNat x_4.1))=true then
    (idx (List.drop (i0:Int).toNat x_4.1) x_4.2.2).bind fun x_5=>(idx (List.drop (i0:Int).toNat x_4.1) (gX .i64 x_4.2.2 1)).bind fun x_6=>jn
       (fun (x:List α×Int)=>Comp.pure (.next (x.1,x.2,zI .i64 x_4.2.2 1)))
       fun (j:List α×Int→Comp (Comp.Step (List α×Int×Int) (List α×Int)))=>if ntB (eq x_5 x_6)=true then
        (idx (List.drop (i0:Int).toNat x_4.1) x_4.2.2).bind fun x=>(inb x_4.1.length x_4.2.1).bind fun x_7=>j (jJ x_4.1 x_4.2.1 x,zI .i64 x_4.2.1 1)
       else j (x_4.1,x_4.2.1)
   else Comp.pure (.done (x_4.1,x_4.2.1)))
  (l,((cpc (xs.take (i0+k))).length:Int),(k:Int))).val=some (l',((cpc xs).length:Int)):=by
  intro m
  induction m with
  |zero =>
   intro k l hk h1 hll ht hd
   rw[show i0+k=xs.length by omega,List.take_length]at ht ⊢
   refine⟨l,hll,ht,?_⟩
   rw[zL]
   have h1:¬((k:Int)<zF (List.drop (i0:Int).toNat l)):=by rw[zC,List.length_drop,hll,Int.toNat_natCast];omega
   simp only[zG,h1,if_false,Comp.zB,zJl]
  |succ m ih =>
   intro k l hk h1 hll ht hd
   obtain⟨b,hb⟩:=zQ (xs:=xs) (k:=i0+k) (by omega)
   obtain⟨a,ha⟩:=zQ (xs:=xs) (k:=i0+k-1) (by omega)
   have hlb:l[i0+k]?=some b:=by rw[wY hd (by omega)];exact hb
   have hla:l[i0+k-1]?=some a:=by rw[wY hd (by omega)];exact ha
   have hlt:(k:Int)<zF (List.drop (i0:Int).toNat l):=by rw[zC,List.length_drop,hll,Int.toNat_natCast];omega
   have e1:(idx (List.drop (i0:Int).toNat l) (k:Int)).val=some b:=zJ (by rw[Int.toNat_natCast,List.getElem?_drop];exact hlb)
   have e2:(idx (List.drop (i0:Int).toNat l) (gX .i64 (k:Int) 1)).val=some a:=by
    rw[YI (by omega),show (k:Int)-1=((k-1:Nat):Int) by omega]
    exact zJ (by rw[Int.toNat_natCast,List.getElem?_drop,show i0+(k-1)=i0+k-1 by omega];exact hla)
   have hstep:=JK (xs:=xs) (k:=i0+k-1) ha (by rw[show i0+k-1+1=i0+k by omega];exact hb)
   rw[show i0+k-1+1=i0+k by omega]at hstep
   -- fewer are kept than were seen
   have hcnt:(cpc (xs.take (i0+k))).length<i0+k:=by
    have base:(cpc (xs.take (i0+1))).length=i0:=by
     obtain⟨c,hc⟩:=zQ (xs:=xs) (k:=i0) hi
     have h2:=JK (xs:=xs) (k:=i0-1) (a:=c) (b:=c) (by rw[←hdup];exact hc) (by rw[show i0-1+1=i0 by omega];exact hc)
     rw[show i0-1+1=i0 by omega,if_pos rfl,List.append_nil]at h2
     rw[h2,hpre,List.length_take];omega
    have mono:∀j,(cpc (xs.take (i0+1+j))).length≤i0+j:=by
     intro j
     induction j with
     |zero=>rw[Nat.add_zero,base];omega
     |succ j ihj =>
      by_cases hj:i0+1+j<xs.length
      ·obtain⟨b',hb'⟩:=zQ (xs:=xs) (k:=i0+j+1) (by omega)
       obtain⟨a',ha'⟩:=zQ (xs:=xs) (k:=i0+j) (by omega)
       have h3:=JK ha' hb'
       rw[show i0+1+(j+1)=i0+j+1+1 by omega,h3,zJo]
       rw[show i0+1+j=i0+j+1 by omega]at ihj
       split<;>simp<;>omega
      ·rw[List.take_of_length_le (by omega)]at ihj ⊢;omega
    have:=mono (k-1)
    rw[show i0+1+(k-1)=i0+k by omega]at this;omega
   have hd1:l.drop (i0+(k+1)-1)=xs.drop (i0+(k+1)-1):=by
    have:(l.drop (i0+k-1)).drop 1=(xs.drop (i0+k-1)).drop 1:=by rw[hd]
    rw[List.drop_drop,List.drop_drop,show i0+k-1+1=i0+(k+1)-1 by omega]at this
    exact this
   by_cases hba:b=a
   ·rw[if_pos hba,List.append_nil]at hstep
    rw[show i0+k+1=i0+(k+1) by omega]at hstep
    obtain⟨l',g1,g2,g3⟩:=ih (k+1) l (by omega) (by omega) hll (by rw[hstep];exact ht) hd1
    refine⟨l',g1,g2,?_⟩
    rw[hstep]at g3
    rw[←g3]
    conv=>lhs;rw[zL]
    simp only[zG,hlt,if_true,zA,e1,e2,zJl,vi,heq,hba,decide_true,yb,Bool.not_true,Bool.false_eq_true,if_false,Comp.zB,zN (show k<9223372036854775807 by omega)]
   ·rw[if_neg hba]at hstep
    rw[show i0+k+1=i0+(k+1) by omega]at hstep
    have hc:(cpc (xs.take (i0+k))).length<l.length:=by omega
    obtain⟨l',g1,g2,g3⟩:=ih (k+1) (l.set (cpc (xs.take (i0+k))).length b) (by omega) (by omega) (by simpa using hll)
     (by
      rw[hstep,zJo,zJq,List.take_add_one,List.take_set_of_le (zJp _),ht]
      simp[hc])
     (by rw[List.drop_set_of_lt (by omega)];exact hd1)
    refine⟨l',g1,g2,?_⟩
    rw[hstep]at g3
    rw[←g3]
    have e3:(inb l.length ((cpc (xs.take (i0+k))).length:Int)).val=some ():=jm (by omega)
    simp only[Int.toNat_natCast]at hlt e1 e2
    conv=>lhs;rw[zL]
    simp only[zG,hlt,if_true,zA,e1,e2,e3,zJl,vi,heq,hba,decide_false,yb,Bool.not_false,Comp.zB,zN (show k<9223372036854775807 by omega),jJ,Int.toNat_natCast,zN (show (cpc (xs.take (i0+k))).length<9223372036854775807 by omega),zJo,zJq]
 have hbase:cpc (xs.take (i0+1))=xs.take i0:=by
  obtain⟨c,hc⟩:=zQ (xs:=xs) (k:=i0) hi
  have h2:=JK (xs:=xs) (k:=i0-1) (a:=c) (b:=c) (by rw[←hdup];exact hc) (by rw[show i0-1+1=i0 by omega];exact hc)
  rw[show i0-1+1=i0 by omega,if_pos rfl,List.append_nil]at h2
  rw[h2,hpre]
 obtain⟨l',g1,g2,g3⟩:=inv (xs.length-(i0+1)) 1 xs (by omega) (zJp _) rfl (by rw[hbase,List.length_take,Nat.min_eq_left (by omega)]) rfl
 refine⟨l',g1,g2,?_⟩
 rw[←g3,hbase,List.length_take,Nat.min_eq_left (by omega)]
 rfl
theorem VB [DecidableEq α] {eq:α→α→Bool} (heq:∀x y,eq x y=decide (x=y)) {z:α} {xs:List α} (hl:xs.length<9223372036854775807):(zDU eq z xs).val=some (cpc xs):=by
 unfold zDU
 rw[Xn]
 split
 ·rename_i h
  rw[zG,zC]at h
  rw[Comp.zB]
  match xs,h with
  | [],_=>rfl
  | [x],_=>rfl
  |x::y::l,h=>simp only[List.length_cons]at h;omega
 ·rename_i h
  rw[zG,zC]at h
  have inv:∀(m k:Nat),k+m=xs.length→1≤k→cpc (xs.take k)=xs.take k→∃r:List α⊕List α,(r=.inl (cpc xs)∨r=.inr (cpc xs))∧(Comp.loop
     (fun (x:List α×Int)=>if ltI x.2 (zF x.1)=true then
       (idx x.1 x.2).bind fun x_1=>(idx x.1 (gX .i64 x.2 1)).bind fun x_2=>if eq x_1 x_2=true then
          ((sub x.1 x.2 (zF x.1)).bind fun x=>Comp.pure ()).bind fun x_3=>(zDV eq x.2 x.1).bind fun x=>((sub x.1 x.2 (zF x.1)).bind fun x=>Comp.pure ()).bind fun x_4=>(sub x.1 (Int.ofNat x.2.toNat) (zF x.1)).bind fun x_5=>jn (fun (x:List α)=>Comp.pure (.done (Sum.inr x)))
               fun (j:List α→Comp (Comp.Step (List α×Int) (List α⊕List α)))=>(sub (List.take x.2.toNat x.1++List.replicate (x.1.length.sub x.2.toNat) z) 0 x.2).bind fun ys=>j ys
         else Comp.pure (.next (x.1,zI .i64 x.2 1))
      else Comp.pure (.done (Sum.inl x.1)))
     (xs,(k:Int))).val=some r:=by
   intro m
   induction m with
   |zero =>
    intro k hk h1 hp
    rw[show k=xs.length by omega,List.take_length]at hp
    refine⟨.inl (cpc xs),.inl rfl,?_⟩
    rw[zL]
    have h1:¬((k:Int)<zF xs):=by rw[zC];omega
    simp only[zG,h1,if_false,Comp.zB,zJl,hp]
   |succ m ih =>
    intro k hk h1 hp
    obtain⟨b,hb⟩:=zQ (xs:=xs) (k:=k) (by omega)
    obtain⟨a,ha⟩:=zQ (xs:=xs) (k:=k-1) (by omega)
    have hlt:(k:Int)<zF xs:=by rw[zC];omega
    have e1:(idx xs (k:Int)).val=some b:=zJ hb
    have e2:(idx xs (gX .i64 (k:Int) 1)).val=some a:=by
     rw[YI (by omega),show (k:Int)-1=((k-1:Nat):Int) by omega]
     exact zJ ha
    by_cases hba:b=a
    ·subst hba
     obtain⟨l',g1,g2,g3⟩:=Nk heq hl h1 (by omega) hp (by rw[ha,hb])
     refine⟨.inr (cpc xs),.inr rfl,?_⟩
     have e4:(sub xs (k:Int) (zF xs)).val=some (xs.drop k):=by rw[YN (by rw[zC];omega)];simp[zC]
     have e5:=Gf (z:=z) (l:=l') (k:=(cpc xs).length) (by rw[g1];exact Gg)
     rw[g2]at e5
     simp only[zA,vi,Comp.zB]at e5
     rw[zL]
     simp only[zG,hlt,if_true,zA,e1,e2,zJl,heq,decide_true,e4,Comp.zB,g3,vi]
     revert e5
     generalize (sub l' ((cpc xs).length:Int) (zF l')).val=o1
     generalize (sub l' (Int.ofNat ((cpc xs).length:Int).toNat) (zF l')).val=o2
     generalize (sub (List.take ((cpc xs).length:Int).toNat l'++List.replicate (l'.length.sub ((cpc xs).length:Int).toNat) z) 0 ((cpc xs).length:Int)).val=o3
     intro e5
     cases o1<;>cases o2<;>cases o3<;>simp_all
    ·obtain⟨r,g1,g2⟩:=ih (k+1) (by omega) (by omega) (by
      have hstep:=JK (xs:=xs) (k:=k-1) ha (by rw[show k-1+1=k by omega];exact hb)
      rw[show k-1+1=k by omega,if_neg hba,hp]at hstep
      rw[hstep,List.take_add_one,hb];rfl)
     refine⟨r,g1,?_⟩
     rw[←g2]
     conv=>lhs;rw[zL]
     simp only[zG,hlt,if_true,zA,e1,e2,zJl,heq,hba,decide_false,Bool.false_eq_true,if_false,Comp.zB,zN (show k<9223372036854775807 by omega)]
  obtain⟨r,g1,g2⟩:=inv (xs.length-1) 1 (by omega) (zJp _) (by
   match xs with
   | []=>rfl
   |x::l=>rfl)
  rw[zA]
  refine(congrArg (fun o=>Option.bind o _) g2).trans ?_
  rw[zJl]
  rcases g1 with rfl|rfl<;>exact Comp.zB _
end Go.Geo
end
noncomputable section
namespace Go.Den
open Go Go.Lift
abbrev Pln:=(Int×Int×Int×Unit)×Int×Unit
def Yq (p q:Pln):Int :=
 if p.1.1<q.1.1 then -1 else if q.1.1<p.1.1 then 1 else
 if p.1.2.1<q.1.2.1 then -1 else if q.1.2.1<p.1.2.1 then 1 else
 if p.1.2.2.1<q.1.2.2.1 then -1 else if q.1.2.2.1<p.1.2.2.1 then 1 else
 if p.2.1<q.2.1 then -1 else if q.2.1<p.2.1 then 1 else 0
def Ku (p:Pln):List Pln→List Pln
 | []=>[p]
 |q::l=>if Yq q p<0 then q::Ku p l else p::q::l
def Jj:List Pln→List Pln
 | []=>[]
 |p::l=>Ku p (Jj l)
open Classical in
def CG (xs:List Pln) (c:Pln×Pln×Unit→Comp (Int×Unit)):Comp (List Pln) :=
 if xs.length≤LIM∧∀x y,∃n,(c (x,y,())).run n=some (Yq x y,()) then Comp.pure (Jj xs) else Comp.fail
def LtP (p q:Pln):Prop:=p.1.1<q.1.1∨(p.1.1=q.1.1∧(p.1.2.1<q.1.2.1∨(p.1.2.1=q.1.2.1∧(p.1.2.2.1<q.1.2.2.1∨(p.1.2.2.1=q.1.2.2.1∧p.2.1<q.2.1)))))
theorem pM (p q:Pln):(Yq p q = -1∧LtP p q)∨(Yq p q=0∧p=q)∨(Yq p q=1∧LtP q p):=by
 obtain⟨⟨a,b,c,u⟩,d,v⟩:=p
 obtain⟨⟨a',b',c',u'⟩,d',v'⟩:=q
 unfold Yq LtP
 simp only
 split
 ·exact .inl ⟨rfl,by omega⟩
 split
 ·exact .inr (.inr ⟨rfl,by omega⟩)
 split
 ·exact .inl ⟨rfl,by omega⟩
 split
 ·exact .inr (.inr ⟨rfl,by omega⟩)
 split
 ·exact .inl ⟨rfl,by omega⟩
 split
 ·exact .inr (.inr ⟨rfl,by omega⟩)
 split
 ·exact .inl ⟨rfl,by omega⟩
 split
 ·exact .inr (.inr ⟨rfl,by omega⟩)
 ·refine .inr (.inl ⟨rfl,?_⟩)
  have h1:a=a':=by omega
  have h2:b=b':=by omega
  have h3:c=c':=by omega
  have h4:d=d':=by omega
  subst h1 h2 h3 h4
  rfl
theorem LtP.irr {p:Pln} (h:LtP p p):False:=by unfold LtP at h;omega
theorem LtP.trans {p q r:Pln} (h:LtP p q) (k:LtP q r):LtP p r:=by unfold LtP at *;omega
theorem LtP.asym {p q:Pln} (h:LtP p q) (k:LtP q p):False:=(h.trans k).irr
theorem J8 {p q:Pln}:Yq p q<0↔LtP p q:=by
 rcases pM p q with ⟨h1,h2⟩|⟨h1,h2⟩|⟨h1,h2⟩
 ·simp[h1,h2]
 ·subst h2;rw[h1];simp;exact fun h=>h.irr
 ·rw[h1];simp;exact fun h=>h.asym h2
theorem LtP.tri (p q:Pln):LtP p q∨p=q∨LtP q p:=by
 rcases pM p q with ⟨_,h⟩|⟨_,h⟩|⟨_,h⟩
 ·exact .inl h
 ·exact .inr (.inl h)
 ·exact .inr (.inr h)
theorem wA (p:Pln):∀l,(Ku p l).Perm (p::l)
 | []=>.refl _
 |q::l=>by
  unfold Ku
  split
  ·exact((wA p l).cons q).trans (.swap p q l)
  ·exact .refl _
theorem rU:∀l,(Jj l).Perm l
 | []=>.refl _
 |p::l=>(wA p _).trans ((rU l).cons p)
theorem BL (p:Pln):∀ {l:List Pln},l.Pairwise (fun p q=>¬LtP q p)→(Ku p l).Pairwise (fun p q=>¬LtP q p)
 | [],_=>by simp[Ku]
 |q::l,h=>by
  rw[List.pairwise_cons]at h
  unfold Ku
  split
  ·rename_i h1
   rw[List.pairwise_cons]
   refine⟨fun a ha=>?_,BL p h.2⟩
   rcases List.mem_cons.1 ((wA p l).mem_iff.1 ha) with rfl|ha
   ·exact fun k=>(J8.1 h1).asym k
   ·exact h.1 a ha
  ·rename_i h1
   rw[List.pairwise_cons]
   refine⟨fun a ha=>?_,List.pairwise_cons.2 h⟩
   have h2:¬LtP q p:=fun k=>h1 (J8.2 k)
   rcases List.mem_cons.1 ha with rfl|ha
   ·exact h2
   ·intro k
    rcases LtP.tri p q with h3|h3|h3
    ·exact h.1 a ha (k.trans h3)
    ·rw[h3]at k;exact h.1 a ha k
    ·exact h2 h3
theorem Af:∀l:List Pln,(Jj l).Pairwise (fun p q=>¬LtP q p)
 | []=>.nil
 |p::l=>BL p (Af l)
end Go.Den
end
noncomputable section
set_option maxRecDepth 20000
namespace Go.F
open Go Go.Lift Go.Den
abbrev A1:=Int×Int×Int×Unit
abbrev A2:=A1×Int×Unit
abbrev A3:=List A2
abbrev A4:=List A3×List A3×Int×List Int×Unit
abbrev A5:=List Bool×List Bool×List A3×Unit
abbrev A6:=List UInt8×List A3×List Int×Unit
abbrev A7:=Int×Int×Int×Int×Unit
abbrev A8:=yX×List A3×List Int×Unit
abbrev A9:=Bool×Unit
abbrev A10:=Int×Unit
abbrev A11:=List Int×Int×Unit
abbrev A12:=List A2×Unit
abbrev A13:=List Int
abbrev A14:=A6×A5×List A4×Unit
abbrev A15:=Int×Int×Unit
abbrev A16:=List A3
abbrev A17:=A8×A5×List A4×Unit
abbrev A18:=List A3×Unit
abbrev A19:=List A3×Int×Unit
abbrev A20:=A11×Unit
abbrev A21:=A20×Int×Unit
abbrev A22:=List Int×Unit
abbrev A23:=List A3×Int
abbrev A24:=List Int×Int×List A15×Int×Unit
abbrev A26:=Unit⊕Int
abbrev A27:=Int×Int
abbrev A28:=A2×Unit→Comp A9
abbrev A29:=List A13×List Int×List Int×Unit
abbrev A30:=A1×Unit
abbrev A31:=List Bool
abbrev A32:=Unit⊕Bool
abbrev A33:=List A2×Int
abbrev A34:=List A1×Int×Unit
abbrev A35:=List Int×Int×List A15×Int→Comp A24
abbrev A36:=List A2×Unit→Comp A9
abbrev A37:=Int×Unit→Comp A9
abbrev A38:=List A3⊕List A3×Int
abbrev A39:=Bool×List Int×Int×Unit
abbrev A40:=List Int×Int
abbrev A41:=List A7×Unit
abbrev A42:=Bool×Int×Unit
abbrev A43:=A5×List Bool×List Bool×List A3×Unit⊕Int×List Bool×List Bool×List A3×Unit
abbrev A44:=List Int×Int×List A15×Int
abbrev A45:=Option A3×Unit
def yG:Int×Int×Int×Unit→Int×Int×Int×Unit→Comp A12:=fun x0 x1=>.pure ([((1,0,0,()),x1.1,()),((-1,0,0,()),Y4 .i64 x0.1,()),((0,1,0,()),x1.2.1,()),((0, -1,0,()),Y4 .i64 x0.2.1,()),((0,0,1,()),x1.2.2.1,()),((0,0, -1,()),Y4 .i64 x0.2.2.1,())],())
def gf:Comp (A17×Unit):=(mk 3 false).bind fun x=>(mk 3 false).bind fun a=>(Comp.loop (fun (x:Int×A6×A5×List A4×Unit)=>if ltI x.1 3=true then (yG (kI .i64 2 x.1,0,0,()) (zI .i64 (kI .i64 2 x.1) 2,2,2,())).bind fun b=>(app x.2.1.2.1 [b.1]).bind fun zs=>.pure (.next (zI .i64 x.1 1,(x.2.1.1,zs,x.2.1.2.2.1,()),(x.2.2.1.1,x.2.2.1.2.1,x.2.2.1.2.2.1,()),x.2.2.2.1,())) else .pure (.done ((x.2.1.1,x.2.1.2.1,x.2.1.2.2.1,()),(x.2.2.1.1,x.2.2.1.2.1,x.2.2.1.2.2.1,()),x.2.2.2.1,()))) (0,([],[],[1,2,3],()),(x,a,[],()),[],())).bind fun x=>(sub x.1.2.1 1 2).bind fun b=>(sub x.1.2.1 2 (zF x.1.2.1)).bind fun c=>(sub x.1.2.1 1 (zF x.1.2.1)).bind fun d=>.pure (((x.1.1,x.1.2.1,x.1.2.2.1,()),(x.2.1.1,x.2.1.2.1,x.2.1.2.2.1,()),[(b,[],3,[],()),(c,[],4,[],()),(d,[],5,[],())],()),())
def vv:Int→Comp A9:=fun x0=>.pure (sel (ltI x0 1) true (gtI x0 3),())
def gW:List Int→A37→Comp A10:=fun x0 x1=>(Comp.loop (fun (x:Int)=>if ltI x (zF x0)=true then (idx x0 x).bind fun a=>(x1 (a,())).bind fun b=>if b.1=true then .pure (.done (Sum.inr x)) else .pure (.next (zI .i64 x 1)) else .pure (.done (Sum.inl ()))) 0).bind fun (x:A26)=>match x with
   |.inl x=>.pure (-1,())
   |.inr x=>.pure (x,())
def zR:List Int→A37→Comp A9:=fun x0 x1=>(gW x0 x1).bind fun x=>.pure (geI x.1 0,())
def yI:List A3→A36→Comp A10:=fun x0 x1=>(Comp.loop (fun (x:Int)=>if ltI x (zF x0)=true then (idx x0 x).bind fun a=>(x1 (a,())).bind fun b=>if b.1=true then .pure (.done (Sum.inr x)) else .pure (.next (zI .i64 x 1)) else .pure (.done (Sum.inl ()))) 0).bind fun (x:A26)=>match x with
   |.inl x=>.pure (-1,())
   |.inr x=>.pure (x,())
def zK:List A3→A36→Comp A9:=fun x0 x1=>(yI x0 x1).bind fun x=>.pure (geI x.1 0,())
def yH:List A2→A28→Comp A10:=fun x0 x1=>(Comp.loop (fun (x:Int)=>if ltI x (zF x0)=true then (idx x0 x).bind fun a=>(x1 (a,())).bind fun b=>if b.1=true then .pure (.done (Sum.inr x)) else .pure (.next (zI .i64 x 1)) else .pure (.done (Sum.inl ()))) 0).bind fun (x:A26)=>match x with
   |.inl x=>.pure (-1,())
   |.inr x=>.pure (x,())
def zZ:List A2→A28→Comp A9:=fun x0 x1=>(yH x0 x1).bind fun x=>.pure (geI x.1 0,())
def jH:Int→List Int→Comp A9:=fun x0 x1=>(Comp.loop (fun (x:Int)=>if ltI x (zF x1)=true then (idx x1 x).bind fun a=>if sel (ltI a (Y4 .i64 x0)) true (gtI a x0)=true then .pure (.done (Sum.inr false)) else .pure (.next (zI .i64 x 1)) else .pure (.done (Sum.inl ()))) 0).bind fun (x:A32)=>match x with
   |.inl x=>.pure (true,())
   |.inr x=>.pure (x,())
def jv:Int→Comp A10:=fun x0=>.pure (rQ x0 (Y4 .i64 x0),())
def Zf:List Int→Comp A10:=fun x0=>(Comp.loop (fun (x:A27)=>if ltI x.2 (zF x0)=true then (idx x0 x.2).bind fun a=>if eqI a (-9223372036854775808)=true then .pure (.done (Sum.inr 0)) else (jv a).bind fun b=>(Comp.loop (fun (x:A27)=>if gtI x.2 0=true then (rem x.1 x.2).bind fun c=>.pure (.next (x.2,c)) else .pure (.done x.1)) (x.1,b.1)).bind fun c=>.pure (.next (c,zI .i64 x.2 1)) else .pure (.done (Sum.inl x.1))) (0,0)).bind fun (x:Int⊕Int)=>match x with
   |.inl x=>.pure (x,())
   |.inr x=>.pure (x,())
def Yw:A1×Int×Unit→Comp A9:=fun x0=>jn (fun (x:Bool)=>.pure (x,())) fun (j:Bool→Comp A9)=>(jH (Int.ofNat 4608) [x0.1.1,x0.1.2.1,x0.1.2.2.1]).bind fun x=>if x.1=true then (Zf [x0.1.1,x0.1.2.1,x0.1.2.2.1]).bind fun x=>if eqI x.1 1=true then (jH (Int.ofNat 2097152) [x0.2.1]).bind fun x=>j x.1 else j false else j false
def jS:A1×Int×Unit→Comp A9:=fun x0=>(Yw x0).bind fun x=>.pure (ntB x.1,())
def vg:List A2→Comp A10:=fun x0=>if gtI (zF x0) 48=true then .pure (2,()) else (zZ x0 fun (z:A2×Unit)=>jS z.1).bind fun x=>if x.1=true then .pure (12,()) else .pure (0,())
def jR:List A2→Comp A9:=fun x0=>(vg x0).bind fun x=>.pure (neI x.1 0,())
def ZZ:List A3→Comp A9:=fun x0=>(zK x0 fun (z:A12)=>jR z.1).bind fun x=>.pure (ntB x.1,())
def vk:Int→Comp A12:=fun x0=>jn (fun (x:Unit)=>jn (fun (x:A3)=>.pure (x,())) fun (j:List A2→Comp A12)=>if gtI (gX .i64 x0 0) 0=true then jn (fun (x:A3)=>j x) fun (j:List A2→Comp A12)=>((sub [] 0 0).bind fun (x:List Unit)=>.pure ()).bind fun x=>(mk (gX .i64 x0 0) ((0,0,0,()),0,())).bind fun zs=>(sub zs 0 0).bind fun ys=>j ys else j []) fun (j:Unit→Comp A12)=>if ltI x0 0=true then Comp.fail else j ()
def zO:List A3→Comp A12:=fun x0=>(Comp.loop (fun (x:A27)=>if ltI x.2 (zF x0)=true then (idx x0 x.2).bind fun a=>jn (fun (b:Unit)=>.pure (.next (zI .i64 x.1 (zF a),zI .i64 x.2 1))) fun (j:Unit→Comp (Comp.Step A27 Int))=>if ltI (zI .i64 x.1 (zF a)) 0=true then Comp.fail else j () else .pure (.done x.1)) (0,0)).bind fun x=>(vk x).bind fun y=>(Comp.loop (fun (x:A33)=>if ltI x.2 (zF x0)=true then (idx x0 x.2).bind fun a=>(app x.1 a).bind fun zs=>.pure (.next (zs,zI .i64 x.2 1)) else .pure (.done x.1)) (y.1,0)).bind fun x=>.pure (x,())
def cell_of:List A3→Comp A12:=fun x0=>(zO x0).bind fun y=>(Comp.loop (fun (x:A33)=>if ltI x.2 (zF [(1,0,0,()),(-1,0,0,()),(0,1,0,()),(0, -1,0,()),(0,0,1,()),(0,0, -1,())])=true then (idx [(1,0,0,()),(-1,0,0,()),(0,1,0,()),(0, -1,0,()),(0,0,1,()),(0,0, -1,())] x.2).bind fun a=>(app x.1 [(a,24,())]).bind fun zs=>.pure (.next (zs,zI .i64 x.2 1)) else .pure (.done x.1)) (y.1,0)).bind fun x=>.pure (x,())
def vj:List A2→Comp (List A12):=fun x0=>((YC (fun (x:Int)=>if ltI x (zF x0)=true then (idx x0 x).bind fun a=>(sub x0 (zI .i64 x 1) (zF x0)).bind fun b=>(YC (fun (c:Int)=>if ltI c (zF b)=true then (idx b c).bind fun d=>(sub x0 (zI .i64 (zI .i64 x c) 2) (zF x0)).bind fun x=>(YC (fun (e:Int)=>if ltI e (zF x)=true then (idx x e).bind fun x=>tell [([a,d,x],())] (Comp.pure ([],.next (zI .i64 e 1))) else .pure ([],.done (Sum.inl ()))) 0).bind fun (p:List A12×(Unit⊕Unit))=>tell p.1 (match p.2 with
              |.inl x=>.pure ([],.next (zI .i64 c 1))
              |.inr x=>.pure ([],.done (Sum.inr ()))) else .pure ([],.done (Sum.inl ()))) 0).bind fun (p:List A12×(Unit⊕Unit))=>tell p.1 (match p.2 with
         |.inl c=>.pure ([],.next (zI .i64 x 1))
         |.inr x=>.pure ([],.done (Sum.inr ()))) else .pure ([],.done (Sum.inl ()))) 0).bind fun (p:List A12×(Unit⊕Unit))=>tell p.1 (match p.2 with
    |.inl x=>.pure ([],())
    |.inr x=>.pure ([],()))).bind fun (p:List A12×Unit)=>.pure p.1
def kF:List A2→Comp (Comp (List A12)×Unit):=fun x0=>.pure (vj x0,())
def Zl:Int×Int×Int×Unit→Int×Int×Int×Unit→Comp A30:=fun x0 x1=>.pure ((gX .i64 (kI .i64 x0.2.1 x1.2.2.1) (kI .i64 x0.2.2.1 x1.2.1),gX .i64 (kI .i64 x0.2.2.1 x1.1) (kI .i64 x0.1 x1.2.2.1),gX .i64 (kI .i64 x0.1 x1.2.1) (kI .i64 x0.2.1 x1.1),()),())
def Zb:Int×Int×Int×Unit→Int×Int×Int×Unit→Comp A10:=fun x0 x1=>.pure (zI .i64 (zI .i64 (kI .i64 x0.1 x1.1) (kI .i64 x0.2.1 x1.2.1)) (kI .i64 x0.2.2.1 x1.2.2.1),())
def Ye:Int×Int×Int×Unit→Int→Comp A30:=fun x0 x1=>.pure ((kI .i64 x0.1 x1,kI .i64 x0.2.1 x1,kI .i64 x0.2.2.1 x1,()),())
def XL:Int×Int×Int×Unit→Int×Int×Int×Unit→Comp A30:=fun x0 x1=>.pure ((zI .i64 x0.1 x1.1,zI .i64 x0.2.1 x1.2.1,zI .i64 x0.2.2.1 x1.2.2.1,()),())
def KY:List Int→Comp A10:=fun x0=>(Comp.loop (fun (x:A27)=>if ltI x.2 (zF x0)=true then (idx x0 x.2).bind fun a=>(Comp.loop (fun (x:A27)=>if neI x.2 0=true then (rem x.1 x.2).bind fun b=>.pure (.next (x.2,b)) else .pure (.done x.1)) (x.1,a)).bind fun b=>.pure (.next (b,zI .i64 x.2 1)) else .pure (.done x.1)) (0,0)).bind fun x=>.pure (rQ x (Y4 .i64 x),())
def XO:List A2→Comp (A7×Bool×Unit):=fun x0=>(Comp.loop (fun (x:Int×Int×Int×Int×Int×Unit)=>if ltI x.2.1 3=true then (idx x0 x.2.1).bind fun a=>(rem (zI .i64 x.2.1 1) 3).bind fun b=>(idx x0 b).bind fun c=>(rem (zI .i64 x.2.1 2) 3).bind fun d=>(idx x0 d).bind fun e=>(Zl c.1 e.1).bind fun f=>(Zb a.1 f.1).bind fun g=>(Ye f.1 a.2.1).bind fun h=>(XL x.2.2 h.1).bind fun i=>.pure (.next (g.1,zI .i64 x.2.1 1,i.1)) else .pure (.done (x.1,x.2.2))) (0,0,0,0,0,())).bind fun x=>if eqI x.1 0=true then .pure ((0,0,0,0,()),false,()) else (KY [x.2.1,x.2.2.1,x.2.2.2.1,x.1]).bind fun a=>jn (fun (b:Int)=>(quo .i64 x.2.1 b).bind fun c=>(quo .i64 x.2.2.1 b).bind fun d=>(quo .i64 x.2.2.2.1 b).bind fun e=>(quo .i64 x.1 b).bind fun x=>.pure ((c,d,e,x,()),true,())) fun (j:Int→Comp (A7×Bool×Unit))=>if ltI x.1 0=true then j (Y4 .i64 a.1) else j a.1
def Zd:A1×Int×Unit→Int×Int×Int×Int×Unit→Comp A10:=fun x0 x1=>(Zb x0.1 (x1.1,x1.2.1,x1.2.2.1,())).bind fun x=>.pure (gX .i64 (kI .i64 x0.2.1 x1.2.2.2.1) x.1,())
def gx:A1×Int×Unit→Int×Int×Int×Int×Unit→Comp A9:=fun x0 x1=>(Zd x0 x1).bind fun x=>.pure (ltI x.1 0,())
def Zo:List A2→Int×Int×Int×Int×Unit→Comp A9:=fun x0 x1=>(zZ x0 fun (z:A2×Unit)=>gx z.1 x1).bind fun x=>.pure (ntB x.1,())
def vb:List A2→Comp A41:=fun x0=>(kF x0).bind fun (x:Comp (List A12)×Unit)=>x.1.bind fun xs=>(K0 (fun (x:List A7×List (A7×Bool)) (d:A12)=>(XO d.1).bind fun a=>(Comp.gd (sel a.2.1 (ntB (match mgB (fun (x b:A7)=>adB (eqI x.1 b.1) (adB (eqI x.2.1 b.2.1) (adB (eqI x.2.2.1 b.2.2.1) (eqI x.2.2.2.1 b.2.2.2.1)))) x.2 a.1 with
          |some x=>x
          |none=>false)) false) (Zo x0 a.1) (false,())).bind fun b=>jn (fun (x:List A7×List (A7×Bool))=>.pure (.next (x.1,x.2))) fun (j:List A7×List (A7×Bool)→Comp (Comp.Step (List A7×List (A7×Bool)) Empty))=>if sel (sel a.2.1 (ntB (match mgB (fun (x c:A7)=>adB (eqI x.1 c.1) (adB (eqI x.2.1 c.2.1) (adB (eqI x.2.2.1 c.2.2.1) (eqI x.2.2.2.1 c.2.2.2.1)))) x.2 a.1 with
             |some x=>x
             |none=>false)) false) b.1 false=true then (app x.1 [a.1]).bind fun zs=>j (zs,mpB (fun (x c:A7)=>adB (eqI x.1 c.1) (adB (eqI x.2.1 c.2.1) (adB (eqI x.2.2.1 c.2.2.1) (eqI x.2.2.2.1 c.2.2.2.1)))) x.2 a.1 true) else j (x.1,x.2)) xs ([],[])).bind fun (r:Comp.Step (List A7×List (A7×Bool)) Empty)=>match r with
     |.next x=>.pure (x.1,())
     |.done e=>nomatch e
def yP:Int×Int×Int×Int×Unit→A1×Int×Unit→Comp A9:=fun x0 x1=>(Zd x1 x0).bind fun x=>.pure (gtI x.1 0,())
def vX:List A7→(A7×Unit→Comp A9)→Comp A10:=fun x0 x1=>(Comp.loop (fun (x:Int)=>if ltI x (zF x0)=true then (idx x0 x).bind fun a=>(x1 (a,())).bind fun b=>if b.1=true then .pure (.done (Sum.inr x)) else .pure (.next (zI .i64 x 1)) else .pure (.done (Sum.inl ()))) 0).bind fun (x:A26)=>match x with
   |.inl x=>.pure (-1,())
   |.inr x=>.pure (x,())
def yK:List A7→(A7×Unit→Comp A9)→Comp A9:=fun x0 x1=>(vX x0 x1).bind fun x=>.pure (geI x.1 0,())
def yv:A1×Int×Unit→List A7→Comp A9:=fun x0 x1=>(yK x1 fun (z:A7×Unit)=>yP z.1 x0).bind fun x=>.pure (ntB x.1,())
def vK:List A2→A28→Comp A10:=fun x0 x1=>(Comp.loop (fun (x:Int)=>if ltI x (zF x0)=true then (idx x0 x).bind fun a=>(x1 (a,())).bind fun b=>if b.1=true then .pure (.done (Sum.inr x)) else .pure (.next (zI .i64 x 1)) else .pure (.done (Sum.inl ()))) 0).bind fun (x:A26)=>match x with
   |.inl x=>.pure (-1,())
   |.inr x=>.pure (x,())
def yC:List A2→A28→Comp A9:=fun x0 x1=>(vK x0 x1).bind fun x=>.pure (geI x.1 0,())
def gq:List A2→Comp A9:=fun x0=>(vb x0).bind fun y=>(yC x0 fun (z:A2×Unit)=>yv z.1 y.1).bind fun x=>.pure (ntB x.1,())
def kC:List A2→Comp A9:=fun x0=>jn (fun (x:Bool)=>.pure (x,())) fun (j:Bool→Comp A9)=>(ZZ [x0]).bind fun x=>if x.1=true then (cell_of [x0]).bind fun y=>(gq y.1).bind fun x=>j x.1 else j false
def j3:List A2→List A2→Comp A9:=fun x0 x1=>jn (fun (x:Bool)=>.pure (x,())) fun (j:Bool→Comp A9)=>(ZZ [x0,x1]).bind fun x=>if ntB (ntB x.1)=true then (cell_of [x0,x1]).bind fun y=>(gq y.1).bind fun x=>j (ntB x.1) else j true
def gv:List A2→List A2→Comp A9:=fun x0 x1=>(j3 x1 x0).bind fun x=>.pure (ntB x.1,())
def yA:List A2→List A3→Comp A9:=fun x0 x1=>(zK x1 fun (z:A12)=>gv z.1 x0).bind fun x=>.pure (ntB x.1,())
def kc:yX×List A3×List Int×Unit→Comp A10:=fun x0=>if sel (eqI (zF x0.2.1) 0) true (gtI (zF x0.2.1) 16)=true then .pure (2,()) else (Comp.gd (ntB (neI (zF x0.2.2.1) (zF x0.2.1))) (zR x0.2.2.1 fun (z:A10)=>vv z.1) (false,())).bind fun x=>if sel (neI (zF x0.2.2.1) (zF x0.2.1)) true x.1=true then .pure (1,()) else (Comp.loop (fun (x:Int)=>if ltI x (zF x0.2.1)=true then (idx x0.2.1 x).bind fun a=>(kC a).bind fun b=>(Comp.gd (ntB (ntB b.1)) (sub x0.2.1 0 x) []).bind fun c=>(Comp.gd (ntB (ntB b.1)) (yA a c) (false,())).bind fun d=>if sel (ntB b.1) true (ntB d.1)=true then .pure (.done (Sum.inr 13)) else .pure (.next (zI .i64 x 1)) else .pure (.done (Sum.inl ()))) 0).bind fun (x:A26)=>match x with
      |.inl x=>.pure (0,())
      |.inr x=>.pure (x,())
def jI:List A2→Comp A9:=fun x0=>(vg x0).bind fun x=>.pure (neI x.1 0,())
def JT:yX×List A3×List Int×Unit→List Bool×List Bool×List A3×Unit→Comp A9:=fun x0 x1=>(Comp.gd (sel (sel (eqI (zF x1.1) (zF x0.2.1)) (eqI (zF x1.2.1) (zF x0.2.1)) false) (leI (zF x1.2.2.1) 24) false) (zK x1.2.2.1 fun (z:A12)=>jI z.1) (false,())).bind fun x=>.pure (sel (sel (sel (eqI (zF x1.1) (zF x0.2.1)) (eqI (zF x1.2.1) (zF x0.2.1)) false) (leI (zF x1.2.2.1) 24) false) (ntB x.1) false,())
def vm:Int→Comp A18:=fun x0=>jn (fun (x:Unit)=>jn (fun (x:A16)=>.pure (x,())) fun (j:List A3→Comp A18)=>if gtI (gX .i64 x0 0) 0=true then jn (fun (x:A16)=>j x) fun (j:List A3→Comp A18)=>((sub [] 0 0).bind fun (x:List Unit)=>.pure ()).bind fun x=>(mk (gX .i64 x0 0) []).bind fun zs=>(sub zs 0 0).bind fun ys=>j ys else j []) fun (j:Unit→Comp A18)=>if ltI x0 0=true then Comp.fail else j ()
def zX:List A16→Comp A18:=fun x0=>(Comp.loop (fun (x:A27)=>if ltI x.2 (zF x0)=true then (idx x0 x.2).bind fun a=>jn (fun (b:Unit)=>.pure (.next (zI .i64 x.1 (zF a),zI .i64 x.2 1))) fun (j:Unit→Comp (Comp.Step A27 Int))=>if ltI (zI .i64 x.1 (zF a)) 0=true then Comp.fail else j () else .pure (.done x.1)) (0,0)).bind fun x=>(vm x).bind fun y=>(Comp.loop (fun (x:A23)=>if ltI x.2 (zF x0)=true then (idx x0 x.2).bind fun a=>(app x.1 a).bind fun zs=>.pure (.next (zs,zI .i64 x.2 1)) else .pure (.done x.1)) (y.1,0)).bind fun x=>.pure (x,())
def ku:List Int→Comp A9:=fun x0=>(Comp.loop (fun (x:Int)=>if ltI x (zF x0)=true then (idx x0 x).bind fun a=>(idx x0 (gX .i64 x 1)).bind fun b=>if leI a b=true then .pure (.done (Sum.inr false)) else .pure (.next (zI .i64 x 1)) else .pure (.done (Sum.inl ()))) 1).bind fun (x:A32)=>match x with
   |.inl x=>.pure (true,())
   |.inr x=>.pure (x,())
def Zm:List A4→Int→Comp A10:=fun x0 x1=>(idx x0 x1).bind fun x=>(zX [x.1,x.2.1]).bind fun y=>(Comp.loop (fun (a:Int)=>if ltI a (zF y.1)=true then (idx y.1 a).bind fun x=>(vg x).bind fun x=>if neI x.1 0=true then .pure (.done (Sum.inr x.1)) else .pure (.next (zI .i64 a 1)) else .pure (.done (Sum.inl ()))) 0).bind fun (a:A26)=>match a with
     |.inl b=>if sel (ltI x.2.2.1 1) true (gtI x.2.2.1 1048576)=true then .pure (3,()) else (Comp.loop (fun (c:Int)=>if ltI c (zF x.2.2.2.1)=true then (idx x.2.2.2.1 c).bind fun d=>if sel (sel (ltI d 0) true (geI d (zF x0))) true (eqI d x1)=true then .pure (.done (Sum.inr 3)) else .pure (.next (zI .i64 c 1)) else .pure (.done (Sum.inl ()))) 0).bind fun (c:A26)=>match c with
        |.inl d=>(ku x.2.2.2.1).bind fun x=>if ntB x.1=true then .pure (7,()) else .pure (0,())
        |.inr x=>.pure (x,())
     |.inr x=>.pure (x,())
def Yb:A8×A5×List A4×Unit→Comp A10:=fun x0=>(kc x0.1).bind fun x=>if neI x.1 0=true then .pure (x.1,()) else (JT x0.1 x0.2.1).bind fun x=>if ntB x.1=true then .pure (4,()) else if gtI (zF x0.2.2.1) 8=true then .pure (2,()) else (Comp.loop (fun (x:A27)=>if ltI x.2 (zF x0.2.2.1)=true then (idx x0.2.2.1 x.2).bind fun a=>(Zm x0.2.2.1 x.2).bind fun b=>if neI b.1 0=true then .pure (.done (Sum.inr b.1)) else .pure (.next (zI .i64 x.1 (zF a.1),zI .i64 x.2 1)) else .pure (.done (Sum.inl x.1))) (zF x0.2.1.2.2.1,0)).bind fun (x:Int⊕Int)=>match x with
        |.inl x=>if gtI x 24=true then .pure (2,()) else .pure (0,())
        |.inr x=>.pure (x,())
def ZC:A8×A5×List A4×Unit→Comp A10:=fun x0=>(Yb x0).bind fun x=>.pure (x.1,())
def ZB:yX×List A3×List Int×Unit→Comp A10:=fun x0=>(kc x0).bind fun x=>.pure (x.1,())
def jA:Int→Int→Comp A9:=fun x0 x1=>.pure (sel (ltI x0 0) true (geI x0 x1),())
def Y0:Int→List Int→Comp A10:=fun x0 x1=>(zR x1 fun (z:A10)=>jA z.1 x0).bind fun x=>if x.1=true then .pure (5,()) else (Comp.loop (fun (x:A27)=>if ltI x.2 (zF x1)=true then (idx x1 x.2).bind fun a=>(sub x1 0 x.2).bind fun b=>(Comp.loop (fun (x:A27)=>if ltI x.2 (zF b)=true then (idx b x.2).bind fun c=>if eqI a c=true then .pure (.done (Sum.inl 6)) else .pure (.next (x.1,zI .i64 x.2 1)) else .pure (.done (Sum.inr x.1))) (x.1,0)).bind fun (c:Int⊕Int)=>match c with
          |.inl x=>.pure (.done x)
          |.inr d=>.pure (.next (d,zI .i64 x.2 1)) else .pure (.done x.1)) (0,0)).bind fun x=>.pure (x,())
def ZA:A8×A5×List A4×Unit→List Int→Comp A10:=fun x0 x1=>(Y0 (zF x0.2.2.1) x1).bind fun x=>.pure (x.1,())
def jO:List A3→Comp A10:=fun x0=>(Comp.loop (fun (x:Int)=>if ltI x (zF x0)=true then (idx x0 x).bind fun a=>(vg a).bind fun b=>if neI b.1 0=true then .pure (.done (Sum.inr b.1)) else .pure (.next (zI .i64 x 1)) else .pure (.done (Sum.inl ()))) 0).bind fun (x:A26)=>match x with
   |.inl x=>.pure (0,())
   |.inr x=>.pure (x,())
def ky:yX×List A3×List Int×Unit→List Bool×List Bool×List A3×Unit→Comp A10:=fun x0 x1=>(kc x0).bind fun x=>if neI x.1 0=true then .pure (x.1,()) else (Comp.gd (ntB (sel (sel (neI (zF x1.1) (zF x0.2.1)) true (neI (zF x1.2.1) (zF x0.2.1))) true (gtI (zF x1.2.2.1) 24))) (jO x1.2.2.1) (0,())).bind fun x=>if sel (sel (sel (neI (zF x1.1) (zF x0.2.1)) true (neI (zF x1.2.1) (zF x0.2.1))) true (gtI (zF x1.2.2.1) 24)) true (neI x.1 0)=true then .pure (4,()) else .pure (0,())
def yj:List Bool→Comp (List Bool×Unit):=fun x0=>amb (Kt x0) (Comp.pure ([],())) ((app [] x0).bind fun zs=>.pure (zs,()))
def za:List A2→Comp A12:=fun x0=>amb (Kt x0) (Comp.pure ([],())) ((app [] x0).bind fun zs=>.pure (zs,()))
def YE:List A3→Comp A18:=fun x0=>(Comp.loop (fun (x:A23)=>if ltI x.2 (zF x0)=true then (idx x0 x.2).bind fun a=>(za a).bind fun y=>(app x.1 [y.1]).bind fun zs=>.pure (.next (zs,zI .i64 x.2 1)) else .pure (.done x.1)) ([],0)).bind fun x=>.pure (x,())
def vP:Int→List A2→List A2→Comp A9:=fun x0 x1 x2=>(j3 x1 x2).bind fun x=>.pure (ntB x.1,())
def yf:List A3→(Int×List A2×Unit→Comp A9)→Comp A18:=fun x0 x1=>(Comp.loop (fun (x:A23)=>if ltI x.2 (zF x0)=true then (idx x0 x.2).bind fun a=>(x1 (x.2,a,())).bind fun b=>jn (fun (c:A16)=>.pure (.next (c,zI .i64 x.2 1))) fun (j:List A3→Comp (Comp.Step A23 A16))=>if b.1=true then (app x.1 [a]).bind fun zs=>j zs else j x.1 else .pure (.done x.1)) ([],0)).bind fun x=>.pure (x,())
def Yu:List A3→Comp A10:=fun x0=>if gtI (zF x0) 16=true then .pure (2,()) else (Comp.loop (fun (x:Int)=>if ltI x (zF x0)=true then (idx x0 x).bind fun a=>(vg a).bind fun b=>if neI b.1 0=true then .pure (.done (Sum.inr b.1)) else .pure (.next (zI .i64 x 1)) else .pure (.done (Sum.inl ()))) 0).bind fun (x:A26)=>match x with
    |.inl x=>.pure (0,())
    |.inr x=>.pure (x,())
def Yz:List A2→Comp A41:=fun x0=>(ZZ [x0]).bind fun x=>if ntB x.1=true then .pure ([],()) else (cell_of [x0]).bind fun y=>(vb y.1).bind fun y=>.pure (y.1,())
def j9:A1×Int×Unit→List A7→Comp A9:=fun x0 x1=>(Comp.loop (fun (x:A27)=>if ltI x.2 (zF x1)=true then (idx x1 x.2).bind fun a=>(Zd x0 a).bind fun b=>jn (fun (c:Int)=>.pure (.next (c,zI .i64 x.2 1))) fun (j:Int→Comp (Comp.Step A27 Int))=>if eqI b.1 0=true then j (zI .i64 x.1 1) else j x.1 else .pure (.done x.1)) (0,0)).bind fun x=>.pure (ltI x 3,())
def yB:List A2→A28→Comp A3:=fun xs x0=>(yH xs x0).bind fun x=>if eqI x.1 (-1)=true then .pure xs else (Comp.loop (fun (x:List A2×Int×Int)=>if ltI x.2.2 (zF x.1)=true then (idx x.1 x.2.2).bind fun a=>(x0 (a,())).bind fun b=>jn (fun (c:A33)=>.pure (.next (c.1,c.2,zI .i64 x.2.2 1))) fun (j:List A2×Int→Comp (Comp.Step (List A2×Int×Int) A33))=>if ntB b.1=true then (inb x.1.length x.2.1).bind fun c=>j (jJ x.1 x.2.1 a,zI .i64 x.2.1 1) else j (x.1,x.2.1) else .pure (.done (x.1,x.2.1))) (xs,x.1,zI .i64 x.1 1)).bind fun x=>((sub x.1 x.2 (zF x.1)).bind fun x=>.pure ()).bind fun a=>(sub x.1 (Int.ofNat x.2.toNat) (zF x.1)).bind fun b=>jn (fun (x:A3)=>.pure x) fun (j:List A2→Comp A3)=>(sub (List.take x.2.toNat x.1++List.replicate (x.1.length.sub x.2.toNat) ((0,0,0,()),0,())) 0 x.2).bind fun ys=>j ys
def zw:List A2→(A2×A2×Unit→Comp A10)→Comp A3:=CG
def Zk:Int→Int→Comp A10:=fun x0 x1=>if ltI x0 x1=true then .pure (-1,()) else if gtI x0 x1=true then .pure (1,()) else .pure (0,())
def kK:A1×Int×Unit→A1×Int×Unit→Comp A10:=fun x0 x1=>(Comp.loop (fun (x:A27)=>if ltI x.2 (zF [[x0.1.1,x1.1.1],[x0.1.2.1,x1.1.2.1],[x0.1.2.2.1,x1.1.2.2.1],[x0.2.1,x1.2.1]])=true then (idx [[x0.1.1,x1.1.1],[x0.1.2.1,x1.1.2.1],[x0.1.2.2.1,x1.1.2.2.1],[x0.2.1,x1.2.1]] x.2).bind fun a=>(idx a 0).bind fun b=>(idx a 1).bind fun c=>(Zk b c).bind fun d=>if eqI d.1 0=true then .pure (.next (d.1,zI .i64 x.2 1)) else .pure (.done d.1) else .pure (.done x.1)) (0,0)).bind fun x=>.pure (x,())
def zy:List A2→Comp A3:=fun xs=>if ltI (zF xs) 2=true then .pure xs else (Comp.loop (fun (x:A33)=>if ltI x.2 (zF x.1)=true then (idx x.1 x.2).bind fun a=>(idx x.1 (gX .i64 x.2 1)).bind fun b=>if adB (adB (eqI a.1.1 b.1.1) (adB (eqI a.1.2.1 b.1.2.1) (eqI a.1.2.2.1 b.1.2.2.1))) (eqI a.2.1 b.2.1)=true then ((sub x.1 x.2 (zF x.1)).bind fun x=>.pure ()).bind fun c=>(Comp.loop (fun (d:List A2×Int×Int)=>if ltI d.2.2 (zF (List.drop x.2.toNat d.1))=true then (idx (List.drop x.2.toNat d.1) d.2.2).bind fun e=>(idx (List.drop x.2.toNat d.1) (gX .i64 d.2.2 1)).bind fun f=>jn (fun (x:A33)=>.pure (.next (x.1,x.2,zI .i64 d.2.2 1))) fun (j:List A2×Int→Comp (Comp.Step (List A2×Int×Int) A33))=>if ntB (adB (adB (eqI e.1.1 f.1.1) (adB (eqI e.1.2.1 f.1.2.1) (eqI e.1.2.2.1 f.1.2.2.1))) (eqI e.2.1 f.2.1))=true then (idx (List.drop x.2.toNat d.1) d.2.2).bind fun x=>(inb d.1.length d.2.1).bind fun g=>j (jJ d.1 d.2.1 x,zI .i64 d.2.1 1) else j (d.1,d.2.1) else .pure (.done (d.1,d.2.1))) (x.1,x.2,1)).bind fun x=>((sub x.1 x.2 (zF x.1)).bind fun x=>.pure ()).bind fun d=>(sub x.1 (Int.ofNat x.2.toNat) (zF x.1)).bind fun e=>jn (fun (x:A3)=>.pure (.done (Sum.inr x))) fun (j:List A2→Comp (Comp.Step A33 (List A2⊕List A2)))=>(sub (List.take x.2.toNat x.1++List.replicate (x.1.length.sub x.2.toNat) ((0,0,0,()),0,())) 0 x.2).bind fun ys=>j ys else .pure (.next (x.1,zI .i64 x.2 1)) else .pure (.done (Sum.inl x.1))) (xs,1)).bind fun (x:List A2⊕List A2)=>match x with
    |.inl x=>.pure x
    |.inr x=>.pure x
def gR:List A2→Comp A12:=fun x0=>(kC x0).bind fun x=>if ntB x.1=true then .pure ([],()) else (Yz x0).bind fun y=>(za x0).bind fun y_1=>(yB y_1.1 fun (z:A2×Unit)=>j9 z.1 y.1).bind fun ys=>(zw ys fun (z:A2×A2×Unit)=>kK z.1 z.2.1).bind fun ys=>(zy ys).bind fun ys=>.pure (ys,())
def K6:Int×Int×Int×Unit→Int×Int×Int×Unit→Comp A30:=fun x0 x1=>.pure ((gX .i64 x0.1 x1.1,gX .i64 x0.2.1 x1.2.1,gX .i64 x0.2.2.1 x1.2.2.1,()),())
def Ya:A1×Int×Unit→Comp (A2×Unit):=fun x0=>(K6 (0,0,0,()) x0.1).bind fun x=>.pure ((x.1,Y4 .i64 x0.2.1,()),())
def ju:List A2→List A2→Comp (List A45):=fun x0 x1=>((YC (fun (x:A33)=>if ltI x.2 (zF x1)=true then (idx x1 x.2).bind fun a=>if geI (zF x.1) 48=true then tell [(none,())] (Comp.pure ([],.done (Sum.inr ()))) else (Ya a).bind fun b=>(zO [x.1,[b.1]]).bind fun y=>(gR y.1).bind fun y_1=>if gtI (zF y_1.1) 0=true then tell [(some y_1.1,())] ((zO [x.1,[a]]).bind fun y=>(gR y.1).bind fun y=>.pure ([],.next (y.1,zI .i64 x.2 1))) else (zO [x.1,[a]]).bind fun y=>(gR y.1).bind fun y=>.pure ([],.next (y.1,zI .i64 x.2 1)) else .pure ([],.done (Sum.inl ()))) (x0,0)).bind fun (p:List A45×(Unit⊕Unit))=>tell p.1 (match p.2 with
    |.inl x=>.pure ([],())
    |.inr x=>.pure ([],()))).bind fun (p:List A45×Unit)=>.pure p.1
def Zj:List A2→List A2→Comp (Comp (List A45)×Unit):=fun x0 x1=>.pure (ju x0 x1,())
def kJ:List A3→List A2→Comp A19:=fun x0 x1=>(kC x1).bind fun x=>if ntB x.1=true then .pure (x0,0,()) else (gR x1).bind fun y=>(Comp.loop (fun (x:Int×List A3×Int×List A3)=>if ltI x.1 (zF x0)=true then jn (fun (a:List A3×Int×List A3)=>.pure (.next (zI .i64 x.1 1,a.1,a.2.1,a.2.2))) fun (j:List A3×Int×List A3→Comp (Comp.Step (Int×List A3×Int×List A3) (List A3×Int×List A3⊕List A3×Int)))=>(idx x0 x.1).bind fun a=>(j3 a x1).bind fun b=>if b.1=true then (app x.2.2.2 [a]).bind fun zs=>j (x.2.1,x.2.2.1,zs) else (Zj a y.1).bind fun (c:Comp (List A45)×Unit)=>c.1.bind fun xs=>(K0 (fun (x:List A3×Int×List A3) (d:A45)=>match d.1 with
                |none=>.pure (.done ([],Int.ofNat 9))
                |some xs=>amb (Kt xs) (Comp.pure (.done ([],Int.ofNat 9))) ((app x.2.2 [xs]).bind fun zs=>.pure (.next (x.1,x.2.1,zs)))) xs (x.2.1,x.2.2.1,x.2.2.2)).bind fun (r:Comp.Step (List A3×Int×List A3) A23)=>match r with
               |.next x=>j (x.1,x.2.1,x.2.2)
               |.done e=>.pure (.done (Sum.inr (e.1,e.2))) else .pure (.done (Sum.inl (x.2.1,x.2.2.1,x.2.2.2)))) (0,[],0,[])).bind fun (a:List A3×Int×List A3⊕List A3×Int)=>match a with
      |.inl b=>if gtI (zF b.2.2) 200=true then .pure ([],9,()) else .pure (b.2.2,0,())
      |.inr x=>.pure (x.1,x.2,())
def Ys:List A2→List A3→Comp A19:=fun x0 x1=>(vg x0).bind fun x=>if neI x.1 0=true then .pure ([],x.1,()) else (Yu x1).bind fun x=>if neI x.1 0=true then .pure ([],x.1,()) else (kC x0).bind fun x=>if ntB x.1=true then .pure ([],0,()) else (gR x0).bind fun y=>(Comp.loop (fun (x:A23)=>if ltI x.2 (zF x1)=true then (idx x1 x.2).bind fun a=>(kJ x.1 a).bind fun b=>if neI b.2.1 0=true then .pure (.done (Sum.inr ([],b.2.1))) else .pure (.next (b.1,zI .i64 x.2 1)) else .pure (.done (Sum.inl x.1))) ([y.1],0)).bind fun (x:A38)=>match x with
          |.inl x=>.pure (x,0,())
          |.inr x=>.pure (x.1,x.2,())
def gP:List A3→List A2→Comp A42:=fun x0 x1=>(Ys x1 x0).bind fun x=>.pure (sel (eqI x.2.1 0) (eqI (zF x.1) 0) false,x.2.1,())
def Yr:yX×List A3×List Int×Unit→List Bool×List Bool×List A3×Unit→List A3→List A3→Comp (A5×Int×Unit):=fun x0 x1 x2 x3=>(ky x0 x1).bind fun x=>if neI x.1 0=true then .pure (([],[],[],()),x.1,()) else (zX [x2,x3]).bind fun y=>(jO y.1).bind fun a=>if neI a.1 0=true then .pure (([],[],[],()),a.1,()) else if gtI (zI .i64 (zF x1.2.2.1) (zF x2)) 24=true then .pure (([],[],[],()),2,()) else (yj x1.1).bind fun y_1=>(yj x1.2.1).bind fun y_2=>(zX [x1.2.2.1,x2]).bind fun b=>(YE b.1).bind fun y_3=>(Comp.loop (fun (c:Int×A5×List Bool×List Bool×List A3×Unit)=>if ltI c.1 (zF x0.2.1)=true then jn (fun (x:A5×List Bool×List Bool×List A3×Unit)=>.pure (.next (zI .i64 c.1 1,x.1,x.2.1,x.2.2.1,x.2.2.2.1,()))) fun (j:A5×List Bool×List Bool×List A3×Unit→Comp (Comp.Step (Int×A5×List Bool×List Bool×List A3×Unit) A43))=>(idx x0.2.1 c.1).bind fun d=>(idx c.2.2.2.1 c.1).bind fun e=>(Comp.gd (ntB e) (yA d x2) (false,())).bind fun f=>(Comp.gd (ntB (sel e true (ntB f.1))) (yA d x3) (false,())).bind fun g=>(inb c.2.2.2.1.length c.1).bind fun h=>(idx c.2.2.1 c.1).bind fun i=>if i=true then j (c.2.1,c.2.2.1,jJ c.2.2.2.1 c.1 (sel (sel e true (ntB f.1)) true (ntB g.1)),c.2.2.2.2.1,()) else (yf c.2.2.2.2.1 fun (z:Int×List A2×Unit)=>vP z.1 z.2.1 d).bind fun y=>(gP y.1 d).bind fun x=>if neI x.2.1 0=true then .pure (.done (Sum.inr (x.2.1,[],[],[],()))) else (inb c.2.2.1.length c.1).bind fun k=>j (c.2.1,jJ c.2.2.1 c.1 x.1,jJ c.2.2.2.1 c.1 (sel (sel e true (ntB f.1)) true (ntB g.1)),c.2.2.2.2.1,()) else .pure (.done (Sum.inl (c.2.1,c.2.2.1,c.2.2.2.1,c.2.2.2.2.1,())))) (0,([],[],[],()),y_1.1,y_2.1,y_3.1,())).bind fun (x:A5×List Bool×List Bool×List A3×Unit⊕Int×List Bool×List Bool×List A3×Unit)=>match x with
             |.inl x=>.pure ((x.2.1,x.2.2.1,x.2.2.2.1,()),0,())
             |.inr x=>.pure (x.2,x.1,())
def yM:A8×A5×Unit→Int→Comp A9:=fun x0 x1=>(idx x0.1.2.2.1 x1).bind fun x=>(Comp.gd (eqI x 1) (idx x0.1.2.1 x1) []).bind fun a=>(Comp.gd (eqI x 1) (yA a x0.2.1.2.2.1) (false,())).bind fun b=>.pure (sel (eqI x 1) (ntB b.1) false,())
def yN:A8×A5×Unit→Int→Comp A9:=fun x0 x1=>(idx x0.1.2.2.1 x1).bind fun x=>(Comp.gd (eqI x 1) (idx x0.2.1.2.1 x1) false).bind fun a=>.pure (sel (eqI x 1) a false,())
def yh:A8×A5×Unit→Int→Comp A9:=fun x0 x1=>(idx x0.1.2.2.1 x1).bind fun x=>(Comp.gd (eqI x 2) (idx x0.2.1.1 x1) false).bind fun a=>.pure (sel (eqI x 2) (ntB a) false,())
def jP:yX×List A3×List Int×Unit→List Bool×List Bool×List A3×Unit→Comp A10:=fun x0 x1=>(ky x0 x1).bind fun x=>if neI x.1 0=true then .pure (x.1,()) else (Comp.loop (fun (a:Int)=>if ltI a (zF [(fun (z:A10)=>yM (x0,x1,()) z.1,35,()),(fun (z:A10)=>yN (x0,x1,()) z.1,30,()),(fun (z:A10)=>yh (x0,x1,()) z.1,34,())])=true then (idx [(fun (z:A10)=>yM (x0,x1,()) z.1,35,()),(fun (z:A10)=>yN (x0,x1,()) z.1,30,()),(fun (z:A10)=>yh (x0,x1,()) z.1,34,())] a).bind fun x=>(Comp.loop (fun (b:Int)=>if ltI b (zF x0.2.1)=true then (x.1 (b,())).bind fun c=>if c.1=true then .pure (.done (Sum.inr x.2.1)) else .pure (.next (zI .i64 b 1)) else .pure (.done (Sum.inl ()))) 0).bind fun (x:A26)=>match x with
         |.inl x=>.pure (.next (zI .i64 a 1))
         |.inr x=>.pure (.done (Sum.inr x)) else .pure (.done (Sum.inl ()))) 0).bind fun (x:A26)=>match x with
     |.inl x=>.pure (0,())
     |.inr x=>.pure (x,())
def gJ:List Int→Comp A22:=fun x0=>amb (Kt x0) (Comp.pure ([],())) ((app [] x0).bind fun zs=>.pure (zs,()))
def YH:yX×List A3×List Int×Unit→List A3×List A3×Int×List Int×Unit→Comp A9:=fun x0 x1=>(Comp.loop (fun (x:Int)=>if ltI x (zF x0.2.1)=true then (idx x0.2.1 x).bind fun a=>(idx x0.2.2.1 x).bind fun b=>(Comp.gd (eqI b 2) (yA a x1.1) (false,())).bind fun c=>if sel (eqI b 2) (ntB c.1) false=true then .pure (.done (Sum.inr false)) else .pure (.next (zI .i64 x 1)) else .pure (.done (Sum.inl ()))) 0).bind fun (x:A32)=>match x with
   |.inl x=>.pure (true,())
   |.inr x=>.pure (x,())
def kB:Int→yX×List A3×List Int×Unit→A8×A5×List A4×Unit→Comp A9:=fun x0 x1 x2=>(idx x2.2.2.1 x0).bind fun x=>(YH x1 x).bind fun x=>.pure (ntB x.1,())
def gE:List Int→A37→Comp A13:=fun xs x0=>(gW xs x0).bind fun x=>if eqI x.1 (-1)=true then .pure xs else (Comp.loop (fun (x:List Int×Int×Int)=>if ltI x.2.2 (zF x.1)=true then (idx x.1 x.2.2).bind fun a=>(x0 (a,())).bind fun b=>jn (fun (c:A40)=>.pure (.next (c.1,c.2,zI .i64 x.2.2 1))) fun (j:List Int×Int→Comp (Comp.Step (List Int×Int×Int) A40))=>if ntB b.1=true then (inb x.1.length x.2.1).bind fun c=>j (jJ x.1 x.2.1 a,zI .i64 x.2.1 1) else j (x.1,x.2.1) else .pure (.done (x.1,x.2.1))) (xs,x.1,zI .i64 x.1 1)).bind fun x=>((sub x.1 x.2 (zF x.1)).bind fun x=>.pure ()).bind fun a=>(sub x.1 (Int.ofNat x.2.toNat) (zF x.1)).bind fun b=>jn (fun (x:A13)=>.pure x) fun (j:List Int→Comp A13)=>(sub (List.take x.2.toNat x.1++List.replicate (x.1.length.sub x.2.toNat) 0) 0 x.2).bind fun ys=>j ys
def Ze:A8×A5×List A4×Unit→List Int→List Int→Comp A11:=fun x0 x1 x2=>(Comp.loop (fun (x:Int)=>if ltI x (zF [fun (z:Unit)=>ZC x0,fun (z:Unit)=>ZB (x0.1.1,x0.1.2.1,x1,()),fun (z:Unit)=>ZA x0 x2])=true then (idx [fun (z:Unit)=>ZC x0,fun (z:Unit)=>ZB (x0.1.1,x0.1.2.1,x1,()),fun (z:Unit)=>ZA x0 x2] x).bind fun a=>(a ()).bind fun b=>if neI b.1 0=true then .pure (.done (Sum.inr ([],b.1))) else .pure (.next (zI .i64 x 1)) else .pure (.done (Sum.inl ()))) 0).bind fun (x:Unit⊕List Int×Int)=>match x with
   |.inl x=>(Comp.loop (fun (x:List A3×List A3×Int)=>if ltI x.2.2 (zF x2)=true then (idx x2 x.2.2).bind fun a=>(idx x0.2.2.1 a).bind fun b=>(idx x0.2.2.1 a).bind fun c=>(app x.1 b.1).bind fun zs=>(app x.2.1 c.2.1).bind fun zs_1=>.pure (.next (zs,zs_1,zI .i64 x.2.2 1)) else .pure (.done (x.1,x.2.1))) ([],[],0)).bind fun x=>(Yr (x0.1.1,x0.1.2.1,x1,()) x0.2.1 x.1 x.2).bind fun x=>if neI x.2.1 0=true then .pure ([],x.2.1,()) else (jP (x0.1.1,x0.1.2.1,x1,()) x.1).bind fun x=>if eqI x.1 35=true then (gJ x2).bind fun y=>.pure (y.1,0,()) else (gJ x2).bind fun y=>(gE y.1 fun (z:A10)=>kB z.1 (x0.1.1,x0.1.2.1,x1,()) x0).bind fun ys=>.pure (ys,0,())
   |.inr x=>.pure (x.1,x.2,())
def vO:List Int→List Int→Comp A9:=fun x0 x1=>if neI (zF x0) (zF x1)=true then .pure (false,()) else (Comp.loop (fun (x:Int)=>if ltI x (zF x0)=true then (idx x0 x).bind fun a=>(idx x1 x).bind fun b=>if neI a b=true then .pure (.done (Sum.inr false)) else .pure (.next (zI .i64 x 1)) else .pure (.done (Sum.inl ()))) 0).bind fun (x:A32)=>match x with
    |.inl x=>.pure (true,())
    |.inr x=>.pure (x,())
def vy:A8×A5×List A4×Unit→List Int→List Int→List Int→Comp A9:=fun x0 x1 x2 x3=>(Ze x0 x1 x2).bind fun y=>(Comp.gd (eqI y.2.1 0) (vO y.1 x3) (false,())).bind fun x=>.pure (sel (eqI y.2.1 0) x.1 false,())
def vU:A8×A5×List A4×Unit→List Int→List Int→Int→Comp A9:=fun x0 x1 x2 x3=>(Ze x0 x1 x2).bind fun y=>.pure (sel (eqI y.2.1 x3) (eqI (zF y.1) 0) false,())
def yy:Int→Comp A9:=fun x0=>.pure (sel (ltI x0 0) true (gtI x0 100000),())
def gI:Int→List Int→Comp A9:=fun x0 x1=>.pure (sel (ltI x0 0) true (geI x0 (zF x1)),())
def yg:List Int→Int→Comp A10:=fun x0 x1=>(Comp.loop (fun (x:Int)=>if ltI x (zF x0)=true then (idx x0 x).bind fun a=>if eqI x1 a=true then .pure (.done (Sum.inr x)) else .pure (.next (zI .i64 x 1)) else .pure (.done (Sum.inl ()))) 0).bind fun (x:A26)=>match x with
   |.inl x=>.pure (-1,())
   |.inr x=>.pure (x,())
def ZD:A8×A5×List A4×Unit→List Int→List Int→List Int→List Int→List Int→Comp A34:=fun x0 x1 x2 x3 x4 x5=>(Ze x0 x1 x2).bind fun y=>if neI y.2.1 0=true then .pure ([],y.2.1,()) else if sel (neI (zF x3) (zF x2)) true (neI (zF x4) (zF x2))=true then .pure ([],4,()) else if gtI (zF x5) 6=true then .pure ([],2,()) else (zR x3 fun (z:A10)=>gI z.1 x5).bind fun x=>if x.1=true then .pure ([],55,()) else (zR x4 fun (z:A10)=>yy z.1).bind fun x=>(Comp.gd (ntB x.1) (zR x5 fun (z:A10)=>yy z.1) (false,())).bind fun a=>if sel x.1 true a.1=true then .pure ([],3,()) else (Comp.loop (fun (x:List A1×Int)=>if ltI x.2 (zF y.1)=true then (idx y.1 x.2).bind fun b=>(yg x2 b).bind fun c=>(idx x3 c.1).bind fun d=>(idx x4 c.1).bind fun e=>(idx x5 d).bind fun f=>jn (fun (g:Int)=>(idx x0.2.2.1 b).bind fun h=>(app x.1 [(b,g,h.2.2.1,())]).bind fun zs=>.pure (.next (zs,zI .i64 x.2 1))) fun (j:Int→Comp (Comp.Step (List A1×Int) (List A1)))=>if gtI e f=true then j d else j (-1) else .pure (.done x.1)) ([],0)).bind fun x=>.pure (x,0,())
def ZP:List A1→List A1→Comp A9:=fun x0 x1=>if neI (zF x0) (zF x1)=true then .pure (false,()) else (Comp.loop (fun (x:Int)=>if ltI x (zF x0)=true then (idx x0 x).bind fun a=>(idx x1 x).bind fun b=>if ntB (adB (eqI a.1 b.1) (adB (eqI a.2.1 b.2.1) (eqI a.2.2.1 b.2.2.1)))=true then .pure (.done (Sum.inr false)) else .pure (.next (zI .i64 x 1)) else .pure (.done (Sum.inl ()))) 0).bind fun (x:A32)=>match x with
    |.inl x=>.pure (true,())
    |.inr x=>.pure (x,())
def qY:List A1→Int→Comp A10:=fun x0 x1=>(Comp.loop (fun (x:List A27×Int)=>if ltI x.2 (zF x0)=true then (idx x0 x.2).bind fun a=>.pure (.next (mpB (fun (x b:Int)=>eqI x b) x.1 a.2.1 (zI .i64 (match mgB (fun (x b:Int)=>eqI x b) x.1 a.2.1 with
          |some x=>x
          |none=>0) a.2.2.1),zI .i64 x.2 1)) else .pure (.done x.1)) ([],0)).bind fun x=>.pure (match mgB (fun (x a:Int)=>eqI x a) x x1 with
     |some x=>x
     |none=>0,())
def jF:Comp A9:=gf.bind fun x=>jn (fun (a:Bool)=>jn (fun (b:Bool)=>(ZD x.1 [1,3,2] [0,1] [1,0] [5,6] [9,4]).bind fun y=>(ZD x.1 [1,3,2] [0,1] [1,0] [4,6] [9,4]).bind fun y_1=>jn (fun (x:Bool)=>.pure (x,())) fun (j:Bool→Comp A9)=>if a=true then if b=true then if eqI y.2.1 0=true then if eqI y_1.2.1 0=true then (ZP y.1 [(0,1,3,())]).bind fun x=>if x.1=true then (ZP y_1.1 [(0, -1,3,())]).bind fun x=>if x.1=true then (qY y.1 (Int.ofNat 1)).bind fun x=>if eqI x.1 3=true then (qY y.1 (Int.negSucc 0)).bind fun x=>j (eqI x.1 0) else j false else j false else j false else j false else j false else j false else j false) fun (j:Bool→Comp A9)=>(vU x.1 [1,2,3] [0,3] (Int.ofNat 5)).bind fun b=>if b.1=true then (vU x.1 [1,2,3] [0,0] (Int.ofNat 6)).bind fun c=>if c.1=true then (vU x.1 [1,2] [0,1] (Int.ofNat 1)).bind fun x=>j x.1 else j false else j false) fun (j:Bool→Comp A9)=>(vy x.1 [1,2,3] [0,1] [1]).bind fun a=>if a.1=true then (vy x.1 [1,3,2] [0,1] [0]).bind fun b=>if b.1=true then (vy x.1 [3,3,3] [0,1] [0,1]).bind fun c=>if c.1=true then (vy x.1 [1,2,1] [0,1] [0,1]).bind fun x=>j x.1 else j false else j false else j false
def jM:Int→Int→Comp A10:=fun x0 x1=>if ltI x1 1=true then .pure (0,()) else (rem x0 x1).bind fun x=>(rem (zI .i64 x x1) x1).bind fun x=>.pure (x,())
def zH:List Int×Int×Unit→Int→Comp A21:=fun x0 x1=>if geI x0.2.1 (zF x0.1)=true then .pure ((x0,()),0,()) else (idx x0.1 (gX .i64 (zI .i64 x0.2.1 1) 1)).bind fun x=>(jM x x1).bind fun x=>.pure (((x0.1,zI .i64 x0.2.1 1,()),()),x.1,())
def Z7:Int×Int×Int×Unit→Int×Int×Int×Unit→Comp A30:=fun x0 x1=>.pure ((gX .i64 x0.1 x1.1,gX .i64 x0.2.1 x1.2.1,gX .i64 x0.2.2.1 x1.2.2.1,()),())
def vA:A1×Int×Unit→Comp (A2×Unit):=fun x0=>(Z7 (0,0,0,()) x0.1).bind fun x=>.pure ((x.1,Y4 .i64 x0.2.1,()),())
def zz:Int×Int×Int×Unit→Comp A22:=fun x0=>.pure ([x0.1,x0.2.1,x0.2.2.1],())
def vN:Int→Comp A10:=fun x0=>if ltI x0 0=true then .pure (Y4 .i64 x0,()) else .pure (x0,())
def gm:Int×Int×Int×Unit→Comp A2:=fun x0=>(zz x0).bind fun x=>(Comp.loop (fun (a:Int×Int×Int×Int×Int×Unit)=>if ltI a.2.1 3=true then (idx x.1 a.2.1).bind fun b=>if eqI b (-9223372036854775808)=true then .pure (.done (Sum.inr (0,0,0,0,()))) else (idx x.1 a.2.1).bind fun x=>(vN x).bind fun x=>(Comp.loop (fun (x:A27)=>if gtI x.2 0=true then (rem x.1 x.2).bind fun c=>.pure (.next (x.2,c)) else .pure (.done x.1)) (a.1,x.1)).bind fun x=>.pure (.next (x,zI .i64 a.2.1 1,a.2.2)) else .pure (.done (Sum.inl (a.1,a.2.2)))) (0,0,0,0,0,())).bind fun (x:Int×Int×Int×Int×Unit⊕Int×Int×Int×Int×Unit)=>match x with
    |.inl x=>if eqI x.1 0=true then .pure ((0,0,0,()),0,()) else (quo .i64 x0.1 x.1).bind fun a=>(quo .i64 x0.2.1 x.1).bind fun b=>(quo .i64 x0.2.2.1 x.1).bind fun c=>.pure ((a,b,c,()),x.1,())
    |.inr x=>.pure (x.2,x.1,())
def gO:A1×Int×Unit→Comp A9:=fun x0=>(zz x0.1).bind fun x=>(Comp.loop (fun (a:Int)=>if ltI a 3=true then (idx x.1 a).bind fun b=>(Comp.gd (ntB (ltI b (-4608))) (idx x.1 a) (Int.ofNat 0)).bind fun c=>if sel (ltI b (-4608)) true (gtI c 4608)=true then .pure (.done (Sum.inr false)) else .pure (.next (zI .i64 a 1)) else .pure (.done (Sum.inl ()))) 0).bind fun (x:A32)=>match x with
    |.inl x=>(gm x0.1).bind fun x=>.pure (sel (sel (eqI x.2.1 1) (geI x0.2.1 (-2097152)) false) (leI x0.2.1 2097152) false,())
    |.inr x=>.pure (x,())
def zb:List A2→Comp A10:=fun x0=>if gtI (zF x0) 48=true then .pure (2,()) else (Comp.loop (fun (x:Int)=>if ltI x (zF x0)=true then (idx x0 x).bind fun a=>(gO a).bind fun b=>if ntB b.1=true then .pure (.done (Sum.inr 12)) else .pure (.next (zI .i64 x 1)) else .pure (.done (Sum.inl ()))) 0).bind fun (x:A26)=>match x with
    |.inl x=>.pure (0,())
    |.inr x=>.pure (x,())
def gH:List A2→Comp A12:=fun x0=>(app [] x0).bind fun zs=>(yG (-24, -24, -24,()) (24,24,24,())).bind fun x=>(app zs x.1).bind fun zs=>.pure (zs,())
def vR:Int×Int×Int×Unit→Int×Int×Int×Unit→Comp A30:=fun x0 x1=>.pure ((gX .i64 (kI .i64 x0.2.1 x1.2.2.1) (kI .i64 x0.2.2.1 x1.2.1),gX .i64 (kI .i64 x0.2.2.1 x1.1) (kI .i64 x0.1 x1.2.2.1),gX .i64 (kI .i64 x0.1 x1.2.1) (kI .i64 x0.2.1 x1.1),()),())
def Z8:Int×Int×Int×Unit→Int×Int×Int×Unit→Comp A10:=fun x0 x1=>.pure (zI .i64 (zI .i64 (kI .i64 x0.1 x1.1) (kI .i64 x0.2.1 x1.2.1)) (kI .i64 x0.2.2.1 x1.2.2.1),())
def yc:Int×Int×Int×Unit→Int→Comp A30:=fun x0 x1=>.pure ((kI .i64 x0.1 x1,kI .i64 x0.2.1 x1,kI .i64 x0.2.2.1 x1,()),())
def kO:Int×Int×Int×Unit→Int×Int×Int×Unit→Comp A30:=fun x0 x1=>.pure ((zI .i64 x0.1 x1.1,zI .i64 x0.2.1 x1.2.1,zI .i64 x0.2.2.1 x1.2.2.1,()),())
def zp:Int→Int→Comp A10:=fun x0 x1=>(Comp.loop (fun (x:A27)=>if neI x.2 0=true then (rem x.1 x.2).bind fun a=>.pure (.next (x.2,a)) else .pure (.done x.1)) (x0,x1)).bind fun x=>.pure (x,())
def y9:A1×Int×Unit→A1×Int×Unit→A1×Int×Unit→Comp (A7×Bool×Unit):=fun x0 x1 x2=>(vR x1.1 x2.1).bind fun x=>(Z8 x0.1 x.1).bind fun x=>if eqI x.1 0=true then .pure ((0,0,0,0,()),false,()) else (vR x1.1 x2.1).bind fun a=>(yc a.1 x0.2.1).bind fun b=>(vR x2.1 x0.1).bind fun c=>(yc c.1 x1.2.1).bind fun d=>(kO b.1 d.1).bind fun e=>(vR x0.1 x1.1).bind fun f=>(yc f.1 x2.2.1).bind fun g=>(kO e.1 g.1).bind fun h=>jn (fun (x:A7)=>(zp (rQ x.2.1 (Y4 .i64 x.2.1)) (rQ x.2.2.1 (Y4 .i64 x.2.2.1))).bind fun i=>(zp (rQ x.2.2.2.1 (Y4 .i64 x.2.2.2.1)) x.1).bind fun k=>(zp i.1 k.1).bind fun l=>(quo .i64 x.2.1 l.1).bind fun m=>(quo .i64 x.2.2.1 l.1).bind fun n=>(quo .i64 x.2.2.2.1 l.1).bind fun o=>(quo .i64 x.1 l.1).bind fun x=>.pure ((m,n,o,x,()),true,())) fun (j:Int×Int×Int×Int×Unit→Comp (A7×Bool×Unit))=>if ltI x.1 0=true then (yc h.1 (Int.negSucc 0)).bind fun i=>j (Y4 .i64 x.1,i.1) else j (x.1,h.1)
def zg:A1×Int×Unit→Int×Int×Int×Int×Unit→Comp A10:=fun x0 x1=>.pure (gX .i64 (gX .i64 (gX .i64 (kI .i64 x0.2.1 x1.2.2.2.1) (kI .i64 x0.1.1 x1.1)) (kI .i64 x0.1.2.1 x1.2.1)) (kI .i64 x0.1.2.2.1 x1.2.2.1),())
def vw:List A2→Int×Int×Int×Int×Unit→Comp A9:=fun x0 x1=>(Comp.loop (fun (x:Int)=>if ltI x (zF x0)=true then (idx x0 x).bind fun a=>(zg a x1).bind fun b=>if ltI b.1 0=true then .pure (.done (Sum.inr false)) else .pure (.next (zI .i64 x 1)) else .pure (.done (Sum.inl ()))) 0).bind fun (x:A32)=>match x with
   |.inl x=>.pure (true,())
   |.inr x=>.pure (x,())
def ym:List A7→Int×Int×Int×Int×Unit→Comp A9:=fun x0 x1=>(Comp.loop (fun (x:Int)=>if ltI x (zF x0)=true then (idx x0 x).bind fun a=>if adB (eqI a.1 x1.1) (adB (eqI a.2.1 x1.2.1) (adB (eqI a.2.2.1 x1.2.2.1) (eqI a.2.2.2.1 x1.2.2.2.1)))=true then .pure (.done (Sum.inr true)) else .pure (.next (zI .i64 x 1)) else .pure (.done (Sum.inl ()))) 0).bind fun (x:A32)=>match x with
   |.inl x=>.pure (false,())
   |.inr x=>.pure (x,())
def vZ:List A2→Comp A41:=fun x0=>(Comp.loop (fun (x:List A7×Int)=>if ltI x.2 (zF x0)=true then (Comp.loop (fun (a:List A7×Int)=>if ltI a.2 (zF x0)=true then (Comp.loop (fun (b:List A7×Int)=>if ltI b.2 (zF x0)=true then (idx x0 x.2).bind fun x=>(idx x0 a.2).bind fun c=>(idx x0 b.2).bind fun d=>(y9 x c d).bind fun x=>(Comp.gd x.2.1 (vw x0 x.1) (false,())).bind fun e=>(Comp.gd (sel x.2.1 e.1 false) (ym b.1 x.1) (false,())).bind fun f=>jn (fun (x:List A7)=>.pure (.next (x,zI .i64 b.2 1))) fun (j:List A7→Comp (Comp.Step (List A7×Int) (List A7)))=>if sel (sel x.2.1 e.1 false) (ntB f.1) false=true then (app b.1 [x.1]).bind fun zs=>j zs else j b.1 else .pure (.done b.1)) (a.1,zI .i64 a.2 1)).bind fun x=>.pure (.next (x,zI .i64 a.2 1)) else .pure (.done a.1)) (x.1,zI .i64 x.2 1)).bind fun a=>.pure (.next (a,zI .i64 x.2 1)) else .pure (.done x.1)) ([],0)).bind fun x=>.pure (x,())
def gl:List A2→Comp A9:=fun x0=>(vZ x0).bind fun y=>(Comp.loop (fun (x:Int)=>if ltI x (zF x0)=true then (Comp.loop (fun (a:Bool×Int)=>if ltI a.2 (zF y.1)=true then (Comp.gd (ntB a.1) (idx x0 x) ((0,0,0,()),0,())).bind fun x=>(Comp.gd (ntB a.1) (idx y.1 a.2) (0,0,0,0,())).bind fun b=>(Comp.gd (ntB a.1) (zg x b) (0,())).bind fun x=>.pure (.next (sel a.1 true (gtI x.1 0),zI .i64 a.2 1)) else .pure (.done a.1)) (false,0)).bind fun a=>if ntB a=true then .pure (.done (Sum.inr false)) else .pure (.next (zI .i64 x 1)) else .pure (.done (Sum.inl ()))) 0).bind fun (x:A32)=>match x with
    |.inl x=>.pure (true,())
    |.inr x=>.pure (x,())
def zu:List A2→Comp A9:=fun x0=>jn (fun (x:Bool)=>.pure (x,())) fun (j:Bool→Comp A9)=>(zb x0).bind fun x=>if eqI x.1 0=true then (gH x0).bind fun y=>(gl y.1).bind fun x=>j x.1 else j false
def j6:List A13→Comp (A8×Unit):=fun x0=>(Comp.loop (fun (x:Int×List A13)=>if sel (ltI x.1 (zF x0)) (ltI x.1 2) false=true then (idx x0 x.1).bind fun a=>(inb 2 x.1).bind fun b=>.pure (.next (zI .i64 x.1 1,jJ x.2 x.1 a)) else .pure (.done x.2)) (0,[[],[]])).bind fun x=>(idx x 0).bind fun a=>(zH (a,0,()) (Int.ofNat 3)).bind fun y=>jn (fun (b:A39)=>(zH b.2 (Int.ofNat 3)).bind fun y_1=>(zH y_1.1.1 (Int.ofNat 3)).bind fun y_2=>(Comp.loop (fun (x:Int×Int×A6×List Int×Int×Unit)=>if ltI x.2.1 (zI .i64 2 y.2.1)=true then (zH x.2.2.2 (Int.ofNat 4)).bind fun y=>(yG (x.1,0,0,()) (zI .i64 x.1 (zI .i64 1 y.2.1),3,zI .i64 2 y_2.2.1,())).bind fun c=>(app x.2.2.1.2.1 [c.1]).bind fun zs=>jn (fun (d:A6)=>.pure (.next (zI .i64 x.1 (zI .i64 1 y.2.1),zI .i64 x.2.1 1,(d.1,d.2.1,d.2.2.1,()),y.1.1))) fun (j:List UInt8×List A3×List Int×Unit→Comp (Comp.Step (Int×Int×A6×List Int×Int×Unit) (A6×List Int×Int×Unit)))=>if b.1=true then (yG (x.1,3,0,()) (zI .i64 x.1 (zI .i64 1 y.2.1),6,zI .i64 2 y_2.2.1,())).bind fun d=>(app zs [d.1]).bind fun zs=>j (x.2.2.1.1,zs,x.2.2.1.2.2.1,()) else j (x.2.2.1.1,zs,x.2.2.1.2.2.1,()) else .pure (.done ((x.2.2.1.1,x.2.2.1.2.1,x.2.2.1.2.2.1,()),x.2.2.2))) (zI .i64 (-6) y_1.2.1,0,([112],[],[],()),y_2.1.1)).bind fun c=>jn (fun (d:A39)=>jn (fun (e:A6)=>(idx x 1).bind fun f=>(Comp.loop (fun (g:Int×A6×List Int×Int×Unit)=>if ltI g.1 (zF g.2.1.2.1)=true then (zH g.2.2 (Int.ofNat 4)).bind fun y=>(idx [2,1,3,2] y.2.1).bind fun x=>(app g.2.1.2.2.1 [x]).bind fun zs=>.pure (.next (zI .i64 g.1 1,(g.2.1.1,g.2.1.2.1,zs,()),y.1.1)) else .pure (.done (g.2.1.1,g.2.1.2.1,g.2.1.2.2.1,()))) (0,(e.1,e.2.1,e.2.2.1,()),f,0,())).bind fun x=>.pure ((x.1,x.2.1,x.2.2.1,()),())) fun (j:List UInt8×List A3×List Int×Unit→Comp (A6×Unit))=>if d.1=true then (zH d.2 (zF c.1.2.1)).bind fun y=>(zH y.1.1 (Int.ofNat 4)).bind fun y_3=>(idx c.1.2.1 y.2.1).bind fun x=>(app [] x).bind fun zs=>(app zs [((0,1,1,()),zI .i64 2 y_3.2.1,())]).bind fun zs=>(idx c.1.2.1 y.2.1).bind fun x=>(app [] x).bind fun zs_1=>(vA ((0,1,1,()),zI .i64 2 y_3.2.1,())).bind fun x=>(app zs_1 [x.1]).bind fun zs_2=>(zu zs).bind fun x=>(Comp.gd x.1 (zu zs_2) (false,())).bind fun e=>jn (fun (x:A8)=>j (x.1,x.2.1,x.2.2.1,())) fun (j:List UInt8×List A3×List Int×Unit→Comp (A6×Unit))=>if sel x.1 e.1 false=true then (inb c.1.2.1.length y.2.1).bind fun x=>(app (jJ c.1.2.1 y.2.1 zs) [zs_2]).bind fun zs=>j (c.1.1,zs,c.1.2.2.1,()) else j (c.1.1,c.1.2.1,c.1.2.2.1,()) else j (c.1.1,c.1.2.1,c.1.2.2.1,())) fun (j:Bool×List Int×Int×Unit→Comp (A6×Unit))=>(zH c.2 (Int.ofNat 4)).bind fun y=>if eqI y.2.1 3=true then j (ltI (zF c.1.2.1) 6,y.1.1) else j (false,y.1.1)) fun (j:Bool×List Int×Int×Unit→Comp (A6×Unit))=>(zH y.1.1 (Int.ofNat 3)).bind fun y_1=>if eqI y_1.2.1 2=true then j (ltI (zI .i64 2 y.2.1) 4,y_1.1.1) else j (false,y_1.1.1)
def kN:yX×List A3×List Int×Unit→Comp (A5×Unit):=fun x0=>(mk (zF x0.2.1) false).bind fun x=>(mk (zF x0.2.1) false).bind fun ys=>.pure ((ys,x,[],()),())
def y8:List A13→yX×List A3×List Int×Unit→Comp A18:=fun x0 x1=>(Comp.loop (fun (x:A23)=>if sel (ltI x.2 (zF x0)) (ltI x.2 4) false=true then (idx x0 x.2).bind fun a=>(zH (a,0,()) (Int.ofNat 4)).bind fun y=>(zH y.1.1 (zF x1.2.1)).bind fun y_1=>(idx x1.2.1 y_1.2.1).bind fun b=>(Vz b).bind fun zs=>jn (fun (c:List A2×List Int×Int×Unit)=>jn (fun (d:A3)=>(app x.1 [d]).bind fun zs=>.pure (.next (zs,zI .i64 x.2 1))) fun (j:List A2→Comp (Comp.Step A23 A16))=>if eqI y.2.1 2=true then (zH c.2 (Int.ofNat 14)).bind fun y=>(zH y.1.1 (Int.ofNat 3)).bind fun y_2=>(zH y_2.1.1 (Int.ofNat 2)).bind fun y_3=>(zH y_3.1.1 (Int.ofNat 6)).bind fun y_4=>(zH y_4.1.1 (Int.ofNat 6)).bind fun y_5=>(zH y_5.1.1 (Int.ofNat 6)).bind fun y_6=>(yG (gX .i64 y.2.1 7,gX .i64 y_2.2.1 1,gX .i64 y_3.2.1 1,()) (zI .i64 (zI .i64 (gX .i64 y.2.1 7) 1) y_4.2.1,zI .i64 (zI .i64 (gX .i64 y_2.2.1 1) 2) y_5.2.1,zI .i64 (zI .i64 (gX .i64 y_3.2.1 1) 2) y_6.2.1,())).bind fun y=>j y.1 else j c.1) fun (j:List A2×List Int×Int×Unit→Comp (Comp.Step A23 A16))=>if eqI y.2.1 1=true then (zH y_1.1.1 (Int.ofNat 2)).bind fun y=>(zH y.1.1 (Int.ofNat 2)).bind fun y_2=>(app zs [((0,0,gX .i64 1 (kI .i64 2 y.2.1),()),kI .i64 (gX .i64 1 (kI .i64 2 y.2.1)) (zI .i64 1 y_2.2.1),())]).bind fun zs=>j (zs,y_2.1.1) else j (zs,y_1.1.1) else .pure (.done x.1)) ([],0)).bind fun x=>.pure (x,())
def zf:List A2→List A2→Comp A9:=fun x0 x1=>(zb x0).bind fun x=>(Comp.gd (ntB (neI x.1 0)) (zb x1) (0,())).bind fun a=>if sel (neI x.1 0) true (neI a.1 0)=true then .pure (true,()) else (app [] x0).bind fun zs=>(app zs x1).bind fun zs=>(gH zs).bind fun y=>(gl y.1).bind fun x=>.pure (ntB x.1,())
def gM:yX×List A3×List Int×Unit→Comp A10:=fun x0=>if sel (ltI (zF x0.2.1) 1) true (gtI (zF x0.2.1) 16)=true then .pure (2,()) else if neI (zF x0.2.2.1) (zF x0.2.1)=true then .pure (1,()) else (Comp.loop (fun (x:Int)=>if ltI x (zF x0.2.2.1)=true then (idx x0.2.2.1 x).bind fun a=>(Comp.gd (ntB (ltI a 1)) (idx x0.2.2.1 x) (Int.ofNat 0)).bind fun b=>if sel (ltI a 1) true (gtI b 3)=true then .pure (.done (Sum.inr 1)) else .pure (.next (zI .i64 x 1)) else .pure (.done (Sum.inl ()))) 0).bind fun (x:A26)=>match x with
     |.inl x=>(Comp.loop (fun (x:Int)=>if ltI x (zF x0.2.1)=true then (idx x0.2.1 x).bind fun a=>(zu a).bind fun b=>if ntB b.1=true then .pure (.done (Sum.inr 13)) else (Comp.loop (fun (c:Int)=>if ltI c x=true then (idx x0.2.1 c).bind fun d=>(idx x0.2.1 x).bind fun x=>(zf d x).bind fun x=>if ntB x.1=true then .pure (.done (Sum.inr 13)) else .pure (.next (zI .i64 c 1)) else .pure (.done (Sum.inl ()))) 0).bind fun (c:A26)=>match c with
             |.inl d=>.pure (.next (zI .i64 x 1))
             |.inr x=>.pure (.done (Sum.inr x)) else .pure (.done (Sum.inl ()))) 0).bind fun (x:A26)=>match x with
       |.inl x=>.pure (0,())
       |.inr x=>.pure (x,())
     |.inr x=>.pure (x,())
def yU:List A3→Comp A10:=fun x0=>(Comp.loop (fun (x:Int)=>if ltI x (zF x0)=true then (idx x0 x).bind fun a=>(zb a).bind fun b=>if neI b.1 0=true then .pure (.done (Sum.inr b.1)) else .pure (.next (zI .i64 x 1)) else .pure (.done (Sum.inl ()))) 0).bind fun (x:A26)=>match x with
   |.inl x=>.pure (0,())
   |.inr x=>.pure (x,())
def gj:yX×List A3×List Int×Unit→List Bool×List Bool×List A3×Unit→Comp A9:=fun x0 x1=>(Comp.gd (sel (sel (eqI (zF x1.1) (zF x0.2.1)) (eqI (zF x1.2.1) (zF x0.2.1)) false) (leI (zF x1.2.2.1) 24) false) (yU x1.2.2.1) (0,())).bind fun x=>.pure (sel (sel (sel (eqI (zF x1.1) (zF x0.2.1)) (eqI (zF x1.2.1) (zF x0.2.1)) false) (leI (zF x1.2.2.1) 24) false) (eqI x.1 0) false,())
def gk:List A3→Comp A18:=fun x0=>(Comp.loop (fun (x:A23)=>if ltI x.2 (zF x0)=true then (idx x0 x.2).bind fun a=>(app [] a).bind fun zs=>(app x.1 [zs]).bind fun zs=>.pure (.next (zs,zI .i64 x.2 1)) else .pure (.done x.1)) ([],0)).bind fun x=>.pure (x,())
def yk:List A2→List A3→Comp A9:=fun x0 x1=>(Comp.loop (fun (x:Int)=>if ltI x (zF x1)=true then (idx x1 x).bind fun a=>(zf x0 a).bind fun b=>if ntB b.1=true then .pure (.done (Sum.inr false)) else .pure (.next (zI .i64 x 1)) else .pure (.done (Sum.inl ()))) 0).bind fun (x:A32)=>match x with
   |.inl x=>.pure (true,())
   |.inr x=>.pure (x,())
def vQ:List A3→List A2→Comp A18:=fun x0 x1=>(Comp.loop (fun (x:A23)=>if ltI x.2 (zF x0)=true then (idx x0 x.2).bind fun a=>(zf a x1).bind fun b=>jn (fun (c:A16)=>.pure (.next (c,zI .i64 x.2 1))) fun (j:List A3→Comp (Comp.Step A23 A16))=>if ntB b.1=true then (idx x0 x.2).bind fun c=>(app x.1 [c]).bind fun zs=>j zs else j x.1 else .pure (.done x.1)) ([],0)).bind fun x=>.pure (x,())
def jg:List A3→Comp A10:=fun x0=>if gtI (zF x0) 16=true then .pure (2,()) else (Comp.loop (fun (x:Int)=>if ltI x (zF x0)=true then (idx x0 x).bind fun a=>(zb a).bind fun b=>if neI b.1 0=true then .pure (.done (Sum.inr b.1)) else .pure (.next (zI .i64 x 1)) else .pure (.done (Sum.inl ()))) 0).bind fun (x:A26)=>match x with
    |.inl x=>.pure (0,())
    |.inr x=>.pure (x,())
def jE:List A2→Comp A41:=fun x0=>(zb x0).bind fun x=>if neI x.1 0=true then .pure ([],()) else (gH x0).bind fun y=>(vZ y.1).bind fun y=>.pure (y.1,())
def yu:A1×Int×Unit→A1×Int×Unit→Comp A10:=fun x0 x1=>(Comp.loop (fun (x:Int)=>if ltI x 4=true then (idx [x0.1.1,x0.1.2.1,x0.1.2.2.1,x0.2.1] x).bind fun a=>(idx [x1.1.1,x1.1.2.1,x1.1.2.2.1,x1.2.1] x).bind fun b=>if ltI a b=true then .pure (.done (Sum.inr (-1))) else (idx [x0.1.1,x0.1.2.1,x0.1.2.2.1,x0.2.1] x).bind fun c=>(idx [x1.1.1,x1.1.2.1,x1.1.2.2.1,x1.2.1] x).bind fun d=>if gtI c d=true then .pure (.done (Sum.inr 1)) else .pure (.next (zI .i64 x 1)) else .pure (.done (Sum.inl ()))) 0).bind fun (x:A26)=>match x with
   |.inl x=>.pure (0,())
   |.inr x=>.pure (x,())
def jL:List A2→A1×Int×Unit→Comp A12:=fun x0 x1=>(Comp.loop (fun (x:Int)=>(Comp.gd (ltI x (zF x0)) (idx x0 x) ((0,0,0,()),0,())).bind fun a=>(Comp.gd (ltI x (zF x0)) (yu a x1) (0,())).bind fun b=>if sel (ltI x (zF x0)) (ltI b.1 0) false=true then .pure (.next (zI .i64 x 1)) else .pure (.done x)) 0).bind fun x=>(Comp.gd (ltI x (zF x0)) (idx x0 x) ((0,0,0,()),0,())).bind fun a=>if sel (ltI x (zF x0)) (adB (adB (eqI a.1.1 x1.1.1) (adB (eqI a.1.2.1 x1.1.2.1) (eqI a.1.2.2.1 x1.1.2.2.1))) (eqI a.2.1 x1.2.1)) false=true then .pure (x0,()) else (sub x0 0 x).bind fun b=>(app [] b).bind fun zs=>(app zs [x1]).bind fun zs=>(sub x0 x (zF x0)).bind fun x=>(app zs x).bind fun zs=>.pure (zs,())
def zm:List A2→Comp A12:=fun x0=>(zu x0).bind fun x=>if ntB x.1=true then .pure ([],()) else (jE x0).bind fun y=>(Comp.loop (fun (a:A33)=>if ltI a.2 (zF x0)=true then (Comp.loop (fun (b:A27)=>if ltI b.2 (zF y.1)=true then (idx x0 a.2).bind fun x=>(idx y.1 b.2).bind fun c=>(zg x c).bind fun x=>jn (fun (x:Int)=>.pure (.next (x,zI .i64 b.2 1))) fun (j:Int→Comp (Comp.Step A27 Int))=>if eqI x.1 0=true then j (zI .i64 b.1 1) else j b.1 else .pure (.done b.1)) (0,0)).bind fun x=>jn (fun (x:A3)=>.pure (.next (x,zI .i64 a.2 1))) fun (j:List A2→Comp (Comp.Step A33 A3))=>if geI x 3=true then (idx x0 a.2).bind fun x=>(jL a.1 x).bind fun x=>j x.1 else j a.1 else .pure (.done a.1)) ([],0)).bind fun x=>.pure (x,())
def yJ:List A2→A1×Int×Unit→Comp A12:=fun x0 x1=>(app [] x0).bind fun zs=>(app zs [x1]).bind fun zs=>.pure (zs,())
def gN:List A2→List A2→Comp A19:=fun x0 x1=>(Comp.loop (fun (x:List A3×List A2×Int)=>if ltI x.2.2 (zF x1)=true then if geI (zF x.2.1) 48=true then .pure (.done (Sum.inr ([],9))) else (idx x1 x.2.2).bind fun a=>(vA a).bind fun b=>(yJ x.2.1 b.1).bind fun y=>(zm y.1).bind fun c=>jn (fun (d:A16)=>(idx x1 x.2.2).bind fun e=>(yJ x.2.1 e).bind fun y=>(zm y.1).bind fun f=>.pure (.next (d,f.1,zI .i64 x.2.2 1))) fun (j:List A3→Comp (Comp.Step (List A3×List A2×Int) A38))=>if gtI (zF c.1) 0=true then (app x.1 [c.1]).bind fun zs=>j zs else j x.1 else .pure (.done (Sum.inl x.1))) ([],x0,0)).bind fun (x:A38)=>match x with
   |.inl x=>.pure (x,0,())
   |.inr x=>.pure (x.1,x.2,())
def yr:List A3→List A2→Comp A19:=fun x0 x1=>(zu x1).bind fun x=>if ntB x.1=true then .pure (x0,0,()) else (Comp.loop (fun (x:A23)=>if ltI x.2 (zF x0)=true then jn (fun (a:A16)=>.pure (.next (a,zI .i64 x.2 1))) fun (j:List A3→Comp (Comp.Step A23 A38))=>(idx x0 x.2).bind fun a=>(zf a x1).bind fun b=>if b.1=true then (idx x0 x.2).bind fun c=>(app x.1 [c]).bind fun zs=>j zs else (idx x0 x.2).bind fun c=>(zm x1).bind fun d=>(gN c d.1).bind fun e=>if neI e.2.1 0=true then .pure (.done (Sum.inr ([],e.2.1))) else (app x.1 e.1).bind fun zs=>j zs else .pure (.done (Sum.inl x.1))) ([],0)).bind fun (a:A38)=>match a with
     |.inl b=>if gtI (zF b) 200=true then .pure ([],9,()) else .pure (b,0,())
     |.inr x=>.pure (x.1,x.2,())
def jf:List A2→List A3→Comp A19:=fun x0 x1=>(zb x0).bind fun x=>jn (fun (x:Int)=>if neI x 0=true then .pure ([],x,()) else (zu x0).bind fun x=>jn (fun (x:A16)=>(Comp.loop (fun (x:A23)=>if ltI x.2 (zF x1)=true then (idx x1 x.2).bind fun a=>(yr x.1 a).bind fun b=>if neI b.2.1 0=true then .pure (.done (Sum.inr ([],b.2.1))) else .pure (.next (b.1,zI .i64 x.2 1)) else .pure (.done (Sum.inl x.1))) (x,0)).bind fun (x:A38)=>match x with
          |.inl x=>.pure (x,0,())
          |.inr x=>.pure (x.1,x.2,())) fun (j:List A3→Comp A19)=>if x.1=true then (zm x0).bind fun x=>(app [] [x.1]).bind fun zs=>j zs else j []) fun (j:Int→Comp A19)=>if eqI x.1 0=true then (jg x1).bind fun x=>j x.1 else j x.1
def y7:List A3→List A2→Comp A42:=fun x0 x1=>(jf x1 x0).bind fun x=>.pure (sel (eqI x.2.1 0) (eqI (zF x.1) 0) false,x.2.1,())
def je:yX×List A3×List Int×Unit→List Bool×List Bool×List A3×Unit→List A3→List A3→Comp (A5×Int×Unit):=fun x0 x1 x2 x3=>(gM x0).bind fun x=>if neI x.1 0=true then .pure (([],[],[],()),x.1,()) else (gj x0 x1).bind fun x=>if ntB x.1=true then .pure (([],[],[],()),4,()) else (yU x2).bind fun x=>jn (fun (x:Int)=>if neI x 0=true then .pure (([],[],[],()),x,()) else if gtI (zI .i64 (zF x1.2.2.1) (zF x2)) 24=true then .pure (([],[],[],()),2,()) else (gk x1.2.2.1).bind fun y=>(gk x2).bind fun y_1=>(app y.1 y_1.1).bind fun zs=>(Comp.loop (fun (x:Int×A5×List Bool×List Bool×List A3×Unit)=>if ltI x.1 (zF x0.2.1)=true then (idx x0.2.1 x.1).bind fun a=>(idx x1.2.1 x.1).bind fun b=>(Comp.gd (ntB b) (yk a x2) (false,())).bind fun c=>(Comp.gd (ntB (sel b true (ntB c.1))) (yk a x3) (false,())).bind fun d=>(app x.2.2.2.1 [sel (sel b true (ntB c.1)) true (ntB d.1)]).bind fun zs=>(idx x1.1 x.1).bind fun e=>jn (fun (f:Bool×List Bool×List Bool×List A3×Unit)=>(app x.2.2.1 [f.1]).bind fun zs_1=>.pure (.next (zI .i64 x.1 1,f.2,zs_1,zs,x.2.2.2.2.1,()))) fun (j:Bool×List Bool×List Bool×List A3×Unit→Comp (Comp.Step (Int×A5×List Bool×List Bool×List A3×Unit) A43))=>if ntB e=true then (vQ x.2.2.2.2.1 a).bind fun y=>(y7 y.1 a).bind fun f=>if neI f.2.1 0=true then .pure (.done (Sum.inr (f.2.1,[],[],[],()))) else j (f.1,x.2.1) else j (e,x.2.1) else .pure (.done (Sum.inl (x.2.1,x.2.2.1,x.2.2.2.1,x.2.2.2.2.1,())))) (0,([],[],[],()),[],[],zs,())).bind fun (x:A5×List Bool×List Bool×List A3×Unit⊕Int×List Bool×List Bool×List A3×Unit)=>match x with
               |.inl x=>.pure ((x.2.1,x.2.2.1,x.2.2.2.1,()),0,())
               |.inr x=>.pure (x.2,x.1,())) fun (j:Int→Comp (A5×Int×Unit))=>if eqI x.1 0=true then (yU x3).bind fun x=>j x.1 else j x.1
def y6:yX×List A3×List Int×Unit→List Int→Int→Comp (A4×Unit):=fun x0 x1 x2=>(zH (x1,0,()) (Int.ofNat 6)).bind fun y=>jn (fun (x:A39)=>jn (fun (a:A4)=>(zH x.2 (Int.ofNat 5)).bind fun y=>(Comp.loop (fun (x:Int×A4×List Int×Int×Unit)=>if ltI x.1 (zF x0.2.1)=true then (zH x.2.2 (Int.ofNat 2)).bind fun y_1=>(idx x0.2.2.1 x.1).bind fun b=>jn (fun (c:A39)=>jn (fun (d:List A3×List A3×Int×List Int×Unit)=>.pure (.next (zI .i64 x.1 1,(d.1,d.2.1,d.2.2.1,d.2.2.2.1,()),c.2))) fun (j:List A3×List A3×Int×List Int×Unit→Comp (Comp.Step (Int×A4×List Int×Int×Unit) A4))=>if c.1=true then (idx x0.2.1 x.1).bind fun d=>(app [] d).bind fun zs=>(app x.2.1.1 [zs]).bind fun zs=>j (zs,x.2.1.2.1,x.2.1.2.2.1,x.2.1.2.2.2.1,()) else j (x.2.1.1,x.2.1.2.1,x.2.1.2.2.1,x.2.1.2.2.2.1,())) fun (j:Bool×List Int×Int×Unit→Comp (Comp.Step (Int×A4×List Int×Int×Unit) A4))=>if eqI b 1=true then jn (fun (x:A39)=>j (x.1,x.2)) fun (j:Bool×List Int×Int×Unit→Comp (Comp.Step (Int×A4×List Int×Int×Unit) A4))=>if eqI y.2.1 4=true then (zH y_1.1.1 (Int.ofNat 3)).bind fun y=>j (eqI y.2.1 2,y.1.1) else j (false,y_1.1.1) else j (eqI y_1.2.1 1,y_1.1.1) else .pure (.done (x.2.1.1,x.2.1.2.1,x.2.1.2.2.1,x.2.1.2.2.2.1,()))) (0,(a.1,a.2.1,a.2.2.1,a.2.2.2.1,()),y.1.1)).bind fun x=>jn (fun (x:List A3×List A3×Int×List Int×Unit)=>jn (fun (x:List A3×List A3×Int×List Int×Unit)=>.pure ((x.1,x.2.1,x.2.2.1,x.2.2.2.1,()),())) fun (j:List A3×List A3×Int×List Int×Unit→Comp (A4×Unit))=>if eqI y.2.1 2=true then (sub x1 (Gy (zF x1) 5) (zF x1)).bind fun b=>(y8 [b] x0).bind fun y=>j (x.1,y.1,x.2.2.1,x.2.2.2.1,()) else j (x.1,x.2.1,x.2.2.1,x.2.2.2.1,())) fun (j:List A3×List A3×Int×List Int×Unit→Comp (A4×Unit))=>if eqI y.2.1 3=true then (sub x1 (Gy (zF x1) 4) (zF x1)).bind fun b=>(y8 [b] x0).bind fun c=>(app x.1 c.1).bind fun zs=>j (zs,x.2.1,x.2.2.1,x.2.2.2.1,()) else j (x.1,x.2.1,x.2.2.1,x.2.2.2.1,())) fun (j:List A3×List A3×Int×List Int×Unit→Comp (A4×Unit))=>if x.1=true then j ([],[],zI .i64 1 y.2.1,[gX .i64 x2 1],()) else j ([],[],zI .i64 1 y.2.1,[],())) fun (j:Bool×List Int×Int×Unit→Comp (A4×Unit))=>if gtI x2 0=true then (zH y.1.1 (Int.ofNat 5)).bind fun y=>j (eqI y.2.1 4,y.1.1) else j (false,y.1.1)
def jU:List Int→Comp A9:=fun x0=>(Comp.loop (fun (x:Int)=>if ltI x (zF x0)=true then (idx x0 x).bind fun a=>(idx x0 (gX .i64 x 1)).bind fun b=>if leI a b=true then .pure (.done (Sum.inr false)) else .pure (.next (zI .i64 x 1)) else .pure (.done (Sum.inl ()))) 1).bind fun (x:A32)=>match x with
   |.inl x=>.pure (true,())
   |.inr x=>.pure (x,())
def vt:List A4→Int→Comp A10:=fun x0 x1=>(idx x0 x1).bind fun x=>(app [] x.1).bind fun zs=>(app zs x.2.1).bind fun zs_1=>(Comp.loop (fun (a:Int)=>if ltI a (zF zs_1)=true then (idx zs_1 a).bind fun x=>(zb x).bind fun x=>if neI x.1 0=true then .pure (.done (Sum.inr x.1)) else .pure (.next (zI .i64 a 1)) else .pure (.done (Sum.inl ()))) 0).bind fun (a:A26)=>match a with
      |.inl b=>if sel (ltI x.2.2.1 1) true (gtI x.2.2.1 1048576)=true then .pure (3,()) else (Comp.loop (fun (c:Int)=>if ltI c (zF x.2.2.2.1)=true then (idx x.2.2.2.1 c).bind fun d=>(Comp.gd (ntB (ltI d 0)) (idx x.2.2.2.1 c) (Int.ofNat 0)).bind fun e=>(Comp.gd (ntB (sel (ltI d 0) true (geI e (zF x0)))) (idx x.2.2.2.1 c) (Int.ofNat 0)).bind fun f=>if sel (sel (ltI d 0) true (geI e (zF x0))) true (eqI f x1)=true then .pure (.done (Sum.inr 3)) else .pure (.next (zI .i64 c 1)) else .pure (.done (Sum.inl ()))) 0).bind fun (c:A26)=>match c with
         |.inl d=>(jU x.2.2.2.1).bind fun x=>if ntB x.1=true then .pure (7,()) else .pure (0,())
         |.inr x=>.pure (x,())
      |.inr x=>.pure (x,())
def gL:A8×A5×List A4×Unit→Comp A10:=fun x0=>(gM x0.1).bind fun x=>if neI x.1 0=true then .pure (x.1,()) else (gj x0.1 x0.2.1).bind fun x=>if ntB x.1=true then .pure (4,()) else if gtI (zF x0.2.2.1) 8=true then .pure (2,()) else (Comp.loop (fun (x:A27)=>if ltI x.2 (zF x0.2.2.1)=true then (vt x0.2.2.1 x.2).bind fun a=>if neI a.1 0=true then .pure (.done (Sum.inr a.1)) else (idx x0.2.2.1 x.2).bind fun b=>.pure (.next (zI .i64 x.1 (zF b.1),zI .i64 x.2 1)) else .pure (.done (Sum.inl x.1))) (zF x0.2.1.2.2.1,0)).bind fun (x:Int⊕Int)=>match x with
        |.inl x=>if gtI x 24=true then .pure (2,()) else .pure (0,())
        |.inr x=>.pure (x,())
def j5:List A13→Comp (A17×Unit):=fun x0=>(sub x0 0 (Gy (zF x0) 2)).bind fun x=>(j6 x).bind fun a=>(kN a.1).bind fun b=>jn (fun (c:A6×A5×List A4×Unit)=>(Comp.loop (fun (x:Int×A6×A5×List A4×Unit)=>if sel (ltI x.1 (zF x0)) (ltI x.1 7) false=true then (idx x0 x.1).bind fun d=>(y6 a.1 d (gX .i64 x.1 3)).bind fun e=>(app x.2.2.2.1 [e.1]).bind fun zs=>.pure (.next (zI .i64 x.1 1,x.2.1,x.2.2.1,zs,())) else .pure (.done (x.2.1,x.2.2.1,x.2.2.2.1,()))) (3,c.1,c.2.1,c.2.2.1,())).bind fun d=>jn (fun (e:A6×A5×List A4×Unit)=>(Comp.loop (fun (f:A6×A5×List A4×Unit)=>(Comp.gd (gtI (zF f.2.2.1) 1) (gL (f.1,f.2.1,f.2.2.1,())) (0,())).bind fun g=>if sel (gtI (zF f.2.2.1) 1) (eqI g.1 2) false=true then jn (fun (x:A6×A5×List A4×Unit)=>.pure (.next (x.1,x.2.1,x.2.2.1,()))) fun (j:A6×A5×List A4×Unit→Comp (Comp.Step A14 A14))=>(sub f.2.2.1 0 (gX .i64 (zF f.2.2.1) 1)).bind fun ys=>j (f.1,f.2.1,ys,()) else .pure (.done (f.1,f.2.1,f.2.2.1,()))) (e.1,e.2.1,e.2.2.1,())).bind fun x=>.pure ((x.1,x.2.1,x.2.2.1,()),())) fun (j:A6×A5×List A4×Unit→Comp (A14×Unit))=>if eqI (zF d.2.2.1) 0=true then (y6 a.1 [] (Int.ofNat 0)).bind fun x=>(app d.2.2.1 [x.1]).bind fun zs=>j (d.1,d.2.1,zs,()) else j (d.1,d.2.1,d.2.2.1,())) fun (j:A6×A5×List A4×Unit→Comp (A14×Unit))=>if gtI (zF x0) 2=true then (idx x0 2).bind fun x=>(zH (x,0,()) (Int.ofNat 3)).bind fun y=>jn (fun (x:A6×A5×List A4×Unit)=>j (x.1,x.2.1,x.2.2.1,())) fun (j:A6×A5×List A4×Unit→Comp (A14×Unit))=>if eqI y.2.1 2=true then (idx x0 2).bind fun x=>(idx x0 2).bind fun c=>(sub x (Gy (zF c) 1) (zF x)).bind fun x=>(y8 [x] a.1).bind fun x=>(je a.1 b.1 x.1 []).bind fun x=>jn (fun (x:A6×A5×List A4×Unit)=>j (x.1,x.2.1,x.2.2.1,())) fun (j:A6×A5×List A4×Unit→Comp (A14×Unit))=>if eqI x.2.1 0=true then j (a.1,x.1,[],()) else j (a.1,b.1,[],()) else j (a.1,b.1,[],()) else j (a.1,b.1,[],())
def jd:A8×A5×List A4×Unit→List Int→Comp A22:=fun x0 x1=>(Comp.loop (fun (x:List Int×Int×List Int×Int×Unit)=>if ltI x.2.1 (zF x0.1.2.2.1)=true then (zH x.2.2 (Int.ofNat 6)).bind fun y=>(idx x0.1.2.2.1 x.2.1).bind fun a=>jn (fun (b:Int)=>(app x.1 [b]).bind fun zs=>.pure (.next (zs,zI .i64 x.2.1 1,y.1.1))) fun (j:Int→Comp (Comp.Step (List Int×Int×List Int×Int×Unit) A13))=>if sel (gtI y.2.1 0) (ltI y.2.1 4) false=true then j y.2.1 else j a else .pure (.done x.1)) ([],0,x1,0,())).bind fun x=>.pure (x,())
def j4:A8×A5×List A4×Unit→List Int→Comp A22:=fun x0 x1=>(Comp.loop (fun (x:A40)=>if sel (ltI x.2 (zF x1)) (ltI x.2 4) false=true then (idx x1 x.2).bind fun a=>(jM a (zF x0.2.2.1)).bind fun b=>(Comp.loop (fun (c:Bool×Int)=>if ltI c.2 (zF x.1)=true then (Comp.gd (ntB c.1) (idx x.1 c.2) (Int.ofNat 0)).bind fun x=>.pure (.next (sel c.1 true (eqI x b.1),zI .i64 c.2 1)) else .pure (.done c.1)) (false,0)).bind fun c=>jn (fun (d:A13)=>.pure (.next (d,zI .i64 x.2 1))) fun (j:List Int→Comp (Comp.Step A40 A13))=>if ntB c=true then (app x.1 [b.1]).bind fun zs=>j zs else j x.1 else .pure (.done x.1)) ([],0)).bind fun x=>.pure (x,())
def vz:List A13×List Int×List Int×Unit→Comp (A17×List Int×List Int×Unit):=fun x0=>(sub x0.1 0 (Gy (zF x0.1) 7)).bind fun x=>(j5 x).bind fun y=>(jd (y.1.1,y.1.2.1,y.1.2.2.1,()) x0.2.1).bind fun y_1=>(j4 (y.1.1,y.1.2.1,y.1.2.2.1,()) x0.2.2.1).bind fun y_2=>.pure ((y.1.1,y.1.2.1,y.1.2.2.1,()),y_1.1,y_2.1,())
def vp:List A2→List A3→Comp A9:=fun x0 x1=>(yA x0 x1).bind fun x=>.pure (ntB x.1,())
def XY:A8×A5×List A4×Unit→Comp ((A17×List Bool×Unit)×Unit):=fun x0=>(Comp.loop (fun (x:Int×List A3)=>if ltI x.1 (zF x0.1.2.1)=true then (idx x0.1.2.1 x.1).bind fun a=>(idx x0.1.2.2.1 x.1).bind fun b=>jn (fun (c:A16)=>.pure (.next (zI .i64 x.1 1,c))) fun (j:List A3→Comp (Comp.Step (Int×List A3) A16))=>if eqI b 1=true then (app x.2 [a]).bind fun zs=>j zs else j x.2 else .pure (.done x.2)) (0,[])).bind fun x=>(Comp.loop (fun (a:Int×A14×List Bool×Unit)=>if ltI a.1 (zF x0.2.2.1)=true then (idx x0.2.2.1 a.1).bind fun b=>(zK b.1 fun (z:A12)=>vp z.1 x).bind fun c=>(Comp.gd (ntB c.1) (zK b.2.1 fun (z:A12)=>vp z.1 x) (false,())).bind fun x=>(inb 8 a.1).bind fun d=>.pure (.next (zI .i64 a.1 1,a.2.1,jJ a.2.2.1 a.1 (sel c.1 true x.1),())) else .pure (.done a.2)) (0,x0,[false,false,false,false,false,false,false,false],())).bind fun x=>.pure (x,())
def vo:List Bool→Comp A22:=fun x0=>(Comp.loop (fun (x:A40)=>if ltI x.2 8=true then (idx x0 x.2).bind fun a=>jn (fun (b:A13)=>.pure (.next (b,zI .i64 x.2 1))) fun (j:List Int→Comp (Comp.Step A40 A13))=>if a=true then (app x.1 [x.2]).bind fun zs=>j zs else j x.1 else .pure (.done x.1)) ([],0)).bind fun x=>.pure (x,())
def gK:Int→List Bool→Comp A9:=fun x0 x1=>(idx x1 x0).bind fun x=>.pure (ntB x,())
def jx:A17×List Bool×Unit→List Bool→Comp (List Bool×Unit):=fun x0 x1=>(Comp.loop (fun (x:Int×List Bool)=>if ltI x.1 (zF x0.1.2.2.1)=true then (idx x1 x.1).bind fun a=>(Comp.gd (ntB a) (idx x0.2.1 x.1) false).bind fun b=>(inb 8 x.1).bind fun c=>.pure (.next (zI .i64 x.1 1,jJ x.2 x.1 (sel (ntB a) (ntB b) false))) else .pure (.done x.2)) (0,[false,false,false,false,false,false,false,false])).bind fun x=>(Comp.loop (fun (a:List Bool×List Bool)=>if ntB (eqA (fun (x b:Bool)=>eqB x b) a.1 a.2)=true then (vo a.2).bind fun y=>(Comp.loop (fun (b:Int×List Bool)=>if ltI b.1 (zF y.1)=true then (idx y.1 b.1).bind fun x=>(idx x0.1.2.2.1 x).bind fun c=>(zR c.2.2.2.1 fun (z:A10)=>gK z.1 b.2).bind fun d=>(inb 8 x).bind fun e=>.pure (.next (zI .i64 b.1 1,jJ b.2 x (ntB d.1))) else .pure (.done b.2)) (0,a.2)).bind fun x=>.pure (.next (a.2,x)) else .pure (.done a.2)) ([false,false,false,false,false,false,false,false],x)).bind fun x=>.pure (x,())
def jc:A17×List Bool×Unit→List Bool→Comp A9:=fun x0 x1=>(Comp.loop (fun (x:Int×List Bool)=>if ltI x.1 (zF x0.1.2.2.1)=true then (idx x1 x.1).bind fun a=>(inb 8 x.1).bind fun b=>.pure (.next (zI .i64 x.1 1,jJ x.2 x.1 (ntB a))) else .pure (.done x.2)) (0,[false,false,false,false,false,false,false,false])).bind fun x=>(jx x0 x).bind fun x=>.pure (eqA (fun (x a:Bool)=>eqB x a) x.1 x1,())
def zh:List A3→Comp A18:=fun x0=>amb (Kt x0) (Comp.pure ([],())) ((app [] x0).bind fun zs=>.pure (zs,()))
def yT:List A2→List A2→Comp A9:=fun x0 x1=>(j3 x0 x1).bind fun x=>.pure (x.1,())
def zl:List A3→A36→Comp A16:=fun xs x0=>(yI xs x0).bind fun x=>if eqI x.1 (-1)=true then .pure xs else (Comp.loop (fun (x:List A3×Int×Int)=>if ltI x.2.2 (zF x.1)=true then (idx x.1 x.2.2).bind fun a=>(x0 (a,())).bind fun b=>jn (fun (c:A23)=>.pure (.next (c.1,c.2,zI .i64 x.2.2 1))) fun (j:List A3×Int→Comp (Comp.Step (List A3×Int×Int) A23))=>if ntB b.1=true then (inb x.1.length x.2.1).bind fun c=>j (jJ x.1 x.2.1 a,zI .i64 x.2.1 1) else j (x.1,x.2.1) else .pure (.done (x.1,x.2.1))) (xs,x.1,zI .i64 x.1 1)).bind fun x=>((sub x.1 x.2 (zF x.1)).bind fun x=>.pure ()).bind fun a=>(sub x.1 (Int.ofNat x.2.toNat) (zF x.1)).bind fun b=>jn (fun (x:A16)=>.pure x) fun (j:List A3→Comp A16)=>(sub (List.take x.2.toNat x.1++List.replicate (x.1.length.sub x.2.toNat) []) 0 x.2).bind fun ys=>j ys
def vr:A17×List Bool×Unit→List Bool→Comp A42:=fun x0 x1=>(zh x0.1.2.1.2.2.1).bind fun y=>(vo x1).bind fun y_1=>(Comp.loop (fun (x:A23)=>if ltI x.2 (zF y_1.1)=true then (idx y_1.1 x.2).bind fun a=>(idx x0.1.2.2.1 a).bind fun b=>(app x.1 b.1).bind fun zs=>.pure (.next (zs,zI .i64 x.2 1)) else .pure (.done x.1)) (y.1,0)).bind fun x=>(Comp.loop (fun (a:Int)=>if ltI a (zF x0.1.1.2.1)=true then jn (fun (x:Unit)=>.pure (.next (zI .i64 a 1))) fun (j:Unit→Comp (Comp.Step Int (Unit⊕Bool×Int)))=>(idx x0.1.1.2.1 a).bind fun b=>(idx x0.1.1.2.2.1 a).bind fun c=>(Comp.gd (ntB (neI c 2)) (idx x0.1.2.1.1 a) false).bind fun d=>if sel (neI c 2) true d=true then j () else (zh x).bind fun y=>(zl y.1 fun (z:A12)=>yT z.1 b).bind fun ys=>(gP ys b).bind fun x=>if ntB x.1=true then .pure (.done (Sum.inr (false,x.2.1))) else j () else .pure (.done (Sum.inl ()))) 0).bind fun (x:Unit⊕Bool×Int)=>match x with
      |.inl x=>.pure (true,0,())
      |.inr x=>.pure (x.1,x.2,())
def gw:A17×List Bool×Unit→List Bool→Comp A10:=fun x0 x1=>(vo x1).bind fun y=>(Comp.loop (fun (x:A27)=>if ltI x.2 (zF y.1)=true then (idx y.1 x.2).bind fun a=>(idx x0.1.2.2.1 a).bind fun b=>.pure (.next (zI .i64 x.1 b.2.2.1,zI .i64 x.2 1)) else .pure (.done x.1)) (0,0)).bind fun x=>.pure (x,())
def YY (recF:Int→List Bool→A17×List Bool×Unit→Int→List Bool→Comp (Sum Int (Int×List Bool×Unit))):Int→List Bool→A17×List Bool×Unit→Int→List Bool→Comp (Sum Int (Int×List Bool×Unit)):=fun x0 x1 c0 y0 y1=>(jc c0 x1).bind fun x=>jn (fun (x:Int×List Bool)=>(Comp.loop (fun (x:Int×Int×List Bool)=>if ltI x.1 (zF c0.1.2.2.1)=true then (inb 8 x.1).bind fun a=>(recF (zI .i64 x.1 1) (jJ x1 x.1 true) c0 x.2.1 x.2.2).bind fun (r:Int⊕Int×List Bool×Unit)=>match r with
          |.inl z=>.pure (.done (Sum.inr z))
          |.inr y=>.pure (.next (zI .i64 x.1 1,y.1,y.2.1)) else .pure (.done (Sum.inl (x.2.1,x.2.2)))) (x0,x.1,x.2)).bind fun (x:Int×List Bool⊕Int)=>match x with
      |.inl x=>.pure (Sum.inr (x.1,x.2,()))
      |.inr x=>.pure (Sum.inl x)) fun (j:Int×List Bool→Comp (Int⊕Int×List Bool×Unit))=>if x.1=true then (vr c0 x1).bind fun x=>if neI x.2.1 0=true then .pure (Sum.inl x.2.1) else (gw c0 x1).bind fun a=>jn (fun (x:Int×List Bool)=>j (x.1,x.2)) fun (j:Int×List Bool→Comp (Int⊕Int×List Bool×Unit))=>if sel x.1 (sel (ltI y0 0) true (ltI a.1 y0)) false=true then j (a.1,x1) else j (y0,y1) else j (y0,y1)
def YF:Nat→Int→List Bool→A17×List Bool×Unit→Int→List Bool→Comp (Sum Int (Int×List Bool×Unit)):=WY (fun _ _ _ _ _=>Comp.fail) YY
def jK:A17×List Bool×Unit→List Bool→List Bool→Comp A9:=fun x0 x1 x2=>(jx x0 x2).bind fun x=>(vo x1).bind fun y=>(Comp.loop (fun (a:Int)=>if ltI a (zF y.1)=true then (idx y.1 a).bind fun b=>(idx x.1 b).bind fun c=>if ntB c=true then .pure (.done (Sum.inr true)) else .pure (.next (zI .i64 a 1)) else .pure (.done (Sum.inl ()))) 0).bind fun (a:A32)=>match a with
     |.inl b=>(vr x0 x.1).bind fun x=>.pure (sel (eqI x.2.1 0) (ntB x.1) false,())
     |.inr x=>.pure (x,())
def kD (recF:Int→List Bool→List Bool→Int→A17×List Bool×Unit→List A15→Comp (Sum Unit (List A15×Unit))):Int→List Bool→List Bool→Int→A17×List Bool×Unit→List A15→Comp (Sum Unit (List A15×Unit)):=fun x0 x1 x2 c0 c1 y0=>(Comp.gd (gtI c0 0) (gw c1 x1) (0,())).bind fun x=>jn (fun (x:List A15)=>.pure (Sum.inr (x,()))) fun (j:List A15→Comp (Unit⊕List A15×Unit))=>if sel (gtI c0 0) (geI x.1 c0) false=true then (app y0 [(2,0,())]).bind fun zs=>j zs else (Comp.gd (ntB (geI x0 (zF c1.1.2.2.1))) (jK c1 x1 x2) (false,())).bind fun x=>jn (fun (x:List A15)=>j x) fun (j:List A15→Comp (Unit⊕List A15×Unit))=>if sel (geI x0 (zF c1.1.2.2.1)) true x.1=true then (app y0 [(3,0,())]).bind fun zs=>j zs else (app y0 [(1,x0,())]).bind fun zs=>(inb 8 x0).bind fun x=>(inb 8 x0).bind fun x=>(recF (zI .i64 x0 1) (jJ x1 x0 true) x2 c0 c1 zs).bind fun (r:Unit⊕List A15×Unit)=>match r with
            |.inl z=>.pure (Sum.inl z)
            |.inr y=>(recF (zI .i64 x0 1) x1 (jJ x2 x0 true) c0 c1 y.1).bind fun (r:Unit⊕List A15×Unit)=>match r with
              |.inl z=>.pure (Sum.inl z)
              |.inr y=>j y.1
def ja:Nat→Int→List Bool→List Bool→Int→A17×List Bool×Unit→List A15→Comp (Sum Unit (List A15×Unit)):=WY (fun _ _ _ _ _ _=>Comp.fail) kD
def jw:A17×List Bool×Unit→Int→Comp (List A15×Unit):=fun x0 x1=>(ja 40 0 [false,false,false,false,false,false,false,false] [false,false,false,false,false,false,false,false] x1 x0 []).bind fun (r:Unit⊕List A15×Unit)=>match r with
   |.inl z=>Comp.fail
   |.inr y=>.pure (y.1,())
def JU:A8×A5×List A4×Unit→Comp A24:=fun x0=>(Yb x0).bind fun x=>if neI x.1 0=true then .pure ([],0,[],x.1,()) else (XY x0).bind fun (x:(A14×List Bool×Unit)×Unit)=>(YF 40 0 [false,false,false,false,false,false,false,false] x.1 (Int.negSucc 0) [false,false,false,false,false,false,false,false]).bind fun (r:Int⊕Int×List Bool×Unit)=>match r with
      |.inl z=>jn (fun (x:A44)=>.pure (x.1,x.2.1,x.2.2.1,x.2.2.2,())) fun (j:A35)=>j ([],0,[],z)
      |.inr y=>if eqI y.1 (-1)=true then (jw x.1 (Int.ofNat 0)).bind fun y=>jn (fun (x:A44)=>.pure (x.1,x.2.1,x.2.2.1,x.2.2.2,())) fun (j:A35)=>j ([],0,y.1,Int.ofNat 60) else if eqI y.1 0=true then jn (fun (x:A44)=>.pure (x.1,x.2.1,x.2.2.1,x.2.2.2,())) fun (j:A35)=>j ([],0,[],Int.ofNat 0) else (vo y.2.1).bind fun y_1=>(jw x.1 y.1).bind fun y_2=>jn (fun (x:A44)=>.pure (x.1,x.2.1,x.2.2.1,x.2.2.2,())) fun (j:A35)=>j (y_1.1,y.1,y_2.1,Int.ofNat 0)
def jj:List A13×List Int×List Int×Unit→Comp A9:=fun x0=>jF.bind fun x=>(vz x0).bind fun y=>(Comp.loop (fun (a:Int×A6×A5×List A4×Unit)=>if ltI a.1 (zF y.1.2.2.1)=true then (inb a.2.2.2.1.length a.1).bind fun x=>(idx a.2.2.2.1 a.1).bind fun (z:List A3×List A3×Int×List Int×Unit)=>.pure (.next (zI .i64 a.1 1,a.2.1,a.2.2.1,jJ a.2.2.2.1 a.1 (z.1,z.2.1,z.2.2.1,[],z.2.2.2.2),())) else .pure (.done (a.2.1,a.2.2.1,a.2.2.2.1,()))) (0,y.1.1,y.1.2.1,y.1.2.2.1,())).bind fun a=>(JU (a.1,a.2.1,a.2.2.1,())).bind fun b=>(Comp.gd (ntB (neI b.2.2.2.1 0)) (jP a.1 a.2.1) (0,())).bind fun c=>if sel (neI b.2.2.2.1 0) true (eqI c.1 35)=true then .pure (sel x.1 (sel (eqI b.2.2.2.1 0) true (eqI (zF b.1) 0)) false,()) else (Ze (a.1,a.2.1,a.2.2.1,()) a.1.2.2.1 b.1).bind fun y=>.pure (sel (sel x.1 (sel (sel (eqI y.2.1 0) true (eqI y.2.1 9)) true (eqI y.2.1 2)) false) (eqI (zF y.1) 0) false,())
end Go.F
end
section
namespace Go.Geo
open Go Go.Eng Go.Lift Go.Den Go.F
variable {α β γ δ ε σ τ:Type}
abbrev V3:=Int×Int×Int×Unit
abbrev Pnt:=Int×Int×Int×Int×Unit
def okv (k n:Int):Bool:=decide (-k≤n∧n≤k)
def KK (v:V3):Nat:=Nat.gcd (Nat.gcd v.1.natAbs v.2.1.natAbs) v.2.2.1.natAbs
def okN (v:V3):Bool:=okv 4608 v.1 && (okv 4608 v.2.1 && okv 4608 v.2.2.1)
def okP (p:Pln):Bool:=okN p.1 && (decide (KK p.1=1) && okv 2097152 p.2.1)
theorem Qx:∀(b a:Nat),(Comp.loop
   (fun (x:Int×Int)=>if gtI x.2 0=true then (rem x.1 x.2).bind fun x_3=>Comp.pure (.next (x.2,x_3))
    else Comp.pure (.done x.1)) ((a:Int),(b:Int))).val=some ((Nat.gcd a b:Nat):Int):=by
 intro b
 induction b using Nat.strongRecOn with
 |_ b ih =>
  intro a
  conv=>lhs;rw[zL]
  by_cases hb:0<b
  ·have h1:(0:Int)<(b:Int):=by omega
   have h2:(rem (a:Int) (b:Int)).val=some ((a % b:Nat):Int):=by rw[Zr (by omega)];rfl
   have:=ih (a % b) (Nat.mod_lt _ hb) b
   simp only[yQ,h1,if_true,zA,h2,zJl,Comp.zB]
   rw[show Nat.gcd a b=Nat.gcd b (a % b) by rw[Nat.gcd_comm a b,Nat.gcd_rec,Nat.gcd_comm]]
   simp only[yQ]at this
   exact this
  ·have h0:b=0:=by omega
   subst h0
   simp[gtI]
theorem GT:∀(b a:Int),∃r,r.natAbs=Nat.gcd a.natAbs b.natAbs∧(Comp.loop
   (fun (x:Int×Int)=>if neI x.2 0=true then (rem x.1 x.2).bind fun x_2=>Comp.pure (.next (x.2,x_2)) else Comp.pure (.done x.1)) (a,b)).val=some r:=by
 intro b
 generalize hn:b.natAbs=n
 induction n using Nat.strongRecOn generalizing b with
 |_ n ih =>
  intro a
  by_cases hb:b=0
  ·refine⟨a,?_,?_⟩
   ·subst hb;simp at hn;simp[←hn]
   ·conv=>lhs;rw[zL]
    simp[neI,hb]
  ·have hlt:(a.tmod b).natAbs<n:=by rw[Int.natAbs_tmod,←hn];exact Nat.mod_lt _ (by omega)
   obtain⟨r,h1,h2⟩:=ih _ hlt (a.tmod b) rfl b
   refine⟨r,?_,?_⟩
   ·rw[h1,Int.natAbs_tmod,hn]
    exact(Nat.gcd_comm _ _).trans ((Nat.gcd_rec n a.natAbs).symm.trans (Nat.gcd_comm _ _))
   ·conv=>lhs;rw[zL]
    simp only[zd,ne_eq,hb,not_false_eq_true,if_true,zA,Zr hb,zJl,Comp.zB]
    simp only[zd,ne_eq]at h2
    exact h2
theorem qt {n:Int} (h : -9223372036854775808<n∧n<9223372036854775808):rQ n (Y4 .i64 n)=(n.natAbs:Int):=by
 rw[wy h];unfold rQ;omega
theorem ph {n:Int} (h : -9223372036854775808<n∧n<9223372036854775808):(jv n).val=some ((n.natAbs:Int),()):=by
 unfold jv;rw[Comp.zB,qt h]
theorem AH {l:List Int} (hl:l.length<9223372036854775807) (h:∀n∈l, -9223372036854775808<n∧n<9223372036854775808):(Zf l).val=some (((l.foldl (fun g n=>Nat.gcd g n.natAbs) 0:Nat):Int),()):=by
 unfold Zf
 have h1:=JR (fun (s:Nat) i=>(((s:Nat):Int),((i:Nat):Int))) l (fun (s:Nat) n=>.next (Nat.gcd s n.natAbs)) (fun s=>(Sum.inl ((s:Nat):Int):Int⊕Int)) 0
  (body:=fun (x:Int×Int)=>if ltI x.2 (zF l)=true then
       (idx l x.2).bind fun x_1=>if eqI x_1 (-9223372036854775808)=true then Comp.pure (.done (Sum.inr 0))
        else
         (Go.F.jv x_1).bind fun x_2=>(Comp.loop
             (fun (x:Int×Int)=>if gtI x.2 0=true then (rem x.1 x.2).bind fun x_3=>Comp.pure (.next (x.2,x_3))
              else Comp.pure (.done x.1))
             (x.1,x_2.1)).bind fun x_3=>Comp.pure (.next (x_3,zI .i64 x.2 1))
      else Comp.pure (.done (Sum.inl x.1)))
  (fun s i n hx=>by
   have hlt:=zM hx
   have hn:=h n (List.mem_of_getElem? hx)
   have h1:(i:Int)<zF l:=by rw[zC];omega
   rw[if_pos (by rw[zG];exact h1),zA,zJ hx,zJl,if_neg (by rw[y5];omega),zA,ph hn,zJl,zA,Qx,zJl,Comp.zB,zN (show i<9223372036854775807 by omega)]
   rfl)
  (fun s=>by
   have h1:¬((l.length:Int)<zF l):=by rw[zC];omega
   simp only[zG,h1,if_false,Comp.zB])
 rw[XZ]at h1
 rw[zA]
 refine(congrArg (fun o=>Option.bind o _) h1).trans ?_
 rw[zJl]
 exact Comp.zB _
theorem tF {k:Int} {l:List Int} (hk:0≤k∧k<9223372036854775808) (hl:l.length<9223372036854775807):(jH k l).val=some (l.all fun n=>okv k n,()):=by
 unfold jH
 have h1:=ZL l (okv k) (c:=(Sum.inr false:Unit⊕Bool)) (d:=Sum.inl ())
  (body:=fun (x:Int)=>if ltI x (zF l)=true then
       (idx l x).bind fun x_1=>if sel (ltI x_1 (Y4 .i64 k)) true (gtI x_1 k)=true then Comp.pure (.done (Sum.inr false))
        else Comp.pure (.next (zI .i64 x 1))
      else Comp.pure (.done (Sum.inl ())))
  (fun i n hx=>by
   have hlt:=zM hx
   have h1:(i:Int)<zF l:=by rw[zC];omega
   rw[if_pos (by rw[zG];exact h1),zA,zJ hx,zJl,wy (by omega),zN (show i<9223372036854775807 by omega),Xn]
   have e:sel (ltI n (-k)) true (gtI n k) = !okv k n:=by
    rw[gZ];unfold ltI gtI okv
    by_cases h1:n < -k<;>by_cases h2:n > k<;>simp[h1,h2]<;>omega
   rw[e]
   cases okv k n<;>simp)
  (by
   have h1:¬((l.length:Int)<zF l):=by rw[zC];omega
   simp only[zG,h1,if_false,Comp.zB])
 rw[zA]
 refine(congrArg (fun o=>Option.bind o _) h1).trans ?_
 rw[zJl]
 show _=some (l.all (okv k),())
 cases l.all (okv k)<;>exact Comp.zB _
theorem EM {v:V3} (h:okN v=true):∀n∈[v.1,v.2.1,v.2.2.1], -4608≤n∧n≤4608:=by
 unfold okN okv at h
 simp only[zJn,decide_eq_true_eq]at h
 intro n hn
 simp only[List.mem_cons,List.not_mem_nil,or_false]at hn
 rcases hn with rfl|rfl|rfl<;>omega
theorem uE (p:Pln):(Yw p).val=some (okP p,()):=by
 unfold Yw
 have h1:(jH (Int.ofNat 4608) [p.1.1,p.1.2.1,p.1.2.2.1]).val=some (okN p.1,()):=by
  rw[tF (by decide) (by simp)]
  simp[okN]
 have h2:(jH (Int.ofNat 2097152) [p.2.1]).val=some (okv 2097152 p.2.1,()):=by
  rw[tF (by decide) (by simp)]
  simp
 rw[vi,zA,h1,zJl,Xn]
 cases hN:okN p.1 with
 |false=>simp[okP,hN]
 |true =>
  rw[if_pos rfl]
  have h3:=AH (l:=[p.1.1,p.1.2.1,p.1.2.2.1]) (by simp) (fun n hn=>by have:=EM hN n hn;omega)
  have h4:[p.1.1,p.1.2.1,p.1.2.2.1].foldl (fun g n=>Nat.gcd g n.natAbs) 0=KK p.1:=by simp[KK]
  rw[h4]at h3
  rw[zA,h3,zJl,Xn]
  by_cases hg:KK p.1=1
  ·have:eqI ((KK p.1:Nat):Int) 1=true:=by rw[y5];omega
   rw[if_pos this,zA,h2,zJl,Comp.zB]
   unfold okP;rw[hN,decide_eq_true hg];rfl
  ·have:eqI ((KK p.1:Nat):Int) 1=false:=by unfold eqI;rw[decide_eq_false];omega
   rw[if_neg (by rw[this];simp),Comp.zB]
   unfold okP;rw[hN,decide_eq_false hg];rfl
def chk (c:List Pln):Int:=if 48<c.length then 2 else bif c.all okP then 0 else 12
theorem zCe {c:List Pln}:chk c=0↔c.length≤48∧c.all okP=true:=by
 unfold chk
 split
 ·simp;omega
 ·cases c.all okP<;>simp;omega
theorem VO (c:List Pln):(c.any fun p=>!okP p) = !c.all okP:=by rw[List.all_eq_not_any_not,Bool.not_not]
theorem gy (c:List Pln):(vg c).val=some (chk c,()):=by
 unfold vg chk
 by_cases h:48<c.length
 ·rw[if_pos (by rw[yQ,zC];omega),if_pos h,Comp.zB]
 ·rw[if_neg (by rw[yQ,zC];omega),if_neg h]
  have h1:(zZ c fun z=>jS z.1).val=some (c.any fun p=>!okP p,()) :=
   kH (xs:=c) (f:=fun z=>jS z.1) (p:=fun p=>!okP p) (by omega) fun p _=>by
    show (jS p).val=_
    unfold jS
    rw[zA,uE,zJl,Comp.zB];rfl
  rw[zA,h1,zJl,VO,Xn]
  cases c.all okP<;>simp
theorem YZ (l:List (List Pln)) (hl:l.length<9223372036854775807):(ZZ l).val=some (l.all fun c=>decide (chk c=0),()):=by
 unfold ZZ
 have h1:(zK l fun z=>jR z.1).val=some (l.any fun c=>!decide (chk c=0),()) :=
  kH (xs:=l) (f:=fun z=>jR z.1) (p:=fun c=>!decide (chk c=0)) hl fun c _=>by
   show (jR c).val=_
   unfold jR
   rw[zA,gy,zJl,Comp.zB]
   unfold neI
   by_cases h:chk c=0<;>simp[h]
 rw[zA,h1,zJl,Comp.zB,yb,List.all_eq_not_any_not]
theorem Mt {n:Int} (h : -9223372036854775808<n∧n<9223372036854775808):(vN n).val=some ((n.natAbs:Int),()):=by
 unfold vN
 by_cases h0:n<0
 ·rw[if_pos (by rw[zG];exact h0),Comp.zB,wy h];congr 2;omega
 ·rw[if_neg (by rw[zG];exact h0),Comp.zB];congr 2;omega
theorem H3 {v:V3} (h:okN v=true):∃u,(gm v).val=some (u,((KK v:Nat):Int),()):=by
 have hin:=EM h
 unfold gm
 have hc:(zz v).val=some ([v.1,v.2.1,v.2.2.1],()):=by unfold zz;exact Comp.zB _
 rw[zA,hc,zJl]
 simp only
 generalize hl:[v.1,v.2.1,v.2.2.1]=l at hin
 have hlen:l.length=3:=by rw[←hl];rfl
 have h1:=JR (fun (s:Nat) i=>((((s:Nat):Int),((i:Nat):Int),(0,0,0,())):Int×Int×Int×Int×Int×Unit)) l (fun (s:Nat) n=>.next (Nat.gcd s n.natAbs)) (fun s=>(Sum.inl ((((s:Nat):Int),(0,0,0,())):Int×Int×Int×Int×Unit):(Int×Int×Int×Int×Unit)⊕(Int×Int×Int×Int×Unit))) 0
  (body:=(fun (x_1:Int×Int×Int×Int×Int×Unit)=>if ltI x_1.2.1 3=true then
        (idx l x_1.2.1).bind fun x_2=>if eqI x_2 (-9223372036854775808)=true then Comp.pure (.done (Sum.inr (0,0,0,0,())))
         else
          (idx l x_1.2.1).bind fun x=>(Go.F.vN x).bind fun x=>(Comp.loop
               (fun (x:Int×Int)=>if gtI x.2 0=true then (rem x.1 x.2).bind fun x_3=>Comp.pure (.next (x.2,x_3))
                else Comp.pure (.done x.1))
               (x_1.1,x.1)).bind fun x=>Comp.pure (.next (x,zI .i64 x_1.2.1 1,x_1.2.2))
       else Comp.pure (.done (Sum.inl (x_1.1,x_1.2.2)))))
  (fun s i n hx=>by
   have hlt:=zM hx
   have hn:=hin n (List.mem_of_getElem? hx)
   rw[if_pos (by rw[zG];show (i:Int)<3;omega),zA,zJ hx,zJl,if_neg (by rw[y5];omega),zA,zJ hx,zJl,zA,Mt (by omega),zJl,zA,Qx,zJl,Comp.zB,zN (show i<9223372036854775807 by omega)]
   rfl)
  (fun s=>by
   rw[if_neg (by rw[zG,hlen];simp),Comp.zB])
 rw[XZ]at h1
 have hg:l.foldl (fun g n=>Nat.gcd g n.natAbs) 0=KK v:=by rw[←hl];simp[KK]
 rw[hg]at h1
 rw[zA]
 have h2:=congrArg (fun o=>Option.bind o fun (x:(Int×Int×Int×Int×Unit)⊕(Int×Int×Int×Int×Unit))=>(match x with
    |Sum.inl x =>
     if eqI x.1 0=true then Comp.pure ((0,0,0,()),0,())
     else
      (quo .i64 v.1 x.1).bind fun x_1=>(quo .i64 v.2.1 x.1).bind fun x_2=>(quo .i64 v.2.2.1 x.1).bind fun x_3=>Comp.pure ((x_1,x_2,x_3,()),x.1,())
    |Sum.inr x=>Comp.pure (x.2,x.1,()):Comp Pln).val) h1
 by_cases h0:KK v=0
 ·refine⟨(0,0,0,()),h2.trans ?_⟩
  show (if eqI ((KK v:Nat):Int) 0=true then _ else _:Comp Pln).val=_
  rw[if_pos (by rw[y5];omega),Comp.zB,h0];rfl
 ·have hq:∀n,∃m,(quo .i64 n ((KK v:Nat):Int)).val=some m:=fun n=>by
   unfold quo
   rw[if_neg (by omega)]
   exact⟨_,Comp.zB _⟩
  obtain⟨a,ha⟩:=hq v.1
  obtain⟨b,hb⟩:=hq v.2.1
  obtain⟨c,hc⟩:=hq v.2.2.1
  refine⟨(a,b,c,()),h2.trans ?_⟩
  show (if eqI ((KK v:Nat):Int) 0=true then _ else _:Comp Pln).val=_
  rw[if_neg (by rw[y5];omega),zA,ha,zJl,zA,hb,zJl,zA,hc,zJl,Comp.zB]
theorem DA (p:Pln):(gO p).val=some (okP p,()):=by
 unfold gO
 have hc:(zz p.1).val=some ([p.1.1,p.1.2.1,p.1.2.2.1],()):=by unfold zz;exact Comp.zB _
 rw[zA,hc,zJl]
 have h1:=ZL [p.1.1,p.1.2.1,p.1.2.2.1] (okv 4608) (c:=(Sum.inr false:Unit⊕Bool)) (d:=Sum.inl ())
  (body:=(fun (x_1:Int)=>if ltI x_1 3=true then
        (idx [p.1.1,p.1.2.1,p.1.2.2.1] x_1).bind fun x_2=>(Comp.gd (ntB (ltI x_2 (-4608))) (idx [p.1.1,p.1.2.1,p.1.2.2.1] x_1) (Int.ofNat 0)).bind fun x_3=>if sel (ltI x_2 (-4608)) true (gtI x_3 4608)=true then Comp.pure (.done (Sum.inr false))
          else Comp.pure (.next (zI .i64 x_1 1))
       else Comp.pure (.done (Sum.inl ()))))
  (fun i n hx=>by
   have hlt:=zM hx
   have hlt3:i<3:=hlt
   rw[if_pos (by rw[zG];omega),zA,zJ hx,zJl,zA,N3,zJ hx,zN (show i<9223372036854775807 by omega)]
   unfold okv
   by_cases h1:n < -4608
   ·have:ltI n (-4608)=true:=by rw[zG];exact h1
    have h2:¬(-4608≤n∧n≤4608):=by omega
    simp[this,yb,sel,h2]
   ·have:ltI n (-4608)=false:=by unfold ltI;exact decide_eq_false h1
    by_cases h3:n > 4608
    ·have h2:¬(-4608≤n∧n≤4608):=by omega
     have h4:gtI n 4608=true:=by rw[yQ];exact h3
     simp[this,yb,sel,h2,h4]
    ·have h2:(-4608≤n∧n≤4608):=by omega
     have h4:gtI n 4608=false:=by unfold gtI;exact decide_eq_false h3
     simp[this,yb,sel,h2,h4])
  (by rw[if_neg (by rw[zG];simp),Comp.zB])
 rw[zA]
 have hall:[p.1.1,p.1.2.1,p.1.2.2.1].all (okv 4608)=okN p.1:=by simp[okN]
 rw[hall]at h1
 refine(congrArg (fun o=>Option.bind o _) h1).trans ?_
 rw[zJl]
 cases hN:okN p.1 with
 |false=>exact(Comp.zB _).trans (by unfold okP;rw[hN];rfl)
 |true =>
  obtain⟨u,hu⟩:=H3 hN
  show ((gm p.1).bind fun x=>Comp.pure (sel (sel (eqI x.2.1 1) (geI p.2.1 (-2097152)) false) (leI p.2.1 2097152) false,())).val=_
  rw[zA,hu,zJl,Comp.zB]
  unfold okP okv
  rw[hN,Yj,Yj]
  unfold eqI geI leI
  congr 2
  have:decide (((KK p.1:Nat):Int)=1)=decide (KK p.1=1):=by by_cases hg:KK p.1=1<;>simp[hg]<;>omega
  rw[this]
  by_cases h1:p.2.1 ≥ -2097152<;>by_cases h2:p.2.1≤2097152<;>simp[h1,h2]
theorem jz (c:List Pln):(zb c).val=some (chk c,()):=by
 unfold zb chk
 by_cases h:48<c.length
 ·rw[if_pos (by rw[yQ,zC];omega),if_pos h,Comp.zB]
 ·rw[if_neg (by rw[yQ,zC];omega),if_neg h]
  have h1:=ZL c okP (c:=(Sum.inr 12:Unit⊕Int)) (d:=Sum.inl ())
   (body:=(fun (x:Int)=>if ltI x (zF c)=true then
        (idx c x).bind fun x_1=>(Go.F.gO x_1).bind fun x_2=>if ntB x_2.1=true then Comp.pure (.done (Sum.inr 12)) else Comp.pure (.next (zI .i64 x 1))
       else Comp.pure (.done (Sum.inl ()))))
   (fun i p hx=>by
    have hlt:=zM hx
    rw[if_pos (by rw[zG,zC];omega),zA,zJ hx,zJl,zA,DA,zJl,Xn,yb,zN (show i<9223372036854775807 by omega)]
    cases okP p<;>simp)
   (by rw[if_neg (by rw[zG,zC];omega),Comp.zB])
  rw[zA]
  refine(congrArg (fun o=>Option.bind o _) h1).trans ?_
  rw[zJl]
  cases c.all okP<;>exact Comp.zB _
def cr (a b:V3):V3:=(a.2.1 * b.2.2.1-a.2.2.1 * b.2.1,a.2.2.1 * b.1-a.1 * b.2.2.1,a.1 * b.2.1-a.2.1 * b.1,())
def dt (a b:V3):Int:=a.1 * b.1+a.2.1 * b.2.1+a.2.2.1 * b.2.2.1
def ad (a b:V3):V3:=(a.1+b.1,a.2.1+b.2.1,a.2.2.1+b.2.2.1,())
def sc (a:V3) (n:Int):V3:=(a.1 * n,a.2.1 * n,a.2.2.1 * n,())
def Bd (k:Int) (v:V3):Prop:=(-k≤v.1∧v.1≤k)∧(-k≤v.2.1∧v.2.1≤k)∧(-k≤v.2.2.1∧v.2.2.1≤k)
theorem jC {a b A B:Int} (ha : -A≤a∧a≤A) (hb : -B≤b∧b≤B) : -(A * B)≤a * b∧a * b≤A * B:=by
 have hA:0≤A:=by omega
 have hB:0≤B:=by omega
 have h1:(a * b).natAbs≤(A * B).natAbs:=by
  rw[Int.natAbs_mul,Int.natAbs_mul]
  exact Nat.mul_le_mul (by omega) (by omega)
 have h2:0≤A * B:=Int.mul_nonneg hA hB
 omega
theorem zBv {v:V3} (h:okN v=true):Bd 4608 v:=by
 have:=EM h
 exact⟨this v.1 (by simp),this v.2.1 (by simp),this v.2.2.1 (by simp)⟩
theorem J4 {a b:V3} (ha:Bd 4608 a) (hb:Bd 4608 b):Bd 42467328 (cr a b):=by
 obtain⟨a1,a2,a3⟩:=ha
 obtain⟨b1,b2,b3⟩:=hb
 have e1:=jC a2 b3;have e2:=jC a3 b2;have e3:=jC a3 b1;have e4:=jC a1 b3;have e5:=jC a1 b2;have e6:=jC a2 b1
 unfold cr Bd
 simp only
 refine⟨?_,?_,?_⟩<;>omega
theorem Kv {a:V3} {n A B:Int} (ha:Bd A a) (hn : -B≤n∧n≤B):Bd (A * B) (sc a n):=⟨jC ha.1 hn,jC ha.2.1 hn,jC ha.2.2 hn⟩
theorem Bd.le {A B:Int} {v:V3} (h:Bd A v) (hAB:A≤B):Bd B v:=by
 obtain⟨h1,h2,h3⟩:=h
 refine⟨?_,?_,?_⟩<;>omega
theorem JW {a b:V3} (ha:Bd 4608 a) (hb:Bd 4608 b):(Zl a b).val=some (cr a b,()):=by
 obtain⟨a1,a2,a3⟩:=ha
 obtain⟨b1,b2,b3⟩:=hb
 have e1:=jC a2 b3;have e2:=jC a3 b2;have e3:=jC a3 b1;have e4:=jC a1 b3;have e5:=jC a1 b2;have e6:=jC a2 b1
 unfold Zl
 rw[Comp.zB,YL (m:=a.2.1) (by omega),YL (m:=a.2.2.1) (by omega),YL (m:=a.2.2.1) (by omega),YL (m:=a.1) (by omega),YL (m:=a.1) (by omega),YL (m:=a.2.1) (by omega),
  YI (by omega),YI (by omega),YI (by omega)]
 rfl
theorem XX {a b:V3} (ha:Bd 4608 a) (hb:Bd 4608 b):(vR a b).val=some (cr a b,()):=JW ha hb
theorem uw {a b:V3} (ha:Bd 4608 a) (hb:Bd 42467328 b):(Zb a b).val=some (dt a b,()):=by
 obtain⟨a1,a2,a3⟩:=ha
 obtain⟨b1,b2,b3⟩:=hb
 have e1:=jC a1 b1;have e2:=jC a2 b2;have e3:=jC a3 b3
 unfold Zb
 rw[Comp.zB,YL (m:=a.1) (by omega),YL (m:=a.2.1) (by omega),YL (m:=a.2.2.1) (by omega),vJ (m:=a.1 * b.1) (by omega),vJ (by omega)]
 rfl
theorem Ms {a b:V3} (ha:Bd 4608 a) (hb:Bd 42467328 b):(Z8 a b).val=some (dt a b,()):=uw ha hb
theorem JP {a:V3} {n:Int} (h:Bd 9223372036854775807 (sc a n)):(Ye a n).val=some (sc a n,()):=by
 obtain⟨h1,h2,h3⟩:=h
 unfold sc at h1 h2 h3
 simp only at h1 h2 h3
 unfold Ye
 rw[Comp.zB,YL (m:=a.1) (by omega),YL (m:=a.2.1) (by omega),YL (m:=a.2.2.1) (by omega)]
 rfl
theorem Yv {a:V3} {n:Int} (h:Bd 9223372036854775807 (sc a n)):(yc a n).val=some (sc a n,()):=JP h
theorem uz {a b:V3} (h:Bd 9223372036854775807 (ad a b)):(XL a b).val=some (ad a b,()):=by
 obtain⟨h1,h2,h3⟩:=h
 unfold ad at h1 h2 h3
 simp only at h1 h2 h3
 unfold XL
 rw[Comp.zB,vJ (m:=a.1) (by omega),vJ (m:=a.2.1) (by omega),vJ (m:=a.2.2.1) (by omega)]
 rfl
theorem Aq {a b:V3} (h:Bd 9223372036854775807 (ad a b)):(kO a b).val=some (ad a b,()):=uz h
theorem rF {a b:V3} {A B:Int} (ha:Bd A a) (hb:Bd B b):Bd (A+B) (ad a b):=by
 obtain⟨a1,a2,a3⟩:=ha
 obtain⟨b1,b2,b3⟩:=hb
 unfold ad Bd
 simp only
 refine⟨?_,?_,?_⟩<;>omega
def det (p q r:Pln):Int:=dt p.1 (cr q.1 r.1)
def num (p q r:Pln):V3:=ad (ad (sc (cr q.1 r.1) p.2.1) (sc (cr r.1 p.1) q.2.1)) (sc (cr p.1 q.1) r.2.1)
theorem mL (p q r:Pln):det p q r=dt r.1 (cr p.1 q.1):=by
 unfold det dt cr
 simp only[Int.mul_sub]
 generalize p.1.1=a1;generalize p.1.2.1=a2;generalize p.1.2.2.1=a3
 generalize q.1.1=b1;generalize q.1.2.1=b2;generalize q.1.2.2.1=b3
 generalize r.1.1=c1;generalize r.1.2.1=c2;generalize r.1.2.2.1=c3
 have e:∀x y z:Int,x * (y * z)=z * (x * y):=fun x y z=>by rw[←Int.mul_assoc,Int.mul_comm]
 have e1:=e a1 b2 c3;have e2:=e a1 b3 c2;have e3:=e a2 b3 c1;have e4:=e a2 b1 c3;have e5:=e a3 b1 c2;have e6:=e a3 b2 c1
 rw[e1,e2,e3,e4,e5,e6,Int.mul_comm a2 b1,Int.mul_comm a3 b1,Int.mul_comm a3 b2]
 rw[Int.mul_comm b1 a2,Int.mul_comm b1 a3,Int.mul_comm b2 a3]
 omega
def okB (p:Pln):Prop:=Bd 4608 p.1∧(-2097152≤p.2.1∧p.2.1≤2097152)
theorem zEf {p:Pln} (h:okP p=true):okB p:=by
 unfold okP okv at h
 simp only[zJn,decide_eq_true_eq]at h
 exact⟨zBv h.1,h.2.2⟩
theorem Q3 {p q r:Pln} (hp:okB p) (hq:okB q) (hr:okB r) : -600000000000≤det p q r∧det p q r≤600000000000:=by
 have hc:=J4 hq.1 hr.1
 have e1:=jC hp.1.1 hc.1;have e2:=jC hp.1.2.1 hc.2.1;have e3:=jC hp.1.2.2 hc.2.2
 unfold det dt
 omega
theorem Qc {p q r:Pln} (hp:okB p) (hq:okB q) (hr:okB r):Bd 300000000000000 (num p q r):=by
 have h1:=Kv (J4 hq.1 hr.1) hp.2
 have h2:=Kv (J4 hr.1 hp.1) hq.2
 have h3:=Kv (J4 hp.1 hq.1) hr.2
 exact(rF (rF h1 h2) h3).le (by decide)
def XC (v:V3) (w:Int):Nat:=Nat.gcd (Nat.gcd v.1.natAbs v.2.1.natAbs) (Nat.gcd v.2.2.1.natAbs w.natAbs)
def mkP (v:V3) (w:Int):Pnt :=
 let g:Int:=(XC v w:Nat)
 if w<0 then ((-v.1).tdiv g,(-v.2.1).tdiv g,(-v.2.2.1).tdiv g,(-w).tdiv g,()) else (v.1.tdiv g,v.2.1.tdiv g,v.2.2.1.tdiv g,w.tdiv g,())
def mt (p q r:Pln):Option Pnt:=if det p q r=0 then none else some (mkP (num p q r) (det p q r))
def uJ:Option Pnt→Pnt×Bool×Unit
 |some x=>(x,true,())
 |none=>((0,0,0,0,()),false,())
theorem BP {v:V3} {w:Int} (h:w≠0):0<XC v w:=by
 unfold XC
 refine Nat.gcd_pos_of_pos_right _ (Nat.gcd_pos_of_pos_right _ (by omega))
theorem Sl {a b:Int}:(a.tdiv b).natAbs≤a.natAbs:=by rw[Int.natAbs_tdiv];exact Nat.div_le_self _ _
theorem kb {a b:Int} (hb:b≠0) (ha : -9223372036854775808<a∧a<9223372036854775808):(quo .i64 a b).val=some (a.tdiv b):=by
 unfold quo
 rw[if_neg hb,Comp.zB]
 have:=Sl (a:=a) (b:=b)
 exact congrArg some (SB (by omega))
theorem pg {v:V3} {w:Int} (hv:Bd 300000000000000 v) (hw : -600000000000≤w∧w≤600000000000):(KY [v.1,v.2.1,v.2.2.1,w]).val=some (((XC v w:Nat):Int),()):=by
 unfold KY
 generalize hl:[v.1,v.2.1,v.2.2.1,w]=l
 have hlen:l.length=4:=by rw[←hl];rfl
 have key:∀(ys zs:List Int) (g:Int),l=zs++ys→∃r,r.natAbs=ys.foldl (fun g n=>Nat.gcd g n.natAbs) g.natAbs∧(Comp.loop
     (fun (x:Int×Int)=>if ltI x.2 (zF l)=true then
       (idx l x.2).bind fun x_1=>(Comp.loop
           (fun (x:Int×Int)=>if neI x.2 0=true then (rem x.1 x.2).bind fun x_2=>Comp.pure (.next (x.2,x_2)) else Comp.pure (.done x.1))
           (x.1,x_1)).bind fun x_2=>Comp.pure (.next (x_2,zI .i64 x.2 1))
      else Comp.pure (.done x.1)) (g,(zs.length:Int))).val=some r:=by
  intro ys
  induction ys with
  |nil =>
   intro zs g hx
   refine⟨g,rfl,?_⟩
   rw[zL,if_neg (by rw[zG,zC,hx];simp),Comp.zB,zJl]
  |cons y ys ih =>
   intro zs g hx
   have hy:l[zs.length]?=some y:=by rw[hx];simp
   have hlt:=zM hy
   obtain⟨r1,h1,h2⟩:=GT y g
   obtain⟨r,h3,h4⟩:=ih (zs++[y]) r1 (by rw[hx];simp)
   refine⟨r,by rw[h3,List.foldl_cons,h1],?_⟩
   rw[zL,if_pos (by rw[zG,zC];show (zs.length:Int)<_;omega),zA,zJ hy,zJl,zA,h2,zJl,Comp.zB,zN (by omega),zJl]
   simpa using h4
 obtain⟨r,h1,h2⟩:=key l [] 0 rfl
 rw[zA]
 refine(congrArg (fun o=>Option.bind o _) h2).trans ?_
 rw[zJl,Comp.zB]
 have hg:r.natAbs=XC v w:=by
  rw[h1,←hl]
  simp only[List.foldl_cons,List.foldl_nil,Int.natAbs_zero,Nat.gcd_zero_left]
  unfold XC
  rw[Nat.gcd_assoc]
 have hgw:(XC v w)≤900000000000000:=by
  unfold XC
  by_cases hw0:w=0
  ·by_cases h3:v.2.2.1=0
   ·by_cases h2:v.2.1=0
    ·rw[hw0,h3,h2];simp;have:=hv.1;omega
    ·refine Nat.le_trans (Nat.le_of_dvd (by omega) (Nat.dvd_trans (Nat.gcd_dvd_left _ _) (Nat.gcd_dvd_right _ _)):_≤v.2.1.natAbs) ?_
     have:=hv.2.1;omega
   ·refine Nat.le_trans (Nat.le_of_dvd (by omega) (Nat.dvd_trans (Nat.gcd_dvd_right _ _) (Nat.gcd_dvd_left _ _)):_≤v.2.2.1.natAbs) ?_
    have:=hv.2.2;omega
  ·refine Nat.le_trans (Nat.le_of_dvd (by omega) (Nat.dvd_trans (Nat.gcd_dvd_right _ _) (Nat.gcd_dvd_right _ _)):_≤w.natAbs) ?_
   omega
 rw[qt (by omega),hg]
theorem Jv (a b:Nat):(zp (a:Int) (b:Int)).val=some (((Nat.gcd a b:Nat):Int),()):=by
 unfold zp
 obtain⟨r,h1,h2⟩:=GT (b:Int) (a:Int)
 have key:∀(b a:Nat),(Comp.loop
   (fun (x:Int×Int)=>if neI x.2 0=true then (rem x.1 x.2).bind fun x_2=>Comp.pure (.next (x.2,x_2)) else Comp.pure (.done x.1)) ((a:Int),(b:Int))).val=some ((Nat.gcd a b:Nat):Int):=by
  intro b
  induction b using Nat.strongRecOn with
  |_ b ih =>
   intro a
   rw[zL]
   by_cases hb:b=0
   ·subst hb
    rw[if_neg (by rw[zd];simp),Comp.zB,zJl];simp
   ·have h2:(rem (a:Int) (b:Int)).val=some ((a % b:Nat):Int):=by rw[Zr (by omega)];rfl
    rw[if_pos (by rw[zd];show (b:Int)≠0;omega),zA,h2,zJl,Comp.zB,zJl]
    refine(ih (a % b) (Nat.mod_lt _ (by omega)) b).trans ?_
    rw[show Nat.gcd a b=Nat.gcd b (a % b) by rw[Nat.gcd_comm a b,Nat.gcd_rec,Nat.gcd_comm]]
 rw[zA,key,zJl,Comp.zB]
theorem zCB {v:V3} {k:Int} (h:Bd k v):Bd k (sc v (-1)):=by
 obtain⟨h1,h2,h3⟩:=h
 unfold sc Bd
 simp only
 refine⟨?_,?_,?_⟩<;>omega
theorem rL {p q r:Pln} (hp:okB p) (hq:okB q) (hr:okB r):(XO [p,q,r]).val=some (uJ (mt p q r)):=by
 unfold XO
 have hd:=Q3 hp hq hr
 have hn:=Qc hp hq hr
 have c1:=J4 hq.1 hr.1;have c2:=J4 hr.1 hp.1;have c3:=J4 hp.1 hq.1
 have s1:=Kv c1 hp.2;have s2:=Kv c2 hq.2;have s3:=Kv c3 hr.2
 have z:Bd 0 (0,0,0,()):=by unfold Bd;simp
 have a1:=rF z s1;have a2:=rF a1 s2;have a3:=rF a2 s3
 have hz:ad (0,0,0,()) (sc (cr q.1 r.1) p.2.1)=sc (cr q.1 r.1) p.2.1:=by unfold ad;simp
 have r1:(rem (zI .i64 0 1) 3).val=some 1:=by rw[Zr (by decide)];rfl
 have r2:(rem (zI .i64 0 2) 3).val=some 2:=by rw[Zr (by decide)];rfl
 have r3:(rem (zI .i64 1 1) 3).val=some 2:=by rw[Zr (by decide)];rfl
 have r4:(rem (zI .i64 1 2) 3).val=some 0:=by rw[Zr (by decide)];rfl
 have r5:(rem (zI .i64 2 1) 3).val=some 0:=by rw[Zr (by decide)];rfl
 have r6:(rem (zI .i64 2 2) 3).val=some 1:=by rw[Zr (by decide)];rfl
 have i0:(idx [p,q,r] 0).val=some p:=Km rfl
 have i1:(idx [p,q,r] 1).val=some q:=Km rfl
 have i2:(idx [p,q,r] 2).val=some r:=Km rfl
 have hloop:(Comp.loop
     (fun (x:Int×Int×Int×Int×Int×Unit)=>if ltI x.2.1 3=true then
       (idx [p,q,r] x.2.1).bind fun x_1=>(rem (zI .i64 x.2.1 1) 3).bind fun x_2=>(idx [p,q,r] x_2).bind fun x_3=>(rem (zI .i64 x.2.1 2) 3).bind fun x_4=>(idx [p,q,r] x_4).bind fun x_5=>(Go.F.Zl x_3.1 x_5.1).bind fun x_6=>(Go.F.Zb x_1.1 x_6.1).bind fun x_7=>(Go.F.Ye x_6.1 x_1.2.1).bind fun x_8=>(Go.F.XL x.2.2 x_8.1).bind fun x_9=>Comp.pure (.next (x_7.1,zI .i64 x.2.1 1,x_9.1))
      else Comp.pure (.done (x.1,x.2.2)))
     (0,0,0,0,0,())).val=some ((det p q r,num p q r):Int×V3):=by
  rw[zL,if_pos (by rw[zG];show (0:Int)<3;omega)]
  simp only[zA,i0,r1,i1,r2,i2,JW hq.1 hr.1,uw hp.1 c1,JP (s1.le (by decide)),zJl,Comp.zB]
  rw[uz (a1.le (by decide)),zJl,zJl]
  simp only
  rw[zL,if_pos (by rw[zG];show zI .i64 0 1<3;decide)]
  simp only[show zI .i64 0 1=1 from rfl,zA,i1,r3,i2,r4,i0,JW hr.1 hp.1,uw hq.1 c2,JP (s2.le (by decide)),zJl,Comp.zB]
  rw[uz (a2.le (by decide)),zJl,zJl]
  simp only
  rw[zL,if_pos (by rw[zG];show zI .i64 1 1<3;decide)]
  simp only[show zI .i64 1 1=2 from rfl,zA,i2,r5,i0,r6,i1,JW hp.1 hq.1,uw hr.1 c3,JP (s3.le (by decide)),zJl,Comp.zB]
  rw[uz (a3.le (by decide)),zJl,zJl]
  simp only
  rw[zL,if_neg (by rw[zG];show ¬(zI .i64 2 1<3);decide),Comp.zB,zJl,hz,mL]
  rfl
 rw[zA]
 refine(congrArg (fun o=>Option.bind o _) hloop).trans ?_
 rw[zJl]
 simp only
 unfold mt
 by_cases h0:det p q r=0
 ·rw[if_pos (by rw[y5];exact h0),if_pos h0,Comp.zB];rfl
 ·rw[if_neg (by rw[y5];exact h0),if_neg h0,zA,pg hn hd,zJl,vi]
  have hg:=BP (v:=num p q r) h0
  have hgb:XC (num p q r) (det p q r)≤600000000000:=by
   refine Nat.le_trans (Nat.le_of_dvd (by omega) (Nat.dvd_trans (Nat.gcd_dvd_right _ _) (Nat.gcd_dvd_right _ _)):_≤(det p q r).natAbs) ?_
   omega
  obtain⟨n1,n2,n3⟩:=hn
  by_cases hneg:det p q r<0
  ·rw[if_pos (by rw[zG];exact hneg),wy (by omega)]
   rw[zA,kb (by omega) (by omega),zJl,zA,kb (by omega) (by omega),zJl,zA,kb (by omega) (by omega),zJl,zA,kb (by omega) (by omega),zJl,Comp.zB]
   unfold mkP
   simp only[if_pos hneg,Int.tdiv_neg,Int.neg_tdiv]
   rfl
  ·rw[if_neg (by rw[zG];exact hneg)]
   rw[zA,kb (by omega) (by omega),zJl,zA,kb (by omega) (by omega),zJl,zA,kb (by omega) (by omega),zJl,zA,kb (by omega) (by omega),zJl,Comp.zB]
   unfold mkP
   simp only[if_neg hneg]
   rfl
theorem H0 {p q r:Pln} (hp:okB p) (hq:okB q) (hr:okB r):(y9 p q r).val=some (uJ (mt p q r)):=by
 unfold y9
 have hd:=Q3 hp hq hr
 have hn:=Qc hp hq hr
 have c1:=J4 hq.1 hr.1;have c2:=J4 hr.1 hp.1;have c3:=J4 hp.1 hq.1
 have s1:=Kv c1 hp.2;have s2:=Kv c2 hq.2;have s3:=Kv c3 hr.2
 have a2:=rF s1 s2;have a3:=rF a2 s3
 rw[zA,XX hq.1 hr.1,zJl,zA,Ms hp.1 c1,zJl]
 unfold mt
 by_cases h0:det p q r=0
 ·rw[if_pos (by rw[y5];exact h0),if_pos h0,Comp.zB];rfl
 ·rw[if_neg (by rw[y5];exact h0),if_neg h0]
  rw[zA,XX hq.1 hr.1,zJl,zA,Yv (s1.le (by decide)),zJl,zA,XX hr.1 hp.1,zJl,zA,Yv (s2.le (by decide)),zJl,
   zA,Aq (a2.le (by decide)),zJl,zA,XX hp.1 hq.1,zJl,zA,Yv (s3.le (by decide)),zJl,zA,Aq (a3.le (by decide)),zJl,vi]
  change (if ltI (det p q r) 0=true then (yc (num p q r) (Int.negSucc 0)).bind _ else _:Comp (Pnt×Bool×Unit)).val=_
  have key:∀(w:Int) (v:V3),w≠0→(0<w∧w≤600000000000)→Bd 300000000000000 v→((zp (rQ v.1 (Y4 .i64 v.1)) (rQ v.2.1 (Y4 .i64 v.2.1))).bind fun x_9=>(Go.F.zp (rQ v.2.2.1 (Y4 .i64 v.2.2.1)) w).bind fun x_10=>(Go.F.zp x_9.1 x_10.1).bind fun x_11=>(quo .i64 v.1 x_11.1).bind fun x_12=>(quo .i64 v.2.1 x_11.1).bind fun x_13=>(quo .i64 v.2.2.1 x_11.1).bind fun x_14=>(quo .i64 w x_11.1).bind fun x=>(Comp.pure ((x_12,x_13,x_14,x,()),true,()):Comp (Pnt×Bool×Unit))).val =
     some ((v.1.tdiv (XC v w:Nat),v.2.1.tdiv (XC v w:Nat),v.2.2.1.tdiv (XC v w:Nat),w.tdiv (XC v w:Nat),()),true,()):=by
   intro w v hw0 hw hv
   obtain⟨n1,n2,n3⟩:=hv
   have hg:=BP (v:=v) hw0
   have ew:w=((w.natAbs:Nat):Int):=by omega
   rw[qt (by omega),qt (by omega),qt (by omega)]
   rw[zA,Jv,zJl,zA]
   have h2:(zp ((v.2.2.1.natAbs:Nat):Int) w).val=some (((Nat.gcd v.2.2.1.natAbs w.natAbs:Nat):Int),()):=by
    conv=>lhs;rw[ew]
    rw[Jv]
   rw[h2,zJl,zA,Jv,zJl]
   change ((quo .i64 v.1 ((XC v w:Nat):Int)).bind _).val=_
   rw[zA,kb (by omega) (by omega),zJl]
   change ((quo .i64 v.2.1 ((XC v w:Nat):Int)).bind _).val=_
   rw[zA,kb (by omega) (by omega),zJl]
   change ((quo .i64 v.2.2.1 ((XC v w:Nat):Int)).bind _).val=_
   rw[zA,kb (by omega) (by omega),zJl]
   change ((quo .i64 w ((XC v w:Nat):Int)).bind _).val=_
   rw[zA,kb (by omega) (by omega),zJl,Comp.zB]
  by_cases hneg:det p q r<0
  ·rw[if_pos (by rw[zG];exact hneg)]
   have hb:Bd 300000000000000 (sc (num p q r) (Int.negSucc 0)):=zCB hn
   rw[zA,Yv (hb.le (by decide)),zJl,show Y4 .i64 (dt p.1 (cr q.1 r.1)) = -det p q r from wy (m:=det p q r) (by omega)]
   refine(key (-det p q r) (sc (num p q r) (Int.negSucc 0)) (by omega) (by omega) hb).trans ?_
   have hg:XC (sc (num p q r) (Int.negSucc 0)) (-det p q r)=XC (num p q r) (det p q r):=by
    unfold XC sc
    simp only[Int.natAbs_mul,Int.natAbs_neg]
    rw[show (Int.negSucc 0).natAbs=1 from rfl]
    simp
   unfold uJ mkP
   simp only[if_pos hneg,hg]
   unfold sc
   simp only[show Int.negSucc 0 = -1 from rfl,Int.mul_neg,Int.mul_one]
  ·rw[if_neg (by rw[zG];exact hneg)]
   refine(key (det p q r) (num p q r) h0 (by omega) hn).trans ?_
   unfold uJ mkP
   simp only[if_neg hneg]
theorem Yi (ys:List τ) (c:Comp (List τ×β)):(tell ys c).val=c.val.map fun p=>(ys++p.1,p.2):=by
 unfold tell
 rw[zA]
 cases c.val<;>simp
theorem tN {body:σ→Comp (List τ×Comp.Step σ ε)} {s s':σ} {ys zs:List τ} {e:ε} (h1:(body s).val=some (ys,.next s')) (h2:(YC body s').val=some (zs,e)):(YC body s).val=some (ys++zs,e):=by
 obtain⟨n,hn⟩:=vC.1 h1
 obtain⟨m,hm⟩:=vC.1 h2
 refine vC.2 ⟨max n m+1,?_⟩
 have a1:=(body s).mono (show n≤max n m+1 by omega) hn
 have a2:kP body (max n m+1) (max n m) s'=some (zs,e):=wX (by omega) (by omega) hm
 show kP body (max n m+1) (max n m+1) s=_
 simp only[kP,a1,a2]
theorem Js {body:σ→Comp (List τ×Comp.Step σ ε)} {s:σ} {ys:List τ} {e:ε} (h1:(body s).val=some (ys,.done e)):(YC body s).val=some (ys,e):=by
 obtain⟨n,hn⟩:=vC.1 h1
 refine vC.2 ⟨n+1,?_⟩
 have a1:=(body s).mono (show n≤n+1 by omega) hn
 show kP body (n+1) (n+1) s=_
 simp only[kP,a1]
theorem Jm {body:Int→Comp (List τ×Comp.Step Int ε)} (xs:List α) (g:Nat→List τ) {e:ε} (hb:∀(i:Nat) x,xs[i]?=some x→(body (i:Int)).val=some (g i,.next ((i+1:Nat):Int))) (he:(body (xs.length:Int)).val=some ([],.done e)) :
  (YC body 0).val=some ((List.range xs.length).flatMap g,e):=by
 have key:∀(m k:Nat),k+m=xs.length→(YC body (k:Int)).val=some ((List.range' k m).flatMap g,e):=by
  intro m
  induction m with
  |zero =>
   intro k hk
   rw[show k=xs.length by omega]
   exact Js he
  |succ m ih =>
   intro k hk
   obtain⟨x,hx⟩:=zQ (xs:=xs) (k:=k) (by omega)
   rw[List.range'_succ,List.flatMap_cons]
   exact tN (hb k x hx) (ih (k+1) (by omega))
 rw[List.range_eq_range']
 exact key xs.length 0 (by omega)
def prs:List α→List (α×α)
 | []=>[]
 |q::l=>l.map (fun s=>(q,s))++prs l
def tri:List α→List (α×α×α)
 | []=>[]
 |p::l=>(prs l).map (fun t=>(p,t))++tri l
theorem IP (l:List α) (f:α→List β) (i:Nat) (g:Nat→List β) (h:∀(k:Nat) x,l[k]?=some x→g (i+k)=f x):(List.range' i l.length).flatMap g=l.flatMap f:=by
 induction l generalizing i with
 |nil=>rfl
 |cons x l ih =>
  rw[List.length_cons,List.range'_succ,List.flatMap_cons,List.flatMap_cons]
  have h0:=h 0 x rfl
  rw[Nat.add_zero]at h0
  rw[h0,ih (i+1) fun k y hk=>by rw[←h (k+1) y (by simpa using hk)];congr 1;omega]
theorem AC (l:List α) (f:α→β):l.flatMap (fun s=>[f s])=l.map f:=by
 induction l with
 |nil=>rfl
 |cons x l ih=>rw[List.flatMap_cons,ih];rfl
theorem H4 (l:List α) (g:Nat→List β) (f:α×α→β) (i:Nat) (h:∀(k:Nat) q,l[k]?=some q→g (i+k)=(l.drop (k+1)).map fun s=>f (q,s)):(List.range' i l.length).flatMap g=(prs l).map f:=by
 induction l generalizing i with
 |nil=>rfl
 |cons x l ih =>
  rw[List.length_cons,List.range'_succ,List.flatMap_cons]
  have h0:=h 0 x rfl
  rw[Nat.add_zero]at h0
  rw[h0,prs,List.map_append,List.map_map]
  congr 1
  exact ih (i+1) fun k y hk=>by
   have:=h (k+1) y (by simpa using hk)
   rw[show i+1+k=i+(k+1) by omega,this];rfl
theorem Ho (l:List α) (g:Nat→List β) (f:α×α×α→β) (i:Nat) (h:∀(k:Nat) p,l[k]?=some p→g (i+k)=(prs (l.drop (k+1))).map fun t=>f (p,t)):(List.range' i l.length).flatMap g=(tri l).map f:=by
 induction l generalizing i with
 |nil=>rfl
 |cons x l ih =>
  rw[List.length_cons,List.range'_succ,List.flatMap_cons]
  have h0:=h 0 x rfl
  rw[Nat.add_zero]at h0
  rw[h0,tri,List.map_append,List.map_map]
  congr 1
  exact ih (i+1) fun k y hk=>by
   have:=h (k+1) y (by simpa using hk)
   rw[show i+1+k=i+(k+1) by omega,this];rfl
theorem nQ {xs:List α} {k:Nat} (h:k≤xs.length):(sub xs (k:Int) (zF xs)).val=some (xs.drop k):=by
 rw[YN (by rw[zC];omega),zC];simp
theorem lZ {r:List Pln} (hl:r.length<4611686018427387904):(vj r).val=some ((tri r).map fun t=>([t.1,t.2.1,t.2.2],())):=by
 unfold vj
 have inner:∀(p q:Pln) (l:List Pln),l.length<4611686018427387904→(YC
                     (fun (x_5:Int)=>if ltI x_5 (zF l)=true then
                       (idx l x_5).bind fun x=>tell [([p,q,x],())] (Comp.pure ([],.next (zI .i64 x_5 1)))
                      else Comp.pure ([],.done (Sum.inl ():Unit⊕Unit)))
                     0).val=some (l.map fun s=>([p,q,s],()),Sum.inl ()):=by
  intro p q l hl
  have h1:=Jm l (fun i=>match l[i]? with|some s=>[([p,q,s],())]|none=>[]) (e:=(Sum.inl ():Unit⊕Unit)) (body:=(fun (x_5:Int)=>if ltI x_5 (zF l)=true then
                       (idx l x_5).bind fun x=>tell [([p,q,x],())] (Comp.pure ([],.next (zI .i64 x_5 1)))
                      else Comp.pure ([],.done (Sum.inl ():Unit⊕Unit))))
   (fun i x hx=>by
    have hlt:=zM hx
    rw[if_pos (by rw[zG,zC];omega),zA,zJ hx,zJl,Yi,Comp.zB,zN (by omega),hx]
    rfl)
   (by rw[if_neg (by rw[zG,zC];omega),Comp.zB])
  rw[h1,List.range_eq_range',IP l (fun s=>[([p,q,s],())]) 0 _ (fun k x hk=>by rw[Nat.zero_add,hk])]
  rw[AC]
 have mid:∀(p:Pln) (i:Nat),i<r.length→(YC
              (fun (x_3:Int)=>if ltI x_3 (zF (r.drop (i+1)))=true then
                (idx (r.drop (i+1)) x_3).bind fun x_4=>(sub r (zI .i64 (zI .i64 (i:Int) x_3) 2) (zF r)).bind fun x=>(YC
                     (fun (x_5:Int)=>if ltI x_5 (zF x)=true then
                       (idx x x_5).bind fun x=>tell [([p,x_4,x],())] (Comp.pure ([],.next (zI .i64 x_5 1)))
                      else Comp.pure ([],.done (Sum.inl ():Unit⊕Unit)))
                     0).bind fun (p:List (List (Pln)×Unit)×(Unit⊕Unit))=>tell p.1
                    (match p.2 with
                    |Sum.inl x=>Comp.pure ([],.next (zI .i64 x_3 1))
                    |Sum.inr x=>Comp.pure ([],.done (Sum.inr ():Unit⊕Unit)))
               else Comp.pure ([],.done (Sum.inl ():Unit⊕Unit)))
              0).val=some ((prs (r.drop (i+1))).map fun t=>([p,t.1,t.2],()),Sum.inl ()):=by
  intro p i hi
  have hdl:(r.drop (i+1)).length=r.length-(i+1):=List.length_drop ..
  have h1:=Jm (r.drop (i+1)) (fun j=>match (r.drop (i+1))[j]? with|some q=>((r.drop (i+1)).drop (j+1)).map fun s=>([p,q,s],())|none=>[]) (e:=(Sum.inl ():Unit⊕Unit)) (body:=(fun (x_3:Int)=>if ltI x_3 (zF (r.drop (i+1)))=true then
                (idx (r.drop (i+1)) x_3).bind fun x_4=>(sub r (zI .i64 (zI .i64 (i:Int) x_3) 2) (zF r)).bind fun x=>(YC
                     (fun (x_5:Int)=>if ltI x_5 (zF x)=true then
                       (idx x x_5).bind fun x=>tell [([p,x_4,x],())] (Comp.pure ([],.next (zI .i64 x_5 1)))
                      else Comp.pure ([],.done (Sum.inl ():Unit⊕Unit)))
                     0).bind fun (p:List (List (Pln)×Unit)×(Unit⊕Unit))=>tell p.1
                    (match p.2 with
                    |Sum.inl x=>Comp.pure ([],.next (zI .i64 x_3 1))
                    |Sum.inr x=>Comp.pure ([],.done (Sum.inr ():Unit⊕Unit)))
               else Comp.pure ([],.done (Sum.inl ():Unit⊕Unit))))
   (fun j q hq=>by
    have hlt:=zM hq
    have e1:zI .i64 (zI .i64 (i:Int) (j:Int)) 2=((i+j+2:Nat):Int):=by rw[vJ (m:=(i:Int)) (by omega),vJ (by omega)];omega
    rw[if_pos (by rw[zG,zC];omega),zA,zJ hq,zJl,e1,zA,nQ (by omega),zJl,zA,inner p q _ (by rw[List.length_drop];omega),zJl,Yi]
    simp only
    rw[Comp.zB,zN (by omega),hq,List.drop_drop]
    simp only[Option.map_some,List.append_nil]
    rw[show i+1+(j+1)=i+j+2 by omega])
   (by rw[if_neg (by rw[zG,zC];omega),Comp.zB])
  rw[h1,List.range_eq_range',H4 (r.drop (i+1)) _ (fun t=>([p,t.1,t.2],())) 0 (fun k q hk=>by rw[Nat.zero_add,hk])]
 have h1:=Jm r (fun i=>match r[i]? with|some p=>(prs (r.drop (i+1))).map fun t=>([p,t.1,t.2],())|none=>[]) (e:=(Sum.inl ():Unit⊕Unit)) (body:=(fun (x:Int)=>if ltI x (zF r)=true then
         (idx r x).bind fun x_1=>(sub r (zI .i64 x 1) (zF r)).bind fun x_2=>(YC
              (fun (x_3:Int)=>if ltI x_3 (zF x_2)=true then
                (idx x_2 x_3).bind fun x_4=>(sub r (zI .i64 (zI .i64 x x_3) 2) (zF r)).bind fun x=>(YC
                     (fun (x_5:Int)=>if ltI x_5 (zF x)=true then
                       (idx x x_5).bind fun x=>tell [([x_1,x_4,x],())] (Comp.pure ([],.next (zI .i64 x_5 1)))
                      else Comp.pure ([],.done (Sum.inl ())))
                     0).bind fun (p:List (List (Pln)×Unit)×(Unit⊕Unit))=>tell p.1
                    (match p.2 with
                    |Sum.inl x=>Comp.pure ([],.next (zI .i64 x_3 1))
                    |Sum.inr x=>Comp.pure ([],.done (Sum.inr ())))
               else Comp.pure ([],.done (Sum.inl ())))
              0).bind fun (p:List (List (Pln)×Unit)×(Unit⊕Unit))=>tell p.1
             (match p.2 with
             |Sum.inl x_3=>Comp.pure ([],.next (zI .i64 x 1))
             |Sum.inr x=>Comp.pure ([],.done (Sum.inr ())))
        else Comp.pure ([],.done (Sum.inl ()))))
  (fun i p hp=>by
   have hlt:=zM hp
   rw[if_pos (by rw[zG,zC];omega),zA,zJ hp,zJl,zN (by omega),zA,nQ (by omega),zJl,zA,mid p i hlt,zJl,Yi]
   simp only
   rw[Comp.zB,hp]
   simp only[Option.map_some,List.append_nil])
  (by rw[if_neg (by rw[zG,zC];omega),Comp.zB])
 rw[List.range_eq_range',Ho r _ (fun t=>([t.1,t.2.1,t.2.2],())) 0 (fun k p hk=>by rw[Nat.zero_add,hk])]at h1
 rw[zA,zA]
 refine(congrArg (fun o=>Option.bind (Option.bind o _) _) h1).trans ?_
 rw[zJl,Yi]
 simp only
 rw[Comp.zB]
 simp only[Option.map_some,zJl,List.append_nil]
 exact Comp.zB _
def rm (p:Pln) (x:Pnt):Int:=W (p.2.1 * x.2.2.2.1-dt p.1 (x.1,x.2.1,x.2.2.1,()))
def ins (r:List Pln) (x:Pnt):Bool:=r.all fun p=>decide (0≤rm p x)
def kY (r:List Pln) (l:List Pnt) (t:Pln×Pln×Pln):List Pnt:=match mt t.1 t.2.1 t.2.2 with
 |none=>l
 |some x=>if x∈l then l else bif ins r x then l++[x] else l
def crn (r:List Pln):List Pnt:=(tri r).foldl (kY r) []
def full (r:List Pln):Bool:=r.all fun p=>(crn r).any fun x=>decide (0<rm p x)
theorem qJ (p:Pln) (x:Pnt):(Zd p x).val=some (rm p x,()):=by
 unfold Zd Zb
 rw[zA,Comp.zB,zJl,Comp.zB]
 congr 2
 unfold rm dt
 simp only[N8,Qg,zCl,Gs,Gp,VW,VV]
theorem Z9 {r:List Pln} {x:Pnt} (hl:r.length<9223372036854775807):(Zo r x).val=some (ins r x,()):=by
 unfold Zo
 have h1:(zZ r fun z=>gx z.1 x).val=some (r.any fun p=>decide (rm p x<0),()) :=
  kH (xs:=r) (f:=fun z=>gx z.1 x) (p:=fun p=>decide (rm p x<0)) hl fun p _=>by
   show (gx p x).val=_
   unfold gx
   rw[zA,qJ,zJl,Comp.zB];rfl
 rw[zA,h1,zJl,Comp.zB]
 unfold ins
 congr 2
 simp only[yb]
 rw[List.all_eq_not_any_not]
 congr 2
 funext p
 by_cases h:rm p x<0
 ·have:¬(0≤rm p x):=by omega
  simp[h,this]
 ·have:0≤rm p x:=by omega
  simp[h,this]
def rR (x y:Pnt):Bool:=adB (eqI x.1 y.1) (adB (eqI x.2.1 y.2.1) (adB (eqI x.2.2.1 y.2.2.1) (eqI x.2.2.2.1 y.2.2.2.1)))
theorem mI (x y:Pnt):rR x y=decide (x=y):=by
 obtain⟨a,b,c,d,_⟩:=x
 obtain⟨a',b',c',d',_⟩:=y
 unfold rR eqI adB
 simp only
 rw[Bool.eq_iff_iff]
 simp[Prod.ext_iff]
def kn (l:List Pnt):List (Pnt×Bool):=l.map fun x=>(x,true)
theorem zCM (l:List Pnt) (x:Pnt):mgB rR (kn l) x=if x∈l then some true else none:=by
 induction l with
 |nil=>rfl
 |cons y l ih =>
  show (bif rR x y then some true else mgB rR (kn l) x)=_
  rw[mI,ih]
  by_cases h:x=y
  ·simp[h]
  ·simp[h]
theorem zCL {l:List Pnt} {x:Pnt} (h:x ∉ l):mpB rR (kn l) x true=kn (l++[x]):=by
 induction l with
 |nil=>rfl
 |cons y l ih =>
  simp only[List.mem_cons,not_or]at h
  show (bif rR x y then (x,true)::kn l else (y,true)::mpB rR (kn l) x true)=_
  rw[mI,decide_eq_false h.1,cond_false,ih h.2];rfl
theorem Eo:∀ {r:List α} {t:α×α×α},t∈tri r→t.1∈r∧t.2.1∈r∧t.2.2∈r
 | [],_,h=>by cases h
 |p::l,t,h=>by
  have prs_mem:∀ {l:List α} {t:α×α},t∈prs l→t.1∈l∧t.2∈l:=by
   intro l
   induction l with
   |nil=>intro t h;cases h
   |cons q l ih =>
    intro t h
    simp only[prs,List.mem_append,List.mem_map]at h
    rcases h with ⟨s,h1,rfl⟩|h
    ·exact⟨by simp,List.mem_cons_of_mem _ h1⟩
    ·have:=ih h;exact⟨List.mem_cons_of_mem _ this.1,List.mem_cons_of_mem _ this.2⟩
  simp only[tri,List.mem_append,List.mem_map]at h
  rcases h with ⟨s,h1,rfl⟩|h
  ·have:=prs_mem h1
   exact⟨by simp,List.mem_cons_of_mem _ this.1,List.mem_cons_of_mem _ this.2⟩
  ·have:=Eo h
   exact⟨List.mem_cons_of_mem _ this.1,List.mem_cons_of_mem _ this.2.1,List.mem_cons_of_mem _ this.2.2⟩
theorem UA (l:List α):(prs l).length≤l.length * l.length:=by
 induction l with
 |nil=>simp[prs]
 |cons x l ih =>
  simp only[prs,zJo,List.length_map,List.length_cons]
  have:(l.length+1) * (l.length+1)=l.length * l.length+2 * l.length+1:=by
   rw[Nat.add_mul,Nat.mul_add];omega
  omega
theorem Kd (l:List α):(tri l).length≤l.length * (l.length * l.length):=by
 induction l with
 |nil=>simp[tri]
 |cons x l ih =>
  simp only[tri,zJo,List.length_map,List.length_cons]
  have h1:=UA l
  have h2:l.length * (l.length * l.length)+l.length * l.length≤(l.length+1) * ((l.length+1) * (l.length+1)):=by
   rw[Nat.add_mul,Nat.one_mul]
   refine Nat.add_le_add (Nat.mul_le_mul_left _ (Nat.mul_le_mul (by omega) (by omega))) (Nat.mul_le_mul (by omega) (by omega))
  omega
theorem KV {r:List Pln} {l:List Pnt} {t:Pln×Pln×Pln}:(kY r l t).length≤l.length+1:=by
 unfold kY
 split
 ·omega
 ·split
  ·omega
  ·cases ins r _<;>simp
theorem mO (r:List Pln):(crn r).length≤(tri r).length:=by
 unfold crn
 have key:∀(ts:List (Pln×Pln×Pln)) (l:List Pnt),(ts.foldl (kY r) l).length≤l.length+ts.length:=by
  intro ts
  induction ts with
  |nil=>intro l;simp
  |cons t ts ih =>
   intro l
   have:=ih (kY r l t)
   have:=KV (r:=r) (l:=l) (t:=t)
   simp only[List.foldl_cons,List.length_cons];omega
 have:=key (tri r) []
 simpa using this
theorem JO {b k i:Bool} {c:Comp (Bool×Unit)} (hc:b=true→k=false→c.val=some (i,())) {A B:Comp β} :
  ((Comp.gd (sel b (ntB k) false) c (false,())).bind fun x2=>if sel (sel b (ntB k) false) x2.1 false=true then A else B).val=(bif b && (!k && i) then A else B).val:=by
 rw[zA]
 cases b with
 |false =>
  show (Option.bind (Comp.pure (false,())).val _)=_
  rw[Comp.zB,zJl];rfl
 |true =>
  cases k with
  |true =>
   show (Option.bind (Comp.pure (false,())).val _)=_
   rw[Comp.zB,zJl];rfl
  |false =>
   have:=hc rfl rfl
   show (Option.bind c.val _)=_
   rw[this,zJl]
   cases i<;>rfl
theorem wc {r:List Pln} (hl:r.length≤1000) (hb:∀p∈r,okB p):(vb r).val=some (crn r,()):=by
 have hL:=YT
 have h3:(tri r).length≤1000000000:=by
  refine Nat.le_trans (Kd r) ?_
  exact Nat.mul_le_mul hl (Nat.mul_le_mul hl hl)
 unfold vb kF
 rw[zA,Comp.zB,zJl,zA,lZ (by omega),zJl]
 -- the walk over a list of triples,from a list of vertices
 have key:∀(ts:List (Pln×Pln×Pln)) (l:List Pnt),(∀t∈ts,okB t.1∧okB t.2.1∧okB t.2.2)→l.length+ts.length≤1000000000→(K0
       (fun (x:List (Pnt)×List ((Pnt)×Bool))
         (d:List (Pln)×Unit) =>
        (Go.F.XO d.1).bind fun x_1=>(Comp.gd
            (sel x_1.2.1
             (ntB
              (match
               mgB
                (fun (x x_2:Pnt)=>adB (eqI x.1 x_2.1) (adB (eqI x.2.1 x_2.2.1) (adB (eqI x.2.2.1 x_2.2.2.1) (eqI x.2.2.2.1 x_2.2.2.2.1))))
                x.2 x_1.1 with
              |some x=>x
              |none=>false))
             false)
            (Go.F.Zo r x_1.1) (false,())).bind fun x_2=>jn (fun (x:List (Pnt)×List ((Pnt)×Bool))=>Comp.pure (.next (x.1,x.2)))
           fun (j :
             List (Pnt)×List ((Pnt)×Bool)→Comp (Comp.Step (List (Pnt)×List ((Pnt)×Bool)) Empty)) =>
           if
             sel
               (sel x_1.2.1
                (ntB
                 (match
                  mgB
                   (fun (x x_3:Pnt)=>adB (eqI x.1 x_3.1) (adB (eqI x.2.1 x_3.2.1) (adB (eqI x.2.2.1 x_3.2.2.1) (eqI x.2.2.2.1 x_3.2.2.2.1))))
                   x.2 x_1.1 with
                 |some x=>x
                 |none=>false))
                false)
               x_2.1 false =
              true then
            (app x.1 [x_1.1]).bind fun zs=>j
              (zs,
               mpB
                (fun (x x_3:Pnt)=>adB (eqI x.1 x_3.1) (adB (eqI x.2.1 x_3.2.1) (adB (eqI x.2.2.1 x_3.2.2.1) (eqI x.2.2.2.1 x_3.2.2.2.1))))
                x.2 x_1.1 true)
           else j (x.1,x.2))
       (ts.map fun t=>([t.1,t.2.1,t.2.2],())) (l,kn l)).val=some (.next (ts.foldl (kY r) l,kn (ts.foldl (kY r) l))):=by
  intro ts
  induction ts with
  |nil=>intro l _ _;exact Comp.zB _
  |cons t ts ih =>
   intro l hts hlen
   obtain⟨h1,h2,h3⟩:=hts t (by simp)
   simp only[List.length_cons]at hlen
   rw[List.map_cons]
   unfold K0
   have hmg:∀x,(match mgB (fun (x x_2:Pnt)=>adB (eqI x.1 x_2.1) (adB (eqI x.2.1 x_2.2.1) (adB (eqI x.2.2.1 x_2.2.2.1) (eqI x.2.2.2.1 x_2.2.2.2.1)))) (kn l) x with|some x=>x|none=>false)=decide (x∈l):=by
    intro x
    show (match mgB rR (kn l) x with|some x=>x|none=>false)=_
    rw[zCM]
    by_cases h:x∈l<;>simp[h]
   have hlen':=KV (r:=r) (l:=l) (t:=t)
   have hgo:=ih (kY r l t) (fun t' ht'=>hts t' (List.mem_cons_of_mem _ ht')) (by omega)
   rw[zA,zA,rL h1 h2 h3,zJl,List.foldl_cons]
   let B0:Comp (Comp.Step (List Pnt×List (Pnt×Bool)) Empty):=Comp.pure (.next (l,kn l))
   let A0:Pnt→Comp (Comp.Step (List Pnt×List (Pnt×Bool)) Empty):=fun x=>(app l [x]).bind fun zs=>Comp.pure (.next (zs,mpB rR (kn l) x true))
   cases hm:mt t.1 t.2.1 t.2.2 with
   |none =>
    have hcr:kY r l t=l:=by unfold kY;rw[hm]
    rw[hcr]at hgo ⊢
    refine(congrArg (fun o=>Option.bind o _) ((JO (b:=false) (i:=false) (fun h=>nomatch h) (A:=A0 (0,0,0,0,())) (B:=B0)).trans (Comp.zB _))).trans ?_
    exact hgo
   |some x =>
    have hcr:kY r l t=if x∈l then l else bif ins r x then l++[x] else l:=by unfold kY;rw[hm]
    by_cases hx:x∈l
    ·rw[if_pos hx]at hcr
     rw[hcr]at hgo ⊢
     have hk:=hmg x
     rw[decide_eq_true hx]at hk
     have hv:∀k,k=true→(bif true && (!k && ins r x) then A0 x else B0).val=some (.next (l,kn l)):=fun k hk=>by subst hk;exact Comp.zB _
     refine(congrArg (fun o=>Option.bind o _) ((JO (b:=true) (i:=ins r x) (fun _ _=>Z9 (by omega)) (A:=A0 x) (B:=B0)).trans (hv _ hk))).trans ?_
     exact hgo
    ·rw[if_neg hx]at hcr
     have hk:=hmg x
     rw[decide_eq_false hx]at hk
     cases hin:ins r x with
     |false =>
      rw[hin,cond_false]at hcr
      rw[hcr]at hgo ⊢
      have hv:∀k,k=false→(bif true && (!k && ins r x) then A0 x else B0).val=some (.next (l,kn l)):=fun k hk=>by subst hk;rw[hin];exact Comp.zB _
      refine(congrArg (fun o=>Option.bind o _) ((JO (b:=true) (i:=ins r x) (fun _ _=>Z9 (by omega)) (A:=A0 x) (B:=B0)).trans (hv _ hk))).trans ?_
      exact hgo
     |true =>
      rw[hin,cond_true]at hcr
      rw[hcr]at hgo ⊢
      have hv:∀k,k=false→(bif true && (!k && ins r x) then A0 x else B0).val=some (.next (l++[x],kn (l++[x]))):=fun k hk=>by
       subst hk
       rw[hin]
       show ((app l [x]).bind fun zs=>(Comp.pure (.next (zs,mpB rR (kn l) x true)):Comp (Comp.Step (List Pnt×List (Pnt×Bool)) Empty))).val=_
       rw[zA,zr (by simp only[zJq];unfold LIM;omega),zJl,Comp.zB,zCL hx]
      refine(congrArg (fun o=>Option.bind o _) ((JO (b:=true) (i:=ins r x) (fun _ _=>Z9 (by omega)) (A:=A0 x) (B:=B0)).trans (hv _ hk))).trans ?_
      exact hgo
 have h1:=key (tri r) [] (fun t ht=>by
  obtain⟨a,b,c⟩:=Eo ht
  exact⟨hb _ a,hb _ b,hb _ c⟩) (by simpa using h3)
 rw[zA]
 refine(congrArg (fun o=>Option.bind o _) h1).trans ?_
 rw[zJl]
 exact Comp.zB _
theorem BQ {r:List Pln} (hl:r.length≤1000) (hb:∀p∈r,okB p):(gq r).val=some (full r,()):=by
 have hL:=YT
 have h3:(crn r).length≤1000000000:=by
  refine Nat.le_trans (mO r) (Nat.le_trans (Kd r) ?_)
  exact Nat.mul_le_mul hl (Nat.mul_le_mul hl hl)
 unfold gq
 rw[zA,wc hl hb,zJl]
 have h1:(yC r fun z=>yv z.1 (crn r)).val=some (r.any fun p=>!(crn r).any fun x=>decide (0<rm p x),()) :=
  kH (xs:=r) (f:=fun z=>yv z.1 (crn r)) (p:=fun p=>!(crn r).any fun x=>decide (0<rm p x)) (by omega) fun p _=>by
   show (yv p (crn r)).val=_
   unfold yv
   have h2:(yK (crn r) fun z=>yP z.1 p).val=some ((crn r).any fun x=>decide (0<rm p x),()) :=
    kH (xs:=crn r) (f:=fun z=>yP z.1 p) (p:=fun x=>decide (0<rm p x)) (by omega) fun x _=>by
     show (yP x p).val=_
     unfold yP
     rw[zA,qJ,zJl,Comp.zB];rfl
   rw[zA,h2,zJl,Comp.zB];rfl
 rw[zA,h1,zJl,Comp.zB,yb]
 unfold full
 rw[List.all_eq_not_any_not]
def bx0:List Pln:=[((1,0,0,()),24,()),((-1,0,0,()),24,()),((0,1,0,()),24,()),((0, -1,0,()),24,()),((0,0,1,()),24,()),((0,0, -1,()),24,())]
theorem nH:∀p∈bx0,okB p:=by
 intro p hp
 unfold bx0 at hp
 simp only[List.mem_cons,List.not_mem_nil,or_false]at hp
 unfold okB Bd
 rcases hp with rfl|rfl|rfl|rfl|rfl|rfl<;>simp
theorem jB {l:List (List Pln)} (hl:l.length<9223372036854775807) (h:l.flatten.length≤1000):(cell_of l).val=some (l.flatten++bx0,()):=by
 unfold cell_of
 have h1:(zO l).val=some (l.flatten,()):=Kp (z:=((0,0,0,()),0,())) (by unfold LIM;omega) hl
 rw[zA,h1,zJl]
 generalize l.flatten=c at h
 have h2:=ZV (fun (s:List Pln) i=>(s,((i:Nat):Int))) [(1,0,0,()),(-1,0,0,()),(0,1,0,()),(0, -1,0,()),(0,0,1,()),(0,0, -1,())] (fun (s:List Pln) (x:V3)=>.next (s++[(x,24,())])) (fun s=>s) (fun s i=>s.length=c.length+i)
  (body:=(fun (x:List (Pln)×Int)=>if
         ltI x.2
           (zF
            [(1,0,0,()),(-1,0,0,()),(0,1,0,()),(0, -1,0,()),(0,0,1,()),
             (0,0, -1,())]) =
          true then
        (idx [(1,0,0,()),(-1,0,0,()),(0,1,0,()),(0, -1,0,()),(0,0,1,()),(0,0, -1,())]
           x.2).bind fun x_1=>(app x.1 [(x_1,24,())]).bind fun zs=>Comp.pure (.next (zs,zI .i64 x.2 1))
       else Comp.pure (.done x.1)))
  (fun s i x hx hs=>by
   have hlt:=zM hx
   simp only[List.length_cons,List.length_nil]at hlt
   rw[if_pos (by rw[zG,zC];simp only[List.length_cons,List.length_nil];omega),zA,zJ hx,zJl,zA,zr (by simp only[zJq];unfold LIM;omega),zJl,Comp.zB,zN (by omega)]
   rfl)
  (fun s i x s' hx hs he=>by cases he;simp[hs];omega)
  (fun s hs=>by rw[if_neg (by rw[zG,zC];simp),Comp.zB]) c (by simp)
 rw[XZ]at h2
 rw[zA]
 refine(congrArg (fun o=>Option.bind o _) h2).trans ?_
 rw[zJl,Comp.zB]
 simp[bx0]
theorem XH {c:List Pln} (h:chk c=0):c.length≤48∧∀p∈c,okB p:=by
 rw[zCe]at h
 exact⟨h.1,fun p hp=>zEf (List.all_eq_true.1 h.2 p hp)⟩
def ful (c:List Pln):Bool:=decide (chk c=0) && full (c++bx0)
def apa (a b:List Pln):Bool:=!(decide (chk a=0) && decide (chk b=0)) || !full (a++b++bx0)
theorem Zg (c:List Pln):(kC c).val=some (ful c,()):=by
 unfold kC
 rw[vi,zA,YZ _ (by simp),zJl]
 simp only[List.all_cons,List.all_nil,Bool.and_true]
 unfold ful
 by_cases h:chk c=0
 ·obtain⟨h1,h2⟩:=XH h
  rw[if_pos (by simpa using h),zA,jB (by simp) (by simp;omega),zJl,zA]
  simp only[List.flatten_cons,List.flatten_nil,List.append_nil]
  rw[BQ (by simp[bx0];omega) (fun p hp=>(List.mem_append.1 hp).elim (h2 p) (nH p)),zJl,Comp.zB,decide_eq_true h,Bool.true_and]
 ·rw[if_neg (by simpa using h),Comp.zB,decide_eq_false h,Bool.false_and]
theorem gz (a b:List Pln):(j3 a b).val=some (apa a b,()):=by
 unfold j3
 rw[vi,zA,YZ _ (by simp),zJl]
 simp only[List.all_cons,List.all_nil,Bool.and_true,yb,Bool.not_not]
 unfold apa
 by_cases h:(decide (chk a=0) && decide (chk b=0))=true
 ·rw[if_pos h,h]
  simp only[zJn,decide_eq_true_eq]at h
  obtain⟨h1,h2⟩:=XH h.1
  obtain⟨h3,h4⟩:=XH h.2
  rw[zA,jB (by simp) (by simp;omega),zJl,zA]
  simp only[List.flatten_cons,List.flatten_nil,List.append_nil]
  rw[BQ (by simp[bx0];omega) (fun p hp=>(List.mem_append.1 hp).elim (fun hp=>(List.mem_append.1 hp).elim (h2 p) (h4 p)) (nH p)),zJl,Comp.zB]
  rfl
 ·have h':(decide (chk a=0) && decide (chk b=0))=false:=by simpa using h
  rw[if_neg h,h',Comp.zB];rfl
theorem K5 (p:Pln) (x:Pnt):(zg p x).val=some (rm p x,()):=by
 unfold zg
 rw[Comp.zB]
 congr 2
 unfold rm dt
 simp only[N8,Qg,Gs,Gp]
 congr 1
 omega
theorem S5 {r:List Pln} {x:Pnt} (hl:r.length<9223372036854775807):(vw r x).val=some (ins r x,()):=by
 unfold vw
 have h1:=ZL r (fun p=>decide (0≤rm p x)) (c:=(Sum.inr false:Unit⊕Bool)) (d:=Sum.inl ())
  (body:=(fun (x_1:Int)=>if ltI x_1 (zF r)=true then
       (idx r x_1).bind fun x_2=>(Go.F.zg x_2 x).bind fun x_3=>if ltI x_3.1 0=true then Comp.pure (.done (Sum.inr false)) else Comp.pure (.next (zI .i64 x_1 1))
      else Comp.pure (.done (Sum.inl ()))))
  (fun i p hp=>by
   have hlt:=zM hp
   rw[if_pos (by rw[zG,zC];omega),zA,zJ hp,zJl,zA,K5,zJl,zN (by omega)]
   by_cases h:rm p x<0
   ·rw[if_pos (by rw[zG];exact h),Comp.zB,if_neg (by simp;omega)]
   ·rw[if_neg (by rw[zG];exact h),Comp.zB,if_pos (by simp;omega)])
  (by rw[if_neg (by rw[zG,zC];omega),Comp.zB])
 rw[zA]
 refine(congrArg (fun o=>Option.bind o _) h1).trans ?_
 rw[zJl]
 unfold ins
 cases r.all fun p=>decide (0≤rm p x)<;>exact Comp.zB _
theorem C1 {l:List Pnt} {x:Pnt} (hl:l.length<9223372036854775807):(ym l x).val=some (decide (x∈l),()):=by
 unfold ym
 have h1:=ZL l (fun y=>!decide (y=x)) (c:=(Sum.inr true:Unit⊕Bool)) (d:=Sum.inl ())
  (body:=(fun (i:Int)=>if ltI i (zF l)=true then
       (idx l i).bind fun x_1=>if adB (eqI x_1.1 x.1) (adB (eqI x_1.2.1 x.2.1) (adB (eqI x_1.2.2.1 x.2.2.1) (eqI x_1.2.2.2.1 x.2.2.2.1)))=true then
         Comp.pure (.done (Sum.inr true))
        else Comp.pure (.next (zI .i64 i 1))
      else Comp.pure (.done (Sum.inl ()))))
  (fun i p hp=>by
   have hlt:=zM hp
   have he:adB (eqI p.1 x.1) (adB (eqI p.2.1 x.2.1) (adB (eqI p.2.2.1 x.2.2.1) (eqI p.2.2.2.1 x.2.2.2.1)))=decide (p=x):=mI p x
   rw[if_pos (by rw[zG,zC];omega),zA,zJ hp,zJl,zN (by omega)]
   by_cases h:p=x
   ·rw[if_pos (by rw[he];exact decide_eq_true h),Comp.zB,if_neg (by simp[h])]
   ·rw[if_neg (by rw[he,decide_eq_false h];simp),Comp.zB,if_pos (by simp[h])])
  (by rw[if_neg (by rw[zG,zC];omega),Comp.zB])
 rw[zA]
 refine(congrArg (fun o=>Option.bind o _) h1).trans ?_
 rw[zJl]
 by_cases h:x∈l
 ·have:(l.all fun y=>!decide (y=x))=false:=by
   rw[List.all_eq_false];exact⟨x,h,by simp⟩
  rw[this,decide_eq_true h]
  exact Comp.zB _
 ·have:(l.all fun y=>!decide (y=x))=true:=by
   rw[List.all_eq_true];intro y hy;simp;intro e;subst e;exact h hy
  rw[this,decide_eq_false h]
  exact Comp.zB _
theorem jV {body:σ×Int→Comp (Comp.Step (σ×Int) σ)} (n:Nat) (G F:Nat→σ→σ) (I:σ→Nat→Prop)
  (hb:∀s (i:Nat),i<n→I s i→(body (s,(i:Int))).val=some (.next (G i s,((i+1:Nat):Int)))∧I (G i s) (i+1)∧F i s=F (i+1) (G i s)) (he:∀s,(body (s,(n:Int))).val=some (.done s)) (hF:∀s,F n s=s) :
  ∀(k:Nat) (s:σ),k≤n→I s k→(Comp.loop body (s,(k:Int))).val=some (F k s):=by
 have key:∀(m k:Nat) (s:σ),k+m=n→I s k→(Comp.loop body (s,(k:Int))).val=some (F k s):=by
  intro m
  induction m with
  |zero =>
   intro k s hk hI
   rw[show k=n by omega,zL,he,hF];rfl
  |succ m ih =>
   intro k s hk hI
   obtain⟨h1,h2,h3⟩:=hb s k (by omega) hI
   rw[zL,h1,h3]
   exact ih (k+1) (G k s) (by omega) h2
 exact fun k s hk hI=>key (n-k) k s (by omega) hI
theorem drop_cons {xs:List α} {k:Nat} {x:α} (h:xs[k]?=some x):xs.drop k=x::xs.drop (k+1):=by
 have:=List.getElem?_eq_some_iff.1 h
 rw[List.drop_eq_getElem_cons this.1];congr 1;exact this.2
theorem pK {r:List Pln} (ts:List (Pln×Pln×Pln)):∀(l:List Pnt),(ts.foldl (kY r) l).length≤l.length+ts.length:=by
 induction ts with
 |nil=>intro l;simp
 |cons t ts ih =>
  intro l
  have h1:=ih (kY r l t)
  have h2:=KV (r:=r) (l:=l) (t:=t)
  simp only[List.foldl_cons,List.length_cons];omega
theorem wO {b i h:Bool} {c:Comp (Bool×Unit)} {d:Comp (Bool×Unit)} (hc:b=true→c.val=some (i,())) (hd:b=true→i=true→d.val=some (h,())) {A B:Comp β} :
  ((Comp.gd b c (false,())).bind fun x5=>(Comp.gd (sel b x5.1 false) d (false,())).bind fun x6=>if sel (sel b x5.1 false) (ntB x6.1) false=true then A else B).val=(bif b && (i && !h) then A else B).val:=by
 rw[zA]
 cases b with
 |false =>
  show (Option.bind (Comp.pure (false,())).val _)=_
  rw[Comp.zB,zJl,zA]
  show (Option.bind (Comp.pure (false,())).val _)=_
  rw[Comp.zB,zJl];rfl
 |true =>
  have h1:=hc rfl
  show (Option.bind c.val _)=_
  rw[h1,zJl,zA]
  cases i with
  |false =>
   show (Option.bind (Comp.pure (false,())).val _)=_
   rw[Comp.zB,zJl];rfl
  |true =>
   have h2:=hd rfl rfl
   show (Option.bind d.val _)=_
   rw[h2,zJl]
   cases h<;>rfl
theorem KB {r:List Pln} (hl:r.length≤1000) (hb:∀p∈r,okB p):(vZ r).val=some (crn r,()):=by
 have hL:=YT
 have h3:(tri r).length≤1000000000:=by
  refine Nat.le_trans (Kd r) ?_
  exact Nat.mul_le_mul hl (Nat.mul_le_mul hl hl)
 unfold vZ
 -- the innermost walk
 have inner:∀(i j:Nat) (p q:Pln),r[i]?=some p→r[j]?=some q→∀(k:Nat) (l:List Pnt),k≤r.length→l.length+(r.length-k)≤1000000000→(Comp.loop
               (fun (x_2:List (Pnt)×Int)=>if ltI x_2.2 (zF r)=true then
                 (idx r (i:Int)).bind fun x=>(idx r (j:Int)).bind fun x_3=>(idx r x_2.2).bind fun x_4=>(Go.F.y9 x x_3 x_4).bind fun x=>(Comp.gd x.2.1 (Go.F.vw r x.1) (false,())).bind fun x_5=>(Comp.gd (sel x.2.1 x_5.1 false) (Go.F.ym x_2.1 x.1) (false,())).bind fun x_6=>jn (fun (x:List (Pnt))=>Comp.pure (.next (x,zI .i64 x_2.2 1)))
                        fun (j :
                          List (Pnt)→Comp (Comp.Step (List (Pnt)×Int) (List (Pnt)))) =>
                        if sel (sel x.2.1 x_5.1 false) (ntB x_6.1) false=true then
                         (app x_2.1 [x.1]).bind fun zs=>j zs
                        else j x_2.1
                else Comp.pure (.done x_2.1)) (l,(k:Int))).val=some ((r.drop k).foldl (fun l s=>kY r l (p,q,s)) l):=by
  intro i j p q hp hq
  refine jV r.length (fun k l=>match r[k]? with|some s=>kY r l (p,q,s)|none=>l) (fun k l=>(r.drop k).foldl (fun l s=>kY r l (p,q,s)) l) (fun l k=>l.length+(r.length-k)≤1000000000)
   (fun l k hk hI=>?_) (fun l=>by rw[if_neg (by rw[zG,zC];simp),Comp.zB]) (fun l=>by rw[List.drop_length];rfl)
  obtain⟨s,hs⟩:=zQ (xs:=r) (k:=k) hk
  have hlen:=KV (r:=r) (l:=l) (t:=(p,q,s))
  refine⟨?_,by rw[hs];show (kY r l (p,q,s)).length+_≤_;omega,by rw[drop_cons hs,hs];rfl⟩
  rw[hs]
  simp only
  rw[if_pos (by rw[zG,zC];show (k:Int)<_;omega),zA,zJ hp,zJl,zA,zJ hq,zJl,zA,zJ hs,zJl,zA,
   H0 (hb p (List.mem_of_getElem? hp)) (hb q (List.mem_of_getElem? hq)) (hb s (List.mem_of_getElem? hs)),zJl]
  let A0:Pnt→Comp (Comp.Step (List Pnt×Int) (List Pnt)):=fun x=>(app l [x]).bind fun zs=>Comp.pure (.next (zs,zI .i64 (k:Int) 1))
  let B0:Comp (Comp.Step (List Pnt×Int) (List Pnt)):=Comp.pure (.next (l,zI .i64 (k:Int) 1))
  cases hm:mt p q s with
  |none =>
   have hcr:kY r l (p,q,s)=l:=by unfold kY;rw[hm]
   rw[hcr]
   refine(wO (b:=false) (i:=false) (h:=false) (fun h=>nomatch h) (fun h=>nomatch h) (A:=A0 (0,0,0,0,())) (B:=B0)).trans ?_
   show B0.val=_
   rw[←zN (show k<9223372036854775807 by omega)]
   exact Comp.zB _
  |some x =>
   have hcr:kY r l (p,q,s)=if x∈l then l else bif ins r x then l++[x] else l:=by unfold kY;rw[hm]
   refine(wO (b:=true) (i:=ins r x) (h:=decide (x∈l)) (fun _=>S5 (by omega)) (fun _ _=>C1 (by omega)) (A:=A0 x) (B:=B0)).trans ?_
   rw[hcr,←zN (show k<9223372036854775807 by omega)]
   by_cases hx:x∈l
   ·rw[decide_eq_true hx,if_pos hx]
    cases ins r x<;>exact Comp.zB _
   ·rw[decide_eq_false hx,if_neg hx]
    cases ins r x with
    |false=>exact Comp.zB _
    |true =>
     show (A0 x).val=_
     show ((app l [x]).bind fun zs=>(Comp.pure (.next (zs,zI .i64 (k:Int) 1)):Comp (Comp.Step (List Pnt×Int) (List Pnt)))).val=_
     rw[zA,zr (by simp only[zJq];unfold LIM;omega),zJl,Comp.zB]
     rfl
 have mid:∀(i:Nat) (p:Pln),r[i]?=some p→∀(k:Nat) (l:List Pnt),k≤r.length→l.length+(prs (r.drop k)).length≤1000000000→(Comp.loop
          (fun (x_1:List (Pnt)×Int)=>if ltI x_1.2 (zF r)=true then
            (Comp.loop
               (fun (x_2:List (Pnt)×Int)=>if ltI x_2.2 (zF r)=true then
                 (idx r (i:Int)).bind fun x=>(idx r x_1.2).bind fun x_3=>(idx r x_2.2).bind fun x_4=>(Go.F.y9 x x_3 x_4).bind fun x=>(Comp.gd x.2.1 (Go.F.vw r x.1) (false,())).bind fun x_5=>(Comp.gd (sel x.2.1 x_5.1 false) (Go.F.ym x_2.1 x.1) (false,())).bind fun x_6=>jn (fun (x:List (Pnt))=>Comp.pure (.next (x,zI .i64 x_2.2 1)))
                        fun (j :
                          List (Pnt)→Comp (Comp.Step (List (Pnt)×Int) (List (Pnt)))) =>
                        if sel (sel x.2.1 x_5.1 false) (ntB x_6.1) false=true then
                         (app x_2.1 [x.1]).bind fun zs=>j zs
                        else j x_2.1
                else Comp.pure (.done x_2.1))
               (x_1.1,zI .i64 x_1.2 1)).bind fun x=>Comp.pure (.next (x,zI .i64 x_1.2 1))
           else Comp.pure (.done x_1.1)) (l,(k:Int))).val=some ((prs (r.drop k)).foldl (fun l t=>kY r l (p,t)) l):=by
  intro i p hp
  refine jV r.length (fun k l=>match r[k]? with|some q=>(r.drop (k+1)).foldl (fun l s=>kY r l (p,q,s)) l|none=>l) (fun k l=>(prs (r.drop k)).foldl (fun l t=>kY r l (p,t)) l) (fun l k=>l.length+(prs (r.drop k)).length≤1000000000)
   (fun l k hk hI=>?_) (fun l=>by rw[if_neg (by rw[zG,zC];simp),Comp.zB]) (fun l=>by rw[List.drop_length];rfl)
  obtain⟨q,hq⟩:=zQ (xs:=r) (k:=k) hk
  have hpl:(prs (r.drop k)).length=(r.length-(k+1))+(prs (r.drop (k+1))).length:=by rw[drop_cons hq,prs,zJo,List.length_map,List.length_drop]
  have hfl:((r.drop (k+1)).foldl (fun l s=>kY r l (p,q,s)) l).length≤l.length+(r.length-(k+1)):=by
   have:=pK (r:=r) ((r.drop (k+1)).map fun s=>(p,q,s)) l
   rw[List.foldl_map,List.length_map,List.length_drop]at this
   exact this
  refine⟨?_,by rw[hq];show ((r.drop (k+1)).foldl (fun l s=>kY r l (p,q,s)) l).length+_≤_;omega,by rw[drop_cons hq,hq,prs,List.foldl_append,List.foldl_map]⟩
  rw[hq]
  simp only
  rw[if_pos (by rw[zG,zC];show (k:Int)<_;omega),zA]
  have h4:=inner i k p q hp hq (k+1) l (by omega) (by omega)
  rw[←zN (show k<9223372036854775807 by omega)]at h4
  refine(congrArg (fun o=>Option.bind o _) h4).trans ?_
  rw[zJl,Comp.zB,zN (show k<9223372036854775807 by omega)]
 have outer:∀(k:Nat) (l:List Pnt),k≤r.length→l.length+(tri (r.drop k)).length≤1000000000→(Comp.loop
     (fun (x:List (Pnt)×Int)=>if ltI x.2 (zF r)=true then
       (Comp.loop
          (fun (x_1:List (Pnt)×Int)=>if ltI x_1.2 (zF r)=true then
            (Comp.loop
               (fun (x_2:List (Pnt)×Int)=>if ltI x_2.2 (zF r)=true then
                 (idx r x.2).bind fun x=>(idx r x_1.2).bind fun x_3=>(idx r x_2.2).bind fun x_4=>(Go.F.y9 x x_3 x_4).bind fun x=>(Comp.gd x.2.1 (Go.F.vw r x.1) (false,())).bind fun x_5=>(Comp.gd (sel x.2.1 x_5.1 false) (Go.F.ym x_2.1 x.1) (false,())).bind fun x_6=>jn (fun (x:List (Pnt))=>Comp.pure (.next (x,zI .i64 x_2.2 1)))
                        fun (j :
                          List (Pnt)→Comp (Comp.Step (List (Pnt)×Int) (List (Pnt)))) =>
                        if sel (sel x.2.1 x_5.1 false) (ntB x_6.1) false=true then
                         (app x_2.1 [x.1]).bind fun zs=>j zs
                        else j x_2.1
                else Comp.pure (.done x_2.1))
               (x_1.1,zI .i64 x_1.2 1)).bind fun x=>Comp.pure (.next (x,zI .i64 x_1.2 1))
           else Comp.pure (.done x_1.1))
          (x.1,zI .i64 x.2 1)).bind fun x_1=>Comp.pure (.next (x_1,zI .i64 x.2 1))
      else Comp.pure (.done x.1)) (l,(k:Int))).val=some ((tri (r.drop k)).foldl (kY r) l):=by
  refine jV r.length (fun k l=>match r[k]? with|some p=>(prs (r.drop (k+1))).foldl (fun l t=>kY r l (p,t)) l|none=>l) (fun k l=>(tri (r.drop k)).foldl (kY r) l) (fun l k=>l.length+(tri (r.drop k)).length≤1000000000)
   (fun l k hk hI=>?_) (fun l=>by rw[if_neg (by rw[zG,zC];simp),Comp.zB]) (fun l=>by rw[List.drop_length];rfl)
  obtain⟨p,hp⟩:=zQ (xs:=r) (k:=k) hk
  have hpl:(tri (r.drop k)).length=(prs (r.drop (k+1))).length+(tri (r.drop (k+1))).length:=by rw[drop_cons hp,tri,zJo,List.length_map]
  have hfl:((prs (r.drop (k+1))).foldl (fun l t=>kY r l (p,t)) l).length≤l.length+(prs (r.drop (k+1))).length:=by
   have:=pK (r:=r) ((prs (r.drop (k+1))).map fun t=>(p,t)) l
   rw[List.foldl_map,List.length_map]at this
   exact this
  refine⟨?_,by rw[hp];show ((prs (r.drop (k+1))).foldl (fun l t=>kY r l (p,t)) l).length+_≤_;omega,by rw[drop_cons hp,hp,tri,List.foldl_append,List.foldl_map]⟩
  rw[hp]
  simp only
  rw[if_pos (by rw[zG,zC];show (k:Int)<_;omega),zA]
  have h4:=mid k p hp (k+1) l (by omega) (by omega)
  rw[←zN (show k<9223372036854775807 by omega)]at h4
  refine(congrArg (fun o=>Option.bind o _) h4).trans ?_
  rw[zJl,Comp.zB,zN (show k<9223372036854775807 by omega)]
 have h1:=outer 0 [] (Nat.zero_le _) (by simpa using h3)
 rw[zA]
 refine(congrArg (fun o=>Option.bind o _) h1).trans ?_
 rw[zJl]
 exact Comp.zB _
theorem rh {r:List Pln} (hl:r.length≤1000) (hb:∀p∈r,okB p):(gl r).val=some (full r,()):=by
 have hL:=YT
 have h3:(crn r).length≤1000000000:=by
  refine Nat.le_trans (mO r) (Nat.le_trans (Kd r) ?_)
  exact Nat.mul_le_mul hl (Nat.mul_le_mul hl hl)
 unfold gl
 rw[zA,KB hl hb,zJl]
 have inner:∀(i:Nat) (p:Pln),r[i]?=some p→(Comp.loop
           (fun (x_1:Bool×Int)=>if ltI x_1.2 (zF (crn r))=true then
             (Comp.gd (ntB x_1.1) (idx r (i:Int)) ((0,0,0,()),0,())).bind fun x=>(Comp.gd (ntB x_1.1) (idx (crn r) x_1.2) (0,0,0,0,())).bind fun x_2=>(Comp.gd (ntB x_1.1) (Go.F.zg x x_2) (0,())).bind fun x=>Comp.pure (.next (sel x_1.1 true (gtI x.1 0),zI .i64 x_1.2 1))
            else Comp.pure (.done x_1.1))
           (false,((0:Nat):Int))).val=some ((crn r).any fun x=>decide (0<rm p x)):=by
  intro i p hp
  have h5:=jV (crn r).length (fun k b=>match (crn r)[k]? with|some x=>b || decide (0<rm p x)|none=>b) (fun k b=>b || ((crn r).drop k).any fun x=>decide (0<rm p x)) (fun _ _=>True)
   (body:=(fun (x_1:Bool×Int)=>if ltI x_1.2 (zF (crn r))=true then
             (Comp.gd (ntB x_1.1) (idx r (i:Int)) ((0,0,0,()),0,())).bind fun x=>(Comp.gd (ntB x_1.1) (idx (crn r) x_1.2) (0,0,0,0,())).bind fun x_2=>(Comp.gd (ntB x_1.1) (Go.F.zg x x_2) (0,())).bind fun x=>Comp.pure (.next (sel x_1.1 true (gtI x.1 0),zI .i64 x_1.2 1))
            else Comp.pure (.done x_1.1)))
   (fun b k hk _=>by
    obtain⟨x,hx⟩:=zQ (xs:=crn r) (k:=k) hk
    refine⟨?_,trivial,by rw[drop_cons hx,hx,List.any_cons,Bool.or_assoc]⟩
    rw[hx]
    simp only
    rw[if_pos (by rw[zG,zC];show (k:Int)<_;omega),zA]
    cases b with
    |true =>
     show Option.bind (Comp.pure _).val _=_
     rw[Comp.zB,zJl,zA]
     show Option.bind (Comp.pure _).val _=_
     rw[Comp.zB,zJl,zA]
     show Option.bind (Comp.pure _).val _=_
     rw[Comp.zB,zJl,Comp.zB,zN (by omega)]
     rfl
    |false =>
     show Option.bind (idx r (i:Int)).val _=_
     rw[zJ hp,zJl,zA]
     show Option.bind (idx (crn r) (k:Int)).val _=_
     rw[zJ hx,zJl,zA]
     show Option.bind (zg p x).val _=_
     rw[K5,zJl,Comp.zB,zN (by omega)]
     rfl)
   (fun b=>by rw[if_neg (by rw[zG,zC];simp),Comp.zB]) (fun b=>by rw[List.drop_length];simp) 0 false (Nat.zero_le _) trivial
  simpa using h5
 have h1:=ZL r (fun p=>(crn r).any fun x=>decide (0<rm p x)) (c:=(Sum.inr false:Unit⊕Bool)) (d:=Sum.inl ())
  (body:=(fun (x:Int)=>if ltI x (zF r)=true then
        (Comp.loop
           (fun (x_1:Bool×Int)=>if ltI x_1.2 (zF (crn r))=true then
             (Comp.gd (ntB x_1.1) (idx r x) ((0,0,0,()),0,())).bind fun x=>(Comp.gd (ntB x_1.1) (idx (crn r) x_1.2) (0,0,0,0,())).bind fun x_2=>(Comp.gd (ntB x_1.1) (Go.F.zg x x_2) (0,())).bind fun x=>Comp.pure (.next (sel x_1.1 true (gtI x.1 0),zI .i64 x_1.2 1))
            else Comp.pure (.done x_1.1))
           (false,0)).bind fun x_1=>if ntB x_1=true then Comp.pure (.done (Sum.inr false)) else Comp.pure (.next (zI .i64 x 1))
       else Comp.pure (.done (Sum.inl ()))))
  (fun i p hp=>by
   have hlt:=zM hp
   rw[if_pos (by rw[zG,zC];omega),zA]
   refine(congrArg (fun o=>Option.bind o _) (inner i p hp)).trans ?_
   rw[zJl,zN (by omega)]
   cases (crn r).any fun x=>decide (0<rm p x)<;>exact Comp.zB _)
  (by rw[if_neg (by rw[zG,zC];omega),Comp.zB])
 rw[zA]
 refine(congrArg (fun o=>Option.bind o _) h1).trans ?_
 rw[zJl]
 unfold full
 cases r.all fun p=>(crn r).any fun x=>decide (0<rm p x)<;>exact Comp.zB _
theorem qL {c:List Pln} (h:c.length≤1000):(gH c).val=some (c++bx0,()):=by
 unfold gH
 have h1:(yG (-24, -24, -24,()) (24,24,24,())).val=some (bx0,()):=by
  unfold yG
  rw[Comp.zB]
  rfl
 rw[zA,zr (by simp;unfold LIM;omega),zJl,zA,h1,zJl,zA,zr (by simp[bx0];unfold LIM;omega),zJl,Comp.zB]
 simp
theorem YU (c:List Pln):(zu c).val=some (ful c,()):=by
 unfold zu
 rw[vi,zA,jz,zJl]
 unfold ful
 by_cases h:chk c=0
 ·obtain⟨h1,h2⟩:=XH h
  rw[if_pos (by rw[y5];exact h),zA,qL (by omega),zJl,zA,
   rh (by simp[bx0];omega) (fun p hp=>(List.mem_append.1 hp).elim (h2 p) (nH p)),zJl,Comp.zB,decide_eq_true h,Bool.true_and]
 ·rw[if_neg (by rw[y5];exact h),Comp.zB,decide_eq_false h,Bool.false_and]
theorem ZU (a b:List Pln):(zf a b).val=some (apa a b,()):=by
 unfold zf
 rw[zA,jz,zJl,zA]
 unfold apa
 by_cases ha:chk a=0
 ·obtain⟨h1,h2⟩:=XH ha
  have e1:neI (chk a) 0=false:=by unfold neI;simp[ha]
  show Option.bind (Comp.gd (ntB (neI (chk a) 0)) _ _).val _=_
  rw[e1]
  show Option.bind (zb b).val _=_
  rw[jz,zJl]
  by_cases hb:chk b=0
  ·obtain⟨h3,h4⟩:=XH hb
   have e2:neI (chk b) 0=false:=by unfold neI;simp[hb]
   rw[if_neg (by show ¬sel false true (neI (chk b) 0)=true;rw[e2];simp[sel]),zA,zr (by simp;unfold LIM;omega),zJl,zA,zr (by simp;unfold LIM;omega),zJl,zA]
   simp only[List.nil_append]
   rw[qL (by simp;omega),zJl,zA,
    rh (by simp[bx0];omega) (fun p hp=>(List.mem_append.1 hp).elim (fun hp=>(List.mem_append.1 hp).elim (h2 p) (h4 p)) (nH p)),zJl,Comp.zB,decide_eq_true ha,decide_eq_true hb]
   rfl
  ·have e2:neI (chk b) 0=true:=by unfold neI;simp[hb]
   rw[if_pos (by show sel false true (neI (chk b) 0)=true;rw[e2];rfl),Comp.zB,decide_eq_true ha,decide_eq_false hb]
   rfl
 ·have e1:neI (chk a) 0=true:=by unfold neI;simp[ha]
  show Option.bind (Comp.gd (ntB (neI (chk a) 0)) _ _).val _=_
  rw[e1]
  show Option.bind (Comp.pure _).val _=_
  rw[Comp.zB,zJl,if_pos (by rfl),Comp.zB,decide_eq_false ha]
  rfl
theorem Y7 (a b:V3):cr b a=sc (cr a b) (-1):=by
 unfold cr sc
 simp only[Int.mul_neg,Int.mul_one,Prod.mk.injEq,and_true]
 refine⟨?_,?_,?_⟩
 ·rw[Int.mul_comm b.2.1,Int.mul_comm b.2.2.1];omega
 ·rw[Int.mul_comm b.2.2.1,Int.mul_comm b.1];omega
 ·rw[Int.mul_comm b.1,Int.mul_comm b.2.1];omega
theorem Wi (a b:V3) (n:Int):dt a (sc b n)=dt a b * n:=by
 unfold dt sc
 simp only[←Int.mul_assoc,←Int.add_mul]
theorem p6 (a:V3) (m n:Int):sc (sc a m) n=sc (sc a n) m:=by
 unfold sc
 simp only[Prod.mk.injEq,and_true]
 refine⟨?_,?_,?_⟩<;>rw[Int.mul_right_comm]
theorem Ha (a b:V3) (n:Int):ad (sc a n) (sc b n)=sc (ad a b) n:=by
 unfold ad sc
 simp only[Int.add_mul]
theorem VT (a b:V3):ad a b=ad b a:=by
 unfold ad
 simp only[Prod.mk.injEq,and_true]
 refine⟨?_,?_,?_⟩<;>omega
theorem N0 (a b c:V3):ad (ad a b) c=ad (ad a c) b:=by
 unfold ad
 simp only[Prod.mk.injEq,and_true]
 refine⟨?_,?_,?_⟩<;>omega
theorem zCc (p q r:Pln):det p r q = - det p q r:=by
 unfold det
 rw[Y7 q.1 r.1,Wi];omega
theorem zCd (p q r:Pln):det q p r = - det p q r:=by
 rw[mL q p r,mL p q r,Y7 p.1 q.1,Wi];omega
theorem zBx (p q r:Pln):num p r q=sc (num p q r) (-1):=by
 unfold num
 rw[Y7 q.1 r.1,Y7 p.1 q.1,Y7 r.1 p.1,p6 (cr q.1 r.1),p6 (cr p.1 q.1),p6 (cr r.1 p.1),Ha,Ha,N0]
theorem zBy (p q r:Pln):num q p r=sc (num p q r) (-1):=by
 unfold num
 rw[Y7 q.1 r.1,Y7 p.1 q.1,Y7 r.1 p.1,p6 (cr q.1 r.1),p6 (cr p.1 q.1),p6 (cr r.1 p.1),Ha,Ha,VT (sc (cr r.1 p.1) q.2.1)]
theorem Ul {v:V3} {w:Int} (h:w≠0):mkP (sc v (-1)) (-w)=mkP v w:=by
 have hg:XC (sc v (-1)) (-w)=XC v w:=by
  unfold XC sc
  simp only[Int.natAbs_mul,Int.natAbs_neg]
  simp
 unfold mkP
 simp only[hg]
 unfold sc
 simp only[Int.mul_neg,Int.mul_one,Int.neg_neg]
 by_cases h1:w<0
 ·rw[if_neg (by omega),if_pos h1]
 ·rw[if_pos (by omega),if_neg h1]
theorem Qh {p q r p' q' r':Pln} (hd:det p' q' r' = - det p q r) (hn:num p' q' r'=sc (num p q r) (-1)):mt p' q' r'=mt p q r:=by
 unfold mt
 rw[hd,hn]
 by_cases h:det p q r=0
 ·rw[if_pos (by omega),if_pos h]
 ·rw[if_neg (by omega),if_neg h,Ul h]
def mtL:List Pln→Option Pnt
 | [p,q,r]=>mt p q r
 |_=>none
theorem MJ {a b c d:α} (h:[a,b].Perm [c,d]):(a=c∧b=d)∨(a=d∧b=c):=by
 have hc:c∈[a,b]:=h.symm.subset (by simp)
 simp only[List.mem_cons,List.not_mem_nil,or_false]at hc
 rcases hc with rfl|rfl
 ·have:=List.perm_singleton.1 h.cons_inv
  exact .inl ⟨rfl,by simpa using this⟩
 ·have:=List.perm_singleton.1 ((List.Perm.swap a c []).trans h).cons_inv
  exact .inr ⟨by simpa using this,rfl⟩
theorem NJ {l l':List Pln} (h:l.Perm l'):mtL l=mtL l':=by
 induction h with
 |nil=>rfl
 |cons x h ih =>
  rename_i l1 l2
  have hlen:=h.length_eq
  match l1,l2,hlen,h with
  | [a,b],[c,d],_,h =>
   rcases MJ h with ⟨rfl,rfl⟩|⟨rfl,rfl⟩
   ·rfl
   ·exact Qh (zCc _ _ _) (zBx _ _ _)
  | [],[],_,_=>rfl
  | [_],[_],_,_=>rfl
  |_::_::_::_,_::_::_::_,_,_=>rfl
 |swap x y l =>
  match l with
  | [z]=>exact Qh (zCd _ _ _) (zBy _ _ _)
  | []=>rfl
  |_::_::_=>rfl
 |trans _ _ ih1 ih2=>exact ih1.trans ih2
theorem E6 {l:List α} {a b:α}:(a,b)∈prs l↔[a,b].Sublist l:=by
 induction l with
 |nil=>simp[prs]
 |cons x l ih =>
  simp only[prs,List.mem_append,List.mem_map,Prod.mk.injEq]
  constructor
  ·rintro(⟨s,h1,rfl,rfl⟩|h)
   ·exact List.Sublist.cons_cons _ (List.singleton_sublist.2 h1)
   ·exact(ih.1 h).cons _
  ·intro h
   cases h with
   |cons _ h=>exact .inr (ih.2 h)
   |cons_cons _ h=>exact .inl ⟨b,List.singleton_sublist.1 h,rfl,rfl⟩
theorem Em {l:List α} {a b c:α}:(a,b,c)∈tri l↔[a,b,c].Sublist l:=by
 induction l with
 |nil=>simp[tri]
 |cons x l ih =>
  simp only[tri,List.mem_append,List.mem_map,Prod.mk.injEq]
  constructor
  ·rintro(⟨⟨s,t⟩,h1,rfl,h2⟩|h)
   ·cases h2
    exact List.Sublist.cons_cons _ (E6.1 h1)
   ·exact(ih.1 h).cons _
  ·intro h
   cases h with
   |cons _ h=>exact .inr (ih.2 h)
   |cons_cons _ h=>exact .inl ⟨(b,c),E6.2 h,rfl,rfl⟩
theorem U9 {r:List Pln} {x:Pnt}:x∈crn r↔ins r x=true∧∃t∈tri r,mt t.1 t.2.1 t.2.2=some x:=by
 have key:∀(ts:List (Pln×Pln×Pln)) (l:List Pnt),x∈ts.foldl (kY r) l↔x∈l∨(ins r x=true∧∃t∈ts,mt t.1 t.2.1 t.2.2=some x):=by
  intro ts
  induction ts with
  |nil=>intro l;simp
  |cons t ts ih =>
   intro l
   rw[List.foldl_cons,ih]
   have hs:x∈kY r l t↔x∈l∨(ins r x=true∧mt t.1 t.2.1 t.2.2=some x):=by
    unfold kY
    cases hm:mt t.1 t.2.1 t.2.2 with
    |none=>simp
    |some y =>
     simp only[Option.some.injEq]
     by_cases hy:y∈l
     ·rw[if_pos hy]
      constructor
      ·exact .inl
      ·rintro(h|⟨_,rfl⟩)
       ·exact h
       ·exact hy
     ·rw[if_neg hy]
      cases hi:ins r y with
      |false =>
       rw[cond_false]
       constructor
       ·exact .inl
       ·rintro(h|⟨h1,rfl⟩)
        ·exact h
        ·rw[hi]at h1;cases h1
      |true =>
       rw[cond_true,List.mem_append,List.mem_singleton]
       constructor
       ·rintro(h|rfl)
        ·exact .inl h
        ·exact .inr ⟨hi,rfl⟩
       ·rintro(h|⟨_,rfl⟩)
        ·exact .inl h
        ·exact .inr rfl
   rw[hs]
   simp only[List.mem_cons,exists_eq_or_imp]
   constructor
   ·rintro((h|⟨h1,h2⟩)|⟨h1,h2⟩)
    ·exact .inl h
    ·exact .inr ⟨h1,.inl h2⟩
    ·exact .inr ⟨h1,.inr h2⟩
   ·rintro(h|⟨h1,h2|h2⟩)
    ·exact .inl (.inl h)
    ·exact .inl (.inr ⟨h1,h2⟩)
    ·exact .inr ⟨h1,h2⟩
 unfold crn
 rw[key]
 simp
theorem ML {r r':List α} (h:r.Perm r'):∀ {s:List α},s.Sublist r→∃s':List α,s'.Perm s∧s'.Sublist r':=by
 induction h with
 |nil=>exact fun {s} hs=>⟨s,.refl _,hs⟩
 |cons x h ih =>
  intro s hs
  cases hs with
  |cons _ hs =>
   obtain⟨s',h1,h2⟩:=ih hs
   exact⟨s',h1,h2.cons _⟩
  |cons_cons _ hs =>
   obtain⟨s',h1,h2⟩:=ih hs
   exact⟨x::s',h1.cons _,h2.cons_cons _⟩
 |swap x y l =>
  intro s hs
  cases hs with
  |cons _ hs =>
   cases hs with
   |cons _ hs=>exact⟨_,.refl _,(hs.cons _).cons _⟩
   |cons_cons _ hs=>exact⟨_,.refl _,(hs.cons _).cons_cons _⟩
  |cons_cons _ hs =>
   cases hs with
   |cons _ hs=>exact⟨_,.refl _,(hs.cons_cons _).cons _⟩
   |cons_cons _ hs=>exact⟨_,.swap _ _ _,(hs.cons_cons _).cons_cons _⟩
 |trans _ _ ih1 ih2 =>
  intro s hs
  obtain⟨s1,h1,h2⟩:=ih1 hs
  obtain⟨s2,h3,h4⟩:=ih2 h2
  exact⟨s2,h3.trans h1,h4⟩
theorem Nh {r r':List Pln} (h:r.Perm r') {x:Pnt} (hx:x∈crn r):x∈crn r':=by
 rw[U9]at hx ⊢
 obtain⟨h1,⟨a,b,c⟩,h2,h3⟩:=hx
 refine⟨?_,?_⟩
 ·unfold ins at h1 ⊢
  rw[List.all_eq_true]at h1 ⊢
  exact fun p hp=>h1 p (h.symm.subset hp)
 ·obtain⟨l,g1,g2⟩:=ML h (Em.1 h2)
  have hlen:=g1.length_eq
  match l,hlen,g1,g2 with
  | [a',b',c'],_,g1,g2=>exact⟨(a',b',c'),Em.2 g2,(NJ g1).trans h3⟩
theorem Ib {r r':List Pln} (h:r.Perm r'):full r=full r':=by
 have key:∀ {r r':List Pln},r.Perm r'→full r=true→full r'=true:=by
  intro r r' h hf
  unfold full at hf ⊢
  rw[List.all_eq_true]at hf ⊢
  intro p hp
  have:=hf p (h.symm.subset hp)
  rw[List.any_eq_true]at this ⊢
  obtain⟨x,h1,h2⟩:=this
  exact⟨x,Nh h h1,h2⟩
 rw[Bool.eq_iff_iff]
 exact⟨key h,key h.symm⟩
theorem qa (a b:List Pln):apa a b=apa b a:=by
 unfold apa
 rw[Bool.and_comm,Ib (List.Perm.append_right bx0 (List.perm_append_comm (l₁:=a) (l₂:=b)))]
abbrev SS (l:List Pln):Prop:=l.Pairwise LtP
abbrev SL (l:List Pln):Prop:=l.Pairwise fun p q=>¬LtP q p
theorem SS.eq {l m:List Pln} (hl:SS l) (hm:SS m) (h:∀p,p∈l↔p∈m):l=m:=by
 induction l generalizing m with
 |nil =>
  cases m with
  |nil=>rfl
  |cons q m=>have:=(h q).2 (by simp);cases this
 |cons p l ih =>
  cases m with
  |nil=>have:=(h p).1 (by simp);cases this
  |cons q m =>
   rw[SS,List.pairwise_cons]at hl hm
   have hpq:p=q:=by
    have h1:=(h p).1 (by simp)
    have h2:=(h q).2 (by simp)
    rcases List.mem_cons.1 h1 with rfl|h1
    ·rfl
    ·rcases List.mem_cons.1 h2 with rfl|h2
     ·rfl
     ·exact absurd (hl.1 q h2) fun k=>k.asym (hm.1 p h1)
   subst hpq
   congr 1
   refine ih hl.2 hm.2 fun x=>?_
   constructor
   ·intro hx
    have:=(h x).1 (List.mem_cons_of_mem _ hx)
    rcases List.mem_cons.1 this with rfl|h1
    ·exact absurd (hl.1 x hx) LtP.irr
    ·exact h1
   ·intro hx
    have:=(h x).2 (List.mem_cons_of_mem _ hx)
    rcases List.mem_cons.1 this with rfl|h1
    ·exact absurd (hm.1 x hx) LtP.irr
    ·exact h1
theorem qQ {p x:Pln}:∀ {l:List Pln},x∈Ku p l↔x=p∨x∈l
 | []=>by simp[Ku]
 |q::l=>by
  unfold Ku
  split
  ·rw[List.mem_cons,qQ,List.mem_cons]
   constructor
   ·rintro(h|h|h)
    ·exact .inr (.inl h)
    ·exact .inl h
    ·exact .inr (.inr h)
   ·rintro(h|h|h)
    ·exact .inr (.inl h)
    ·exact .inl h
    ·exact .inr (.inr h)
  ·rw[List.mem_cons]
theorem GQ {p:Pln}:∀ {l:List Pln},SL l→SL (Ku p l)
 | [],_=>by simp[Ku]
 |q::l,h=>by
  rw[SL,List.pairwise_cons]at h
  unfold Ku
  split
  ·rename_i hc
   rw[SL,List.pairwise_cons]
   refine⟨fun x hx=>?_,GQ h.2⟩
   rcases qQ.1 hx with rfl|hx
   ·exact fun k=>k.asym (J8.1 hc)
   ·exact h.1 x hx
  ·rename_i hc
   rw[SL,List.pairwise_cons]
   refine⟨fun x hx=>?_,by rw[List.pairwise_cons];exact h⟩
   have hpq:¬LtP q p:=fun k=>hc (J8.2 k)
   rcases List.mem_cons.1 hx with rfl|hx2
   ·exact hpq
   ·intro k
    have hxq:=h.1 x hx2
    rcases LtP.tri p q with h1|h1|h1
    ·exact hxq (k.trans h1)
    ·exact hxq (h1 ▸ k)
    ·exact hpq h1
theorem qG {x:Pln}:∀ {l:List Pln},x∈Jj l↔x∈l
 | []=>by simp[Jj]
 |p::l=>by unfold Jj;rw[qQ,qG,List.mem_cons]
theorem Eu:∀ {l:List Pln},SL (Jj l)
 | []=>by simp[Jj]
 |p::l=>GQ Eu
theorem BM {p:Pln}:∀ {l:List Pln},(Ku p l).length=l.length+1
 | []=>rfl
 |q::l=>by unfold Ku;split<;>simp[BM]
theorem qH:∀ {l:List Pln},(Jj l).length=l.length
 | []=>rfl
 |p::l=>by unfold Jj;rw[BM,qH];rfl
theorem pL:∀ {l:List Pln} {p:Pln},SL (p::l)→SS (p::Jw p l)∧∀x,x∈p::Jw p l↔x∈p::l
 | [],p,_=>⟨by simp[Jw],fun x=>by simp[Jw]⟩
 |q::l,p,h=>by
  rw[SL,List.pairwise_cons]at h
  obtain⟨h1,h2⟩:=pL h.2
  unfold Jw
  split
  ·rename_i e
   subst e
   refine⟨h1,fun x=>?_⟩
   rw[h2,List.mem_cons (l:=q::l)]
   simp
  ·rename_i e
   refine⟨?_,fun x=>?_⟩
   ·rw[SS,List.pairwise_cons]
    refine⟨fun x hx=>?_,h1⟩
    have hpq:LtP p q:=by
     rcases LtP.tri p q with k|k|k
     ·exact k
     ·exact absurd k.symm e
     ·exact absurd k (h.1 q (by simp))
    rcases List.mem_cons.1 hx with rfl|hx'
    ·exact hpq
    ·exact hpq.trans ((List.pairwise_cons.1 h1).1 x hx')
   ·rw[List.mem_cons,h2,←List.mem_cons]
theorem Ni {l:List Pln} (h:SL l):SS (cpc l)∧∀x,x∈cpc l↔x∈l:=by
 cases l with
 |nil=>exact⟨by simp[cpc],fun x=>by simp[cpc]⟩
 |cons p l=>exact pL h
def Yo (p:Pln):List Pln→List Pln
 | []=>[p]
 |q::l=>if Yq q p<0 then q::Yo p l else if q=p then q::l else p::q::l
theorem qM {p x:Pln}:∀ {l:List Pln},x∈Yo p l↔x=p∨x∈l
 | []=>by simp[Yo]
 |q::l=>by
  unfold Yo
  split
  ·rw[List.mem_cons,qM,List.mem_cons]
   constructor
   ·rintro(h|h|h)
    ·exact .inr (.inl h)
    ·exact .inl h
    ·exact .inr (.inr h)
   ·rintro(h|h|h)
    ·exact .inr (.inl h)
    ·exact .inl h
    ·exact .inr (.inr h)
  ·split
   ·rename_i e;subst e;simp
   ·rw[List.mem_cons]
theorem E5 {p:Pln}:∀ {l:List Pln},SS l→SS (Yo p l)
 | [],_=>by simp[Yo]
 |q::l,h=>by
  rw[SS,List.pairwise_cons]at h
  unfold Yo
  split
  ·rename_i hc
   rw[SS,List.pairwise_cons]
   refine⟨fun x hx=>?_,E5 h.2⟩
   rcases qM.1 hx with rfl|hx
   ·exact J8.1 hc
   ·exact h.1 x hx
  ·rename_i hc
   split
   ·rw[SS,List.pairwise_cons];exact h
   ·rename_i e
    have hpq:LtP p q:=by
     rcases LtP.tri p q with k|k|k
     ·exact k
     ·exact absurd k.symm e
     ·exact absurd (J8.2 k) hc
    rw[SS,List.pairwise_cons]
    refine⟨fun x hx=>?_,by rw[List.pairwise_cons];exact h⟩
    rcases List.mem_cons.1 hx with rfl|hx
    ·exact hpq
    ·exact hpq.trans (h.1 x hx)
theorem Ar {p:Pln}:∀ {l:List Pln},(Yo p l).length≤l.length+1
 | []=>by simp[Yo]
 |q::l=>by
  have:=Ar (p:=p) (l:=l)
  unfold Yo
  split
  ·simp only[List.length_cons];omega
  ·split<;>simp
theorem Mu (l:List Pln):l.foldl (fun m p=>Yo p m) []=cpc (Jj l):=by
 have key:∀(l m:List Pln),SS m→SS (l.foldl (fun m p=>Yo p m) m)∧∀x,x∈l.foldl (fun m p=>Yo p m) m↔x∈l∨x∈m:=by
  intro l
  induction l with
  |nil=>intro m hm;exact⟨hm,fun x=>by simp⟩
  |cons p l ih =>
   intro m hm
   obtain⟨h1,h2⟩:=ih (Yo p m) (E5 hm)
   refine⟨h1,fun x=>?_⟩
   rw[List.foldl_cons,h2,qM,List.mem_cons]
   constructor
   ·rintro(h|h|h)
    ·exact .inl (.inr h)
    ·exact .inl (.inl h)
    ·exact .inr h
   ·rintro((h|h)|h)
    ·exact .inr (.inl h)
    ·exact .inl h
    ·exact .inr (.inr h)
 obtain⟨h1,h2⟩:=key l [] (by simp)
 obtain⟨h3,h4⟩:=Ni (Eu (l:=l))
 refine SS.eq h1 h3 fun p=>?_
 rw[h2,h4,qG]
 simp
theorem H7 (a b:Int):(Zk a b).val=some (if a<b then -1 else if b<a then 1 else 0,()):=by
 unfold Zk
 by_cases h1:a<b
 ·rw[if_pos (by rw[zG];exact h1),if_pos h1,Comp.zB]
 ·rw[if_neg (by rw[zG];exact h1),if_neg h1]
  by_cases h2:b<a
  ·rw[if_pos (by rw[yQ];exact h2),if_pos h2,Comp.zB]
  ·rw[if_neg (by rw[yQ];exact h2),if_neg h2,Comp.zB]
def I2:List (Int×Int)→Int
 | []=>0
 |x::l=>if x.1<x.2 then -1 else if x.2<x.1 then 1 else I2 l
theorem Q4 (p q:Pln):Yq p q=I2 [(p.1.1,q.1.1),(p.1.2.1,q.1.2.1),(p.1.2.2.1,q.1.2.2.1),(p.2.1,q.2.1)]:=rfl
theorem AJ (p q:Pln):(kK p q).val=some (Yq p q,()):=by
 unfold kK
 rw[Q4]
 generalize hl:[(p.1.1,q.1.1),(p.1.2.1,q.1.2.1),(p.1.2.2.1,q.1.2.2.1),(p.2.1,q.2.1)]=l
 have hm:[[p.1.1,q.1.1],[p.1.2.1,q.1.2.1],[p.1.2.2.1,q.1.2.2.1],[p.2.1,q.2.1]]=l.map fun x=>[x.1,x.2]:=by rw[←hl];rfl
 have hlen:l.length=4:=by rw[←hl];rfl
 rw[hm]
 have key:∀(ys zs:List (Int×Int)),l=zs++ys→(Comp.loop
     (fun (x:Int×Int)=>if ltI x.2 (zF (l.map fun x=>[x.1,x.2]))=true then
       (idx (l.map fun x=>[x.1,x.2]) x.2).bind fun x_1=>(idx x_1 0).bind fun x_2=>(idx x_1 1).bind fun x_3=>(Go.F.Zk x_2 x_3).bind fun x_4=>if eqI x_4.1 0=true then Comp.pure (.next (x_4.1,zI .i64 x.2 1)) else Comp.pure (.done x_4.1)
      else Comp.pure (.done x.1)) (0,(zs.length:Int))).val=some (I2 ys):=by
  intro ys
  induction ys with
  |nil =>
   intro zs hx
   rw[zL,if_neg (by rw[zG,zC,List.length_map,hx];simp),Comp.zB];rfl
  |cons y ys ih =>
   intro zs hx
   have hy:(l.map fun x=>[x.1,x.2])[zs.length]?=some [y.1,y.2]:=by rw[hx];simp
   have hlt:=zM hy
   rw[List.length_map]at hlt
   have i0:(idx [y.1,y.2] 0).val=some y.1:=Km rfl
   have i1:(idx [y.1,y.2] 1).val=some y.2:=Km rfl
   rw[zL,if_pos (by rw[zG,zC,List.length_map];show (zs.length:Int)<_;omega),zA,zJ hy,zJl,zA,i0,zJl,zA,i1,zJl,zA,H7,zJl]
   unfold I2
   by_cases h1:y.1<y.2
   ·rw[if_pos h1,if_neg (by rw[y5];show ¬((-1:Int)=0);decide),Comp.zB,if_pos h1];rfl
   ·rw[if_neg h1]
    by_cases h2:y.2<y.1
    ·rw[if_pos h2,if_neg (by rw[y5];show ¬((1:Int)=0);decide),Comp.zB,if_neg h1,if_pos h2];rfl
    ·rw[if_neg h2,if_pos (by rw[y5]),Comp.zB,if_neg h1,if_neg h2,zN (by omega),zJl]
     have:=ih (zs++[y]) (by rw[hx];simp)
     simpa using this
 rw[zA]
 refine(congrArg (fun o=>Option.bind o _) (key l [] rfl)).trans ?_
 rw[zJl,Comp.zB]
theorem Mc {l:List Pln} (h:l.length≤LIM):(zw l fun z=>kK z.1 z.2.1).val=some (Jj l):=by
 unfold zw CG
 rw[if_pos ⟨h,fun x y=>vC.1 (AJ x y)⟩,Comp.zB]
theorem zGK (x y:Pln):adB (adB (eqI x.1.1 y.1.1) (adB (eqI x.1.2.1 y.1.2.1) (eqI x.1.2.2.1 y.1.2.2.1))) (eqI x.2.1 y.2.1)=decide (x=y):=by
 obtain⟨⟨a,b,c,u⟩,d,v⟩:=x
 obtain⟨⟨a',b',c',u'⟩,d',v'⟩:=y
 unfold eqI adB
 simp only
 rw[Bool.eq_iff_iff]
 simp[Prod.ext_iff]
def zGL (x y:Pln):Bool:=adB (adB (eqI x.1.1 y.1.1) (adB (eqI x.1.2.1 y.1.2.1) (eqI x.1.2.2.1 y.1.2.2.1))) (eqI x.2.1 y.2.1)
theorem Uz (x y:Pln):zGL x y=decide (x=y):=zGK x y
theorem AK {l:List Pln} (hl:l.length<9223372036854775807):(zy l).val=some (cpc l):=by
 have e:zy l=zDU zGL ((0,0,0,()),0,()) l:=by
  kernel_rfl
 rw[e]
 exact VB Uz hl
def onn (p:Pln) (X:List Pnt):Nat:=(X.filter fun x=>decide (rm p x=0)).length
def fac (c:List Pln):List Pln:=c.filter fun p=>decide (3≤onn p (crn (c++bx0)))
def ln (c:List Pln):List Pln:=bif ful c then cpc (Jj (fac c)) else []
theorem pJ {c:List Pln} (h:c.length≤48):(crn (c++bx0)).length≤1000000000:=by
 refine Nat.le_trans (mO _) (Nat.le_trans (Kd _) ?_)
 have:(c++bx0).length≤1000:=by simp[bx0];omega
 exact Nat.mul_le_mul this (Nat.mul_le_mul this this)
theorem DD {c:List Pln} (h:chk c=0):(Yz c).val=some (crn (c++bx0),()):=by
 obtain⟨h1,h2⟩:=XH h
 unfold Yz
 rw[zA,YZ _ (by simp),zJl]
 simp only[List.all_cons,List.all_nil,Bool.and_true,yb]
 rw[if_neg (by simp[h]),zA,jB (by simp) (by simp;omega),zJl,zA]
 simp only[List.flatten_cons,List.flatten_nil,List.append_nil]
 rw[wc (by simp[bx0];omega) (fun p hp=>(List.mem_append.1 hp).elim (h2 p) (nH p)),zJl,Comp.zB]
theorem lj {c:List Pln} (h:chk c=0):(jE c).val=some (crn (c++bx0),()):=by
 obtain⟨h1,h2⟩:=XH h
 unfold jE
 rw[zA,jz,zJl,if_neg (by rw[zd];simp[h]),zA,qL (by omega),zJl,zA,
  KB (by simp[bx0];omega) (fun p hp=>(List.mem_append.1 hp).elim (h2 p) (nH p)),zJl,Comp.zB]
theorem IR {p:Pln} {X:List Pnt} (hX:X.length≤1000000000):(j9 p X).val=some (decide (onn p X<3),()):=by
 unfold j9
 have h1:=jV (σ:=Int) X.length (fun k n=>match X[k]? with|some x=>if rm p x=0 then n+1 else n|none=>n) (fun k n=>n+(onn p (X.drop k):Nat)) (fun n k=>0≤n∧n≤k)
  (body:=(fun (x:Int×Int)=>if ltI x.2 (zF X)=true then
       (idx X x.2).bind fun x_1=>(Go.F.Zd p x_1).bind fun x_2=>jn (fun (x_3:Int)=>Comp.pure (.next (x_3,zI .i64 x.2 1))) fun (j:Int→Comp (Comp.Step (Int×Int) Int))=>if eqI x_2.1 0=true then j (zI .i64 x.1 1) else j x.1
      else Comp.pure (.done x.1)))
  (fun n k hk hI=>by
   obtain⟨x,hx⟩:=zQ (xs:=X) (k:=k) hk
   refine⟨?_,?_,?_⟩
   ·rw[hx]
    simp only
    rw[if_pos (by rw[zG,zC];show (k:Int)<_;omega),zA,zJ hx,zJl,zA,qJ,zJl,vi]
    by_cases h:rm p x=0
    ·rw[if_pos (by rw[y5];exact h),if_pos h,Comp.zB,zN (by omega),vJ (by omega)]
    ·rw[if_neg (by rw[y5];exact h),if_neg h,Comp.zB,zN (by omega)]
   ·rw[hx]
    simp only
    split<;>omega
   ·rw[drop_cons hx,hx]
    unfold onn
    by_cases h:rm p x=0
    ·simp only[List.filter_cons,h,decide_true,if_true,List.length_cons];omega
    ·simp[List.filter_cons,h])
  (fun n=>by rw[if_neg (by rw[zG,zC];simp),Comp.zB]) (fun n=>by rw[List.drop_length];simp[onn]) 0 0 (Nat.zero_le _) (by omega)
 rw[zA]
 refine(congrArg (fun o=>Option.bind o _) h1).trans ?_
 rw[zJl,Comp.zB]
 congr 2
 unfold ltI
 rw[List.drop_zero,Int.zero_add]
 by_cases h:onn p X<3
 ·rw[decide_eq_true h,decide_eq_true (by omega)]
 ·rw[decide_eq_false h,decide_eq_false (by omega)]
theorem mG {c:List Pln}:(fac c).length≤c.length:=List.length_filter_le _ _
theorem KR (c:List Pln):(gR c).val=some (ln c,()):=by
 unfold gR ln
 rw[zA,Zg,zJl,yb]
 cases hf:ful c with
 |false=>rw[if_pos (by simp),Comp.zB];rfl
 |true =>
  have hc:chk c=0:=by
   unfold ful at hf
   rw[zJn]at hf
   simpa using hf.1
  obtain⟨h1,h2⟩:=XH hc
  have hX:=pJ h1
  have hL:=YT
  have e1:(za c).val=some (c,()):=Jh (by unfold LIM;omega)
  have e2:(yB c fun z=>j9 z.1 (crn (c++bx0))).val=some (fac c):=by
   refine(mN (z:=((0,0,0,()),0,())) (f:=fun z=>j9 z.1 (crn (c++bx0))) (p:=fun p=>decide (onn p (crn (c++bx0))<3)) (by omega) fun p _=>IR hX).trans ?_
   unfold fac
   congr 2
   funext p
   by_cases h:onn p (crn (c++bx0))<3
   ·rw[decide_eq_true h,decide_eq_false (by omega)];rfl
   ·rw[decide_eq_false h,decide_eq_true (by omega)];rfl
  rw[if_neg (by simp),zA,DD hc,zJl,zA,e1,zJl,zA,e2,zJl,zA,Mc (by have:=mG (c:=c);unfold LIM;omega),zJl,zA,
   AK (by rw[qH];have:=mG (c:=c);omega),zJl,Comp.zB]
  rfl
theorem pU (p q:Pln):(yu p q).val=some (Yq p q,()):=by
 unfold yu
 rw[Q4]
 generalize hl:[(p.1.1,q.1.1),(p.1.2.1,q.1.2.1),(p.1.2.2.1,q.1.2.2.1),(p.2.1,q.2.1)]=l
 have hm1:[p.1.1,p.1.2.1,p.1.2.2.1,p.2.1]=l.map fun x=>x.1:=by rw[←hl];rfl
 have hm2:[q.1.1,q.1.2.1,q.1.2.2.1,q.2.1]=l.map fun x=>x.2:=by rw[←hl];rfl
 have hlen:l.length=4:=by rw[←hl];rfl
 rw[hm1,hm2]
 have key:∀(ys zs:List (Int×Int)),l=zs++ys→∃r:Unit⊕Int,(match r with|.inl _=>0|.inr n=>n)=I2 ys∧(Comp.loop
     (fun (x:Int)=>if ltI x 4=true then
       (idx (l.map fun x=>x.1) x).bind fun x_1=>(idx (l.map fun x=>x.2) x).bind fun x_2=>if ltI x_1 x_2=true then Comp.pure (.done (Sum.inr (-1)))
         else
          (idx (l.map fun x=>x.1) x).bind fun x_3=>(idx (l.map fun x=>x.2) x).bind fun x_4=>if gtI x_3 x_4=true then Comp.pure (.done (Sum.inr 1)) else Comp.pure (.next (zI .i64 x 1))
      else Comp.pure (.done (Sum.inl ()))) (zs.length:Int)).val=some r:=by
  intro ys
  induction ys with
  |nil =>
   intro zs hx
   have hz:zs.length=4:=by rw[←hlen,hx];simp
   exact⟨.inl (),rfl,by rw[zL,if_neg (by rw[zG];omega),Comp.zB];exact zJl ..⟩
  |cons y ys ih =>
   intro zs hx
   have hz:zs.length<4:=by rw[←hlen,hx];simp
   have i1:(idx (l.map fun x=>x.1) (zs.length:Int)).val=some y.1:=zJ (by rw[hx];simp)
   have i2:(idx (l.map fun x=>x.2) (zs.length:Int)).val=some y.2:=zJ (by rw[hx];simp)
   unfold I2
   by_cases h1:y.1<y.2
   ·refine⟨.inr (-1),by rw[if_pos h1],?_⟩
    rw[zL,if_pos (by rw[zG];omega),zA,i1,zJl,zA,i2,zJl,if_pos (by rw[zG];exact h1),Comp.zB];rfl
   ·by_cases h2:y.2<y.1
    ·refine⟨.inr 1,by rw[if_neg h1,if_pos h2],?_⟩
     rw[zL,if_pos (by rw[zG];omega),zA,i1,zJl,zA,i2,zJl,if_neg (by rw[zG];exact h1),zA,i1,zJl,zA,i2,zJl,if_pos (by rw[yQ];exact h2),Comp.zB];rfl
    ·obtain⟨r,h3,h4⟩:=ih (zs++[y]) (by rw[hx];simp)
     refine⟨r,by rw[if_neg h1,if_neg h2];exact h3,?_⟩
     rw[zL,if_pos (by rw[zG];omega),zA,i1,zJl,zA,i2,zJl,if_neg (by rw[zG];exact h1),zA,i1,zJl,zA,i2,zJl,if_neg (by rw[yQ];exact h2),Comp.zB,zN (by omega),zJl]
     simpa using h4
 obtain⟨r,h3,h4⟩:=key l [] rfl
 rw[zA]
 refine(congrArg (fun o=>Option.bind o _) h4).trans ?_
 rw[zJl,←h3]
 cases r<;>exact Comp.zB _
def bef (p:Pln):List Pln→Nat
 | []=>0
 |q::l=>if Yq q p<0 then bef p l+1 else 0
theorem Q5 {p:Pln}:∀ {l:List Pln},bef p l≤l.length
 | []=>zJp _
 |q::l=>by
  have:=Q5 (p:=p) (l:=l)
  unfold bef
  split<;>simp only[List.length_cons]<;>omega
theorem As {p:Pln}:∀ {l:List Pln},Yo p l=if l[bef p l]?=some p then l else l.take (bef p l)++p::l.drop (bef p l)
 | []=>rfl
 |q::l=>by
  have ih:=As (p:=p) (l:=l)
  unfold Yo bef
  split
  ·rw[ih]
   simp only[List.getElem?_cons_succ,List.take_succ_cons,List.drop_succ_cons,List.cons_append]
   split<;>rfl
  ·simp only[List.getElem?_cons_zero,Option.some.injEq,List.take_zero,List.drop_zero,List.nil_append]
theorem Ml {l:List Pln} {p:Pln} (hl:l.length≤1000000):(jL l p).val=some (Yo p l,()):=by
 have hL:=YT
 unfold jL
 have key:∀(ys zs:List Pln),l=zs++ys→(Comp.loop
     (fun (x:Int)=>(Comp.gd (ltI x (zF l)) (idx l x) ((0,0,0,()),0,())).bind fun x_1=>(Comp.gd (ltI x (zF l)) (Go.F.yu x_1 p) (0,())).bind fun x_2=>if sel (ltI x (zF l)) (ltI x_2.1 0) false=true then Comp.pure (.next (zI .i64 x 1)) else Comp.pure (.done x))
     (zs.length:Int)).val=some (((zs.length+bef p ys:Nat)):Int):=by
  intro ys
  induction ys with
  |nil =>
   intro zs hx
   have h1:ltI (zs.length:Int) (zF l)=false:=by unfold ltI;rw[decide_eq_false];rw[zC,hx];simp
   rw[zL]
   simp only[h1]
   rw[zA]
   show Option.bind (Option.bind (Comp.pure _).val _) _=_
   rw[Comp.zB,zJl,zA]
   show Option.bind (Option.bind (Comp.pure _).val _) _=_
   rw[Comp.zB,zJl]
   rw[if_neg (by simp[sel]),Comp.zB,zJl]
   rfl
  |cons y ys ih =>
   intro zs hx
   have hy:l[zs.length]?=some y:=by rw[hx];simp
   have hlt:=zM hy
   have h1:ltI (zs.length:Int) (zF l)=true:=by rw[zG,zC];omega
   rw[zL]
   simp only[h1]
   rw[zA]
   show Option.bind (Option.bind (idx l (zs.length:Int)).val _) _=_
   rw[zJ hy,zJl,zA]
   show Option.bind (Option.bind (yu y p).val _) _=_
   rw[pU,zJl]
   unfold bef
   by_cases h2:Yq y p<0
   ·rw[if_pos (by show sel true (ltI (Yq y p) 0) false=true;show ltI (Yq y p) 0=true;rw[zG];exact h2),if_pos h2,Comp.zB,zN (by omega),zJl]
    have:=ih (zs++[y]) (by rw[hx];simp)
    simp only[zJo,zJq]at this
    rw[show zs.length+(bef p ys+1)=zs.length+1+bef p ys by omega]
    exact this
   ·rw[if_neg (by show ¬sel true (ltI (Yq y p) 0) false=true;show ¬ltI (Yq y p) 0=true;rw[zG];exact h2),if_neg h2,Comp.zB,zJl]
    rfl
 have h1:=key l [] rfl
 simp only[List.length_nil,Nat.zero_add]at h1
 have hb:=Q5 (p:=p) (l:=l)
 rw[zA]
 refine(congrArg (fun o=>Option.bind o _) h1).trans ?_
 rw[zJl,As]
 have tail:((sub l 0 ((bef p l:Nat):Int)).bind fun x_2=>(app [] x_2).bind fun zs=>(app zs [p]).bind fun zs=>(sub l ((bef p l:Nat):Int) (zF l)).bind fun x=>(app zs x).bind fun zs=>(Comp.pure (zs,()):Comp (List Pln×Unit))).val=some (l.take (bef p l)++p::l.drop (bef p l),()):=by
  have s1:(sub l 0 ((bef p l:Nat):Int)).val=some (l.take (bef p l)):=by rw[YN (by omega)];simp
  rw[zA,s1,zJl,zA,zr (by simp;unfold LIM;omega),zJl,zA,zr (by simp;unfold LIM;omega),zJl,zA,nQ hb,zJl,zA,
   zr (by simp;unfold LIM;omega),zJl,Comp.zB]
  simp
 by_cases hlt:bef p l<l.length
 ·obtain⟨y,hy⟩:=zQ (xs:=l) (k:=bef p l) hlt
  have h2:ltI ((bef p l:Nat):Int) (zF l)=true:=by rw[zG,zC];omega
  rw[h2,zA]
  show Option.bind (idx l ((bef p l:Nat):Int)).val _=_
  rw[zJ hy,zJl,hy]
  have he:=zGK y p
  by_cases hp:y=p
  ·rw[if_pos (by show sel true _ false=true;show (adB _ _)=true;rw[he];exact decide_eq_true hp),if_pos (by rw[hp]),Comp.zB]
  ·rw[if_neg (by show ¬sel true _ false=true;show ¬(adB _ _)=true;rw[he];simp[hp]),if_neg (by simp[hp])]
   exact tail
 ·have h2:ltI ((bef p l:Nat):Int) (zF l)=false:=by unfold ltI;rw[decide_eq_false];rw[zC];omega
  rw[h2,zA]
  show Option.bind (Comp.pure _).val _=_
  rw[Comp.zB,zJl,if_neg (by simp[sel]),if_neg (by rw[List.getElem?_eq_none (by omega)];simp)]
  exact tail
theorem S4 {i:Nat} {c:List Pln} {p:Pln} (hp:c[i]?=some p) {X:List Pnt} (hX:X.length≤1000000000):(Comp.loop
             (fun (x_2:Int×Int)=>if ltI x_2.2 (zF X)=true then
               (idx c (i:Int)).bind fun x=>(idx X x_2.2).bind fun x_3=>(Go.F.zg x x_3).bind fun x=>jn (fun (x:Int)=>Comp.pure (.next (x,zI .i64 x_2.2 1)))
                   fun (j:Int→Comp (Comp.Step (Int×Int) Int))=>if eqI x.1 0=true then j (zI .i64 x_2.1 1) else j x_2.1
              else Comp.pure (.done x_2.1))
             (0,0)).val=some ((onn p X:Nat):Int):=by
 have h1:=jV (σ:=Int) X.length (fun k n=>match X[k]? with|some x=>if rm p x=0 then n+1 else n|none=>n) (fun k n=>n+(onn p (X.drop k):Nat)) (fun n k=>0≤n∧n≤k)
  (body:=(fun (x_2:Int×Int)=>if ltI x_2.2 (zF X)=true then
               (idx c (i:Int)).bind fun x=>(idx X x_2.2).bind fun x_3=>(Go.F.zg x x_3).bind fun x=>jn (fun (x:Int)=>Comp.pure (.next (x,zI .i64 x_2.2 1)))
                   fun (j:Int→Comp (Comp.Step (Int×Int) Int))=>if eqI x.1 0=true then j (zI .i64 x_2.1 1) else j x_2.1
              else Comp.pure (.done x_2.1)))
  (fun n k hk hI=>by
   obtain⟨x,hx⟩:=zQ (xs:=X) (k:=k) hk
   refine⟨?_,?_,?_⟩
   ·rw[hx]
    simp only
    rw[if_pos (by rw[zG,zC];show (k:Int)<_;omega),zA,zJ hp,zJl,zA,zJ hx,zJl,zA,K5,zJl,vi]
    by_cases h:rm p x=0
    ·rw[if_pos (by rw[y5];exact h),if_pos h,Comp.zB,zN (by omega),vJ (by omega)]
    ·rw[if_neg (by rw[y5];exact h),if_neg h,Comp.zB,zN (by omega)]
   ·rw[hx]
    simp only
    split<;>omega
   ·rw[drop_cons hx,hx]
    unfold onn
    by_cases h:rm p x=0
    ·simp only[List.filter_cons,h,decide_true,if_true,List.length_cons];omega
    ·simp[List.filter_cons,h])
  (fun n=>by rw[if_neg (by rw[zG,zC];simp),Comp.zB]) (fun n=>by rw[List.drop_length];simp[onn]) 0 0 (Nat.zero_le _) (by omega)
 rw[List.drop_zero,Int.zero_add]at h1
 exact h1
theorem XI (c:List Pln):(zm c).val=some (ln c,()):=by
 unfold zm ln
 rw[zA,YU,zJl,yb]
 cases hf:ful c with
 |false=>rw[if_pos (by simp),Comp.zB];rfl
 |true =>
  have hc:chk c=0:=by
   unfold ful at hf
   rw[zJn]at hf
   simpa using hf.1
  obtain⟨h1,h2⟩:=XH hc
  have hX:=pJ h1
  have hL:=YT
  rw[if_neg (by simp),zA,lj hc,zJl]
  have h3:=jV c.length (fun k l=>match c[k]? with|some p=>if 3≤onn p (crn (c++bx0)) then Yo p l else l|none=>l) (fun k l=>((c.drop k).filter fun p=>decide (3≤onn p (crn (c++bx0)))).foldl (fun m p=>Yo p m) l) (fun l k=>l.length≤k)
   (body:=(fun (x_1:List (Pln)×Int)=>if ltI x_1.2 (zF c)=true then
          (Comp.loop
             (fun (x_2:Int×Int)=>if ltI x_2.2 (zF (crn (c++bx0)))=true then
               (idx c x_1.2).bind fun x=>(idx (crn (c++bx0)) x_2.2).bind fun x_3=>(Go.F.zg x x_3).bind fun x=>jn (fun (x:Int)=>Comp.pure (.next (x,zI .i64 x_2.2 1)))
                   fun (j:Int→Comp (Comp.Step (Int×Int) Int))=>if eqI x.1 0=true then j (zI .i64 x_2.1 1) else j x_2.1
              else Comp.pure (.done x_2.1))
             (0,0)).bind fun x=>jn (fun (x:List (Pln))=>Comp.pure (.next (x,zI .i64 x_1.2 1)))
            fun (j :
              List (Pln)→Comp (Comp.Step (List (Pln)×Int) (List (Pln)))) =>
            if geI x 3=true then
             (idx c x_1.2).bind fun x=>(Go.F.jL x_1.1 x).bind fun x=>j x.1
            else j x_1.1
         else Comp.pure (.done x_1.1)))
   (fun l k hk hI=>by
    obtain⟨p,hp⟩:=zQ (xs:=c) (k:=k) hk
    refine⟨?_,?_,?_⟩
    ·rw[hp]
     simp only
     rw[if_pos (by rw[zG,zC];show (k:Int)<_;omega),zA]
     refine(congrArg (fun o=>Option.bind o _) (S4 hp hX)).trans ?_
     rw[zJl,vi]
     by_cases h:3≤onn p (crn (c++bx0))
     ·rw[if_pos (by rw[Kz];omega),if_pos h,zA,zJ hp,zJl,zA,Ml (by omega),zJl,Comp.zB,zN (by omega)]
     ·rw[if_neg (by rw[Kz];omega),if_neg h,Comp.zB,zN (by omega)]
    ·rw[hp]
     simp only
     have:=Ar (p:=p) (l:=l)
     split<;>omega
    ·rw[drop_cons hp,hp]
     by_cases h:3≤onn p (crn (c++bx0))
     ·simp[List.filter_cons,h]
     ·simp[List.filter_cons,h])
   (fun n=>by rw[if_neg (by rw[zG,zC];simp),Comp.zB]) (fun n=>by rw[List.drop_length];rfl) 0 [] (Nat.zero_le _) (by simp)
  rw[zA]
  refine(congrArg (fun o=>Option.bind o _) h3).trans ?_
  rw[zJl,Comp.zB,List.drop_zero,Mu]
  rfl
abbrev Cell:=List Pln
def jT:List Cell→Int
 | []=>0
 |c::s=>if chk c=0 then jT s else chk c
def sck (s:List Cell):Int:=if 16<s.length then 2 else jT s
def sap (c:Cell) (s:List Cell):Bool:=s.all fun q=>apa c q
def jh (p:Pln):Pln:=((-p.1.1, -p.1.2.1, -p.1.2.2.1,()), -p.2.1,())
def gp:Cell→List Pln→List (Option Cell)
 |_,[]=>[]
 |rest,p::fs=>if 48≤rest.length then [none] else (bif decide (ln (rest++[jh p])=[]) then [] else [some (ln (rest++[jh p]))])++gp (ln (rest++[p])) fs
def jq:List (Option α)→Bool
 | []=>false
 |none::_=>true
 |some _::l=>jq l
def yY:List (Option α)→List α
 | []=>[]
 |none::l=>yY l
 |some x::l=>x::yY l
def wo (q:Cell):List Cell→List Cell→Option (List Cell)
 | [],out=>some out
 |x::xs,out=>if apa x q=true then wo q xs (out++[x]) else if jq (gp x (ln q))=true then none else wo q xs (out++yY (gp x (ln q)))
def wth (pieces:List Cell) (q:Cell):List Cell×Int :=
 if ful q=true then match wo q pieces [] with
  |none=>([],9)
  |some out=>if 200<out.length then ([],9) else (out,0)
 else (pieces,0)
def Xi:List Cell→List Cell→List Cell×Int
 |pcs,[]=>(pcs,0)
 |pcs,q::s=>if (wth pcs q).2=0 then Xi (wth pcs q).1 s else ([],(wth pcs q).2)
def mns (c:Cell) (s:List Cell):List Cell×Int:=if chk c=0 then if sck s=0 then if ful c=true then Xi [ln c] s else ([],0) else ([],sck s) else ([],chk c)
def cov (s:List Cell) (c:Cell):Bool×Int:=(decide ((mns c s).2=0) && decide ((mns c s).1.length=0),(mns c s).2)
theorem lE:∀ {fs:List Pln} {rest:Cell},(gp rest fs).length≤fs.length
 | [],_=>zJp _
 |p::fs,rest=>by
  have:=lE (fs:=fs) (rest:=ln (rest++[p]))
  unfold gp
  split
  ·simp
  ·cases decide (ln (rest++[jh p])=[])<;>simp<;>omega
theorem JQ:∀ {l:List (Option α)},(yY l).length≤l.length
 | []=>zJp _
 |none::l=>by have:=JQ (l:=l);simp only[yY,List.length_cons];omega
 |some _::l=>by have:=JQ (l:=l);simp only[yY,List.length_cons];omega
theorem WW:∀ {fs:List Pln} {rest:Cell} {c:Cell},some c∈gp rest fs→c≠[]
 | [],_,_,h=>by cases h
 |p::fs,rest,c,h=>by
  unfold gp at h
  split at h
  ·simp at h
  ·rw[List.mem_append]at h
   rcases h with h|h
   ·by_cases he:ln (rest++[jh p])=[]
    ·rw[decide_eq_true he]at h;cases h
    ·rw[decide_eq_false he]at h
     simp only[cond_false,List.mem_singleton,Option.some.injEq]at h
     subst h;exact he
   ·exact WW h
theorem qW [DecidableEq α] {y:α}:∀ {l:List α} {x:α},y∈Jw x l→y∈l
 | [],_,h=>h
 |z::l,x,h=>by
  unfold Jw at h
  split at h
  ·exact List.mem_cons_of_mem _ (qW h)
  ·rcases List.mem_cons.1 h with rfl|h
   ·simp
   ·exact List.mem_cons_of_mem _ (qW h)
theorem VC [DecidableEq α] {y:α} {l:List α} (h:y∈cpc l):y∈l:=by
 cases l with
 |nil=>exact h
 |cons x l =>
  rcases List.mem_cons.1 h with rfl|h
  ·simp
  ·exact List.mem_cons_of_mem _ (qW h)
theorem Uu {c:Cell} (h:ful c=true):chk c=0:=by
 unfold ful at h
 rw[zJn]at h
 simpa using h.1
theorem zFq {c:Cell}:(ln c).length≤48∧∀p∈ln c,okB p:=by
 unfold ln
 cases hf:ful c with
 |false=>simp
 |true =>
  obtain⟨h1,h2⟩:=XH (Uu hf)
  have h3:=mG (c:=c)
  refine⟨?_,fun p hp=>?_⟩
  ·have:=Gg (l:=Jj (fac c))
   rw[qH]at this
   show (cpc (Jj (fac c))).length≤48
   omega
  ·have:=qG.1 (VC (show p∈cpc (Jj (fac c)) from hp))
   exact h2 p (List.mem_filter.1 this).1
theorem Eg {pieces:List Cell} {q:Cell} (h:pieces.length≤200):(wth pieces q).1.length≤200:=by
 unfold wth
 split
 ·split
  ·simp
  ·split
   ·simp
   ·simp only;omega
 ·exact h
theorem uu {s:List Cell} (hl:s.length<9223372036854775807) {body:Int→Comp (Comp.Step Int (Unit⊕Int))} (hb:∀(i:Nat) c,s[i]?=some c→(body (i:Int)).val=some (if chk c=0 then .next ((i+1:Nat):Int) else .done (.inr (chk c)))) (he:(body (s.length:Int)).val=some (.done (.inl ()))) :
  ∃r:Unit⊕Int,(match r with|.inl _=>0|.inr n=>n)=jT s∧(Comp.loop body 0).val=some r:=by
 have key:∀(ys zs:List Cell),s=zs++ys→∃r:Unit⊕Int,(match r with|.inl _=>0|.inr n=>n)=jT ys∧(Comp.loop body (zs.length:Int)).val=some r:=by
  intro ys
  induction ys with
  |nil =>
   intro zs hx
   refine⟨.inl (),rfl,?_⟩
   rw[zL,show zs.length=s.length by rw[hx];simp,he];rfl
  |cons y ys ih =>
   intro zs hx
   have hy:s[zs.length]?=some y:=by rw[hx];simp
   unfold jT
   by_cases h:chk y=0
   ·obtain⟨r,h1,h2⟩:=ih (zs++[y]) (by rw[hx];simp)
    refine⟨r,by rw[if_pos h];exact h1,?_⟩
    rw[zL,hb _ _ hy,if_pos h,zJl]
    simpa using h2
   ·refine⟨.inr (chk y),by rw[if_neg h],?_⟩
    rw[zL,hb _ _ hy,if_neg h,zJl]
 exact key s [] rfl
theorem uC (s:List Cell):(Yu s).val=some (sck s,()):=by
 unfold Yu sck
 by_cases h:16<s.length
 ·rw[if_pos (by rw[yQ,zC];omega),if_pos h,Comp.zB]
 ·rw[if_neg (by rw[yQ,zC];omega),if_neg h]
  obtain⟨r,h1,h2⟩:=uu (s:=s) (by omega)
   (body:=(fun (x:Int)=>if ltI x (zF s)=true then
        (idx s x).bind fun x_1=>(Go.F.vg x_1).bind fun x_2=>if neI x_2.1 0=true then Comp.pure (.done (Sum.inr x_2.1)) else Comp.pure (.next (zI .i64 x 1))
       else Comp.pure (.done (Sum.inl ()))))
   (fun i c hc=>by
    have hlt:=zM hc
    rw[if_pos (by rw[zG,zC];omega),zA,zJ hc,zJl,zA,gy,zJl,zN (by omega)]
    by_cases h:chk c=0
    ·rw[if_neg (by rw[zd];simp[h]),if_pos h,Comp.zB]
    ·rw[if_pos (by rw[zd];exact h),if_neg h,Comp.zB])
   (by rw[if_neg (by rw[zG,zC];omega),Comp.zB])
  rw[zA]
  refine(congrArg (fun o=>Option.bind o _) h2).trans ?_
  rw[zJl,←h1]
  cases r<;>exact Comp.zB _
theorem gG (c:Cell) {s:List Cell} (hl:s.length<9223372036854775807):(yA c s).val=some (sap c s,()):=by
 unfold yA
 have h1:(zK s fun z=>gv z.1 c).val=some (s.any fun q=>!apa c q,()) :=
  kH (xs:=s) (f:=fun z=>gv z.1 c) (p:=fun q=>!apa c q) hl fun q _=>by
   show (gv q c).val=_
   unfold gv
   rw[zA,gz,zJl,Comp.zB];rfl
 rw[zA,h1,zJl,Comp.zB,yb]
 unfold sap
 rw[List.all_eq_not_any_not]
theorem BV {p:Pln} (h:okB p):(Ya p).val=some (jh p,()):=by
 obtain⟨⟨h1,h2,h3⟩,h4⟩:=h
 unfold Ya K6
 rw[zA,Comp.zB,zJl,Comp.zB,wy (by omega),YI (by simp only;omega),YI (by simp only;omega),YI (by simp only;omega)]
 unfold jh
 simp only[Int.zero_sub]
theorem Bp {c:Cell} {p:Pln} (h:c.length≤1000):(zO [c,[p]]).val=some (c++[p],()):=by
 have:=Kp (z:=((0,0,0,()),0,())) (xs:=[c,[p]]) (by simp;unfold LIM;omega) (by simp)
 simp only[List.flatten_cons,List.flatten_nil,List.append_nil]at this
 exact this
theorem rj {piece:Cell} {fs:List Pln} (hl:fs.length≤1000) (hB:∀p∈fs,okB p):(ju piece fs).val=some ((gp piece fs).map fun o=>(o,())):=by
 unfold ju
 have key:∀(ys zs:List Pln) (rest:Cell),fs=zs++ys→∃e:Unit⊕Unit,(YC
       (fun (x:List (Pln)×Int)=>if ltI x.2 (zF fs)=true then
         (idx fs x.2).bind fun x_1=>if geI (zF x.1) 48=true then tell [(none,())] (Comp.pure ([],.done (Sum.inr ())))
          else
           (Go.F.Ya x_1).bind fun x_2=>(Go.F.zO [x.1,[x_2.1]]).bind fun y=>(Go.F.gR y.1).bind fun y_1=>if gtI (zF y_1.1) 0=true then
               tell [(some y_1.1,())]
                ((Go.F.zO [x.1,[x_1]]).bind fun y=>(Go.F.gR y.1).bind fun y=>Comp.pure ([],.next (y.1,zI .i64 x.2 1)))
              else
               (Go.F.zO [x.1,[x_1]]).bind fun y=>(Go.F.gR y.1).bind fun y=>Comp.pure ([],.next (y.1,zI .i64 x.2 1))
        else Comp.pure ([],.done (Sum.inl ()))) (rest,(zs.length:Int))).val=some ((gp rest ys).map fun o=>(o,()),e):=by
  intro ys
  induction ys with
  |nil =>
   intro zs rest hx
   exact⟨.inl (),Js (by rw[if_neg (by rw[zG,zC,hx];simp),Comp.zB];rfl)⟩
  |cons p ys ih =>
   intro zs rest hx
   have hy:fs[zs.length]?=some p:=by rw[hx];simp
   have hlt:=zM hy
   have hp:=hB p (List.mem_of_getElem? hy)
   by_cases hr:48≤rest.length
   ·refine⟨.inr (),Js ?_⟩
    rw[if_pos (by rw[zG,zC];show (zs.length:Int)<_;omega),zA,zJ hy,zJl,if_pos (by rw[Kz,zC];show _≤((rest.length:Nat):Int);omega),Yi,Comp.zB]
    unfold gp
    rw[if_pos hr];rfl
   ·obtain⟨e,he⟩:=ih (zs++[p]) (ln (rest++[p])) (by rw[hx];simp)
    refine⟨e,?_⟩
    have hgp:(gp rest (p::ys)).map (fun o=>(o,()))=(bif decide (ln (rest++[jh p])=[]) then [] else [(some (ln (rest++[jh p])),())])++(gp (ln (rest++[p])) ys).map fun o=>(o,()):=by
     conv=>lhs;unfold gp
     rw[if_neg hr,List.map_append]
     cases decide (ln (rest++[jh p])=[])<;>rfl
    rw[hgp]
    refine tN (s':=(ln (rest++[p]),((zs.length+1:Nat):Int))) ?_ (by simpa using he)
    rw[if_pos (by rw[zG,zC];show (zs.length:Int)<_;omega),zA,zJ hy,zJl,if_neg (by rw[Kz,zC];show ¬_≤((rest.length:Nat):Int);omega),
     zA,BV hp,zJl,zA,Bp (by show rest.length≤1000;omega),zJl,zA,KR,zJl]
    have ht:((Go.F.zO [rest,[p]]).bind fun y=>(Go.F.gR y.1).bind fun y=>(Comp.pure ([],.next (y.1,zI .i64 (zs.length:Int) 1)):Comp (List (Option Cell×Unit)×Comp.Step (Cell×Int) (Unit⊕Unit)))).val=some ([],.next (ln (rest++[p]),((zs.length+1:Nat):Int))):=by
     rw[zA,Bp (by omega),zJl,zA,KR,zJl,Comp.zB,zN (by omega)]
    by_cases h0:ln (rest++[jh p])=[]
    ·rw[if_neg (by rw[yQ,zC,h0];simp),decide_eq_true h0]
     exact ht
    ·rw[if_pos (by rw[yQ,zC];have:=List.length_pos_iff.2 h0;show (0:Int)<((ln (rest++[jh p])).length:Int);omega),Yi,decide_eq_false h0]
     refine(congrArg (Option.map _) ht).trans ?_
     rfl
 obtain⟨e,he⟩:=key fs [] piece rfl
 rw[zA,zA]
 refine(congrArg (fun o=>Option.bind (Option.bind o _) _) he).trans ?_
 rw[zJl,Yi]
 have h3:∀e:Unit⊕Unit,(match e with|Sum.inl x=>Comp.pure ([],())|Sum.inr x=>Comp.pure ([],()):Comp (List (Option Cell×Unit)×Unit)).val=some ([],()):=fun e=>by cases e<;>exact Comp.zB _
 refine(congrArg (fun o=>Option.bind (Option.map _ o) _) (h3 e)).trans ?_
 simp only[Option.map_some,zJl,List.append_nil]
 exact Comp.zB _
theorem pF {a:List Cell} {b:Int}:∀(L:List (Option Cell)) (out:List Cell),(∀c,some c∈L→c≠[])→out.length+L.length≤1000000→(K0
                   (fun (x :
                      List (List (Pln))×Int×List (List (Pln)))
                     (d:Option (List (Pln))×Unit) =>
                    match d.1 with
                    |none=>Comp.pure (.done ([],Int.ofNat 9))
                    |some xs =>
                     amb (Kt xs) (Comp.pure (.done ([],Int.ofNat 9)))
                      ((app x.2.2 [xs]).bind fun zs=>Comp.pure (.next (x.1,x.2.1,zs))))
                   (L.map fun o=>(o,())) (a,b,out)).val=some (if jq L=true then .done ([],9) else .next (a,b,out++yY L):Comp.Step (List Cell×Int×List Cell) (List Cell×Int))
 | [],out,_,_=>by
  show (Comp.pure _).val=_
  rw[Comp.zB];simp[jq,yY]
 |none::L,out,_,_=>by
  show ((Comp.pure _).bind _).val=_
  rw[zA,Comp.zB,zJl,Comp.zB];rfl
 |some c::L,out,hne,hlen=>by
  have hc:=hne c (by simp)
  simp only[List.length_cons]at hlen
  show ((amb (Kt c) _ _).bind _).val=_
  have hn:Kt c=false:=by cases c with
   |nil=>exact absurd rfl hc
   |cons _ _=>rfl
  have h1:(amb (Kt c) (Comp.pure (.done ([],Int.ofNat 9))) ((app out [c]).bind fun zs=>Comp.pure (.next (a,b,zs))):Comp (Comp.Step (List Cell×Int×List Cell) (List Cell×Int))).val=some (.next (a,b,out++[c])):=by
   rw[hn]
   show ((app out [c]).bind _).val=_
   rw[zA,zr (by simp only[zJq];unfold LIM;omega),zJl,Comp.zB]
  rw[zA]
  refine(congrArg (fun o=>Option.bind o _) h1).trans ?_
  rw[zJl]
  refine(pF L (out++[c]) (fun c' h=>hne c' (List.mem_cons_of_mem _ h)) (by simp only[zJo,zJq];omega)).trans ?_
  show some (if jq L=true then _ else _)=some (if jq L=true then _ else _)
  simp only[yY,List.append_assoc,List.singleton_append]
theorem wM {pieces:List Cell} (q:Cell) (hl:pieces.length≤200):(kJ pieces q).val=some ((wth pieces q).1,(wth pieces q).2,()):=by
 unfold kJ
 rw[zA,Zg,zJl,yb]
 by_cases hf:ful q=true
 ·rw[if_neg (by simp[hf]),zA,KR,zJl]
  have hq:=zFq (c:=q)
  have key:∀(ys zs:List Cell) (out:List Cell),pieces=zs++ys→out.length+ys.length * 49≤20000→∃r,(match r with
    |.inl x=>some x.2.2
    |.inr _=>none)=wo q ys out∧(∀x,r=.inr x→x=([],9))∧(∀x,r=.inl x→x.1=[]∧x.2.1=0)∧(Comp.loop
        (fun (x:Int×List (List (Pln))×Int×List (List (Pln)))=>if ltI x.1 (zF pieces)=true then
          jn
           (fun (x_1:List (List (Pln))×Int×List (List (Pln)))=>Comp.pure (.next (zI .i64 x.1 1,x_1.1,x_1.2.1,x_1.2.2)))
           fun (j :
             List (List (Pln))×Int×List (List (Pln))→Comp
               (Comp.Step
                (Int×List (List (Pln))×Int×List (List (Pln)))
                (List (List (Pln))×Int×List (List (Pln)) ⊕
                 List (List (Pln))×Int))) =>
           (idx pieces x.1).bind fun x_1=>(Go.F.j3 x_1 q).bind fun x_2=>if x_2.1=true then (app x.2.2.2 [x_1]).bind fun zs=>j (x.2.1,x.2.2.1,zs)
             else
              (Go.F.Zj x_1 (ln q)).bind fun (x_3:Comp (List (Option (List (Pln))×Unit))×Unit)=>x_3.1.bind fun (xs:List (Option (List (Pln))×Unit))=>(K0
                   (fun (x :
                      List (List (Pln))×Int×List (List (Pln)))
                     (d:Option (List (Pln))×Unit) =>
                    match d.1 with
                    |none=>Comp.pure (.done ([],Int.ofNat 9))
                    |some xs =>
                     amb (Kt xs) (Comp.pure (.done ([],Int.ofNat 9)))
                      ((app x.2.2 [xs]).bind fun zs=>Comp.pure (.next (x.1,x.2.1,zs))))
                   xs (x.2.1,x.2.2.1,x.2.2.2)).bind fun (r :
                   Comp.Step
                    (List (List (Pln))×Int×List (List (Pln)))
                    (List (List (Pln))×Int)) =>
                 match r with
                 |.next x=>j (x.1,x.2.1,x.2.2)
                 |.done e=>Comp.pure (.done (Sum.inr (e.1,e.2)))
         else Comp.pure (.done (Sum.inl (x.2.1,x.2.2.1,x.2.2.2)))) ((zs.length:Int),[],0,out)).val=some r:=by
   intro ys
   induction ys with
   |nil =>
    intro zs out hx hlen
    refine⟨.inl ([],0,out),rfl,(fun x h=>nomatch h),(fun x h=>by cases h;exact⟨rfl,rfl⟩),?_⟩
    rw[zL,if_neg (by rw[zG,zC,hx];simp),Comp.zB];rfl
   |cons y ys ih =>
    intro zs out hx hlen
    simp only[List.length_cons]at hlen
    have hy:pieces[zs.length]?=some y:=by rw[hx];simp
    have hlt:=zM hy
    by_cases ha:apa y q=true
    ·obtain⟨r,h1,h2,h3,h4⟩:=ih (zs++[y]) (out++[y]) (by rw[hx];simp) (by simp only[zJo,zJq];omega)
     refine⟨r,by rw[h1];conv=>rhs;unfold wo;rw[if_pos ha],h2,h3,?_⟩
     rw[zL,if_pos (by rw[zG,zC];show (zs.length:Int)<_;omega),vi,zA,zJ hy,zJl,zA,gz,zJl,if_pos ha,zA,
      zr (by simp only[zJq];unfold LIM;show out.length+1≤_;omega),zJl,Comp.zB,zJl,zN (by omega)]
     simpa using h4
    ·have hp:(Zj y (ln q)).val=some (ju y (ln q),()):=by unfold Zj;exact Comp.zB _
     have hfo:=pF (a:=[]) (b:=0) (gp y (ln q)) out (fun c h=>WW h) (by have:=lE (fs:=ln q) (rest:=y);omega)
     by_cases hn:jq (gp y (ln q))=true
     ·refine⟨.inr ([],9),by conv=>rhs;unfold wo;rw[if_neg ha,if_pos hn],(fun x h=>by cases h;rfl),(fun x h=>nomatch h),?_⟩
      rw[if_pos hn]at hfo
      rw[zL,if_pos (by rw[zG,zC];show (zs.length:Int)<_;omega),vi,zA,zJ hy,zJl,zA,gz,zJl,if_neg ha,zA,hp,zJl,zA,
       rj (by omega) hq.2,zJl,zA]
      refine(congrArg (fun o=>Option.bind (Option.bind o _) _) hfo).trans ?_
      rw[zJl,Comp.zB];rfl
     ·have hs:=JQ (l:=gp y (ln q))
      have hg:=lE (fs:=ln q) (rest:=y)
      obtain⟨r,h1,h2,h3,h4⟩:=ih (zs++[y]) (out++yY (gp y (ln q))) (by rw[hx];simp) (by simp only[zJo];omega)
      refine⟨r,by rw[h1];conv=>rhs;unfold wo;rw[if_neg ha,if_neg hn],h2,h3,?_⟩
      rw[if_neg hn]at hfo
      rw[zL,if_pos (by rw[zG,zC];show (zs.length:Int)<_;omega),vi,zA,zJ hy,zJl,zA,gz,zJl,if_neg ha,zA,hp,zJl,zA,
       rj (by omega) hq.2,zJl,zA]
      refine(congrArg (fun o=>Option.bind (Option.bind o _) _) hfo).trans ?_
      rw[zJl,Comp.zB,zJl,zN (by omega)]
      simpa using h4
  obtain⟨r,h1,h2,h3,h4⟩:=key pieces [] [] rfl (by simp;omega)
  rw[zA]
  refine(congrArg (fun o=>Option.bind o _) h4).trans ?_
  rw[zJl]
  unfold wth
  rw[if_pos hf,←h1]
  cases r with
  |inl x =>
   simp only
   by_cases hlen:200<x.2.2.length
   ·rw[if_pos (by rw[yQ,zC];omega),if_pos hlen,Comp.zB]
   ·rw[if_neg (by rw[yQ,zC];omega),if_neg hlen,Comp.zB]
  |inr x =>
   rw[h2 x rfl]
   exact Comp.zB _
 ·rw[if_pos (by simpa using hf),Comp.zB]
  unfold wth
  rw[if_neg hf]
theorem IL (c:Cell) (s:List Cell):(Ys c s).val=some ((mns c s).1,(mns c s).2,()):=by
 unfold Ys mns
 rw[zA,gy,zJl]
 by_cases hc:chk c=0
 ·rw[if_neg (by rw[zd];simp[hc]),if_pos hc,zA,uC,zJl]
  by_cases hs:sck s=0
  ·have hlen:s.length≤16:=by
    unfold sck at hs
    split at hs
    ·cases hs
    ·omega
   rw[if_neg (by rw[zd];simp[hs]),if_pos hs,zA,Zg,zJl,yb]
   by_cases hf:ful c=true
   ·rw[if_neg (by simp[hf]),if_pos hf,zA,KR,zJl]
    have key:∀(ys zs:List Cell) (pcs:List Cell),s=zs++ys→pcs.length≤200→∃r:List Cell⊕List Cell×Int,(match r with
      |.inl x=>(x,0)
      |.inr x =>
            x)=Xi pcs ys∧(Comp.loop
            (fun (x:List (List (Pln))×Int)=>if ltI x.2 (zF s)=true then
              (idx s x.2).bind fun x_1=>(Go.F.kJ x.1 x_1).bind fun x_2=>if neI x_2.2.1 0=true then Comp.pure (.done (Sum.inr ([],x_2.2.1)))
                else Comp.pure (.next (x_2.1,zI .i64 x.2 1))
             else Comp.pure (.done (Sum.inl x.1))) (pcs,(zs.length:Int))).val=some r:=by
     intro ys
     induction ys with
     |nil =>
      intro zs pcs hx hlen
      refine⟨.inl pcs,rfl,?_⟩
      rw[zL,if_neg (by rw[zG,zC,hx];simp),Comp.zB];rfl
     |cons y ys ih =>
      intro zs pcs hx hlen'
      have hy:s[zs.length]?=some y:=by rw[hx];simp
      have hlt:=zM hy
      unfold Xi
      by_cases he:(wth pcs y).2=0
      ·obtain⟨r,h1,h2⟩:=ih (zs++[y]) (wth pcs y).1 (by rw[hx];simp) (Eg hlen')
       refine⟨r,by rw[if_pos he];exact h1,?_⟩
       rw[zL,if_pos (by rw[zG,zC];show (zs.length:Int)<_;omega),zA,zJ hy,zJl,zA,wM y hlen',zJl,if_neg (by rw[zd];simp[he]),Comp.zB,zN (by omega),zJl]
       simpa using h2
      ·refine⟨.inr ([],(wth pcs y).2),by rw[if_neg he],?_⟩
       rw[zL,if_pos (by rw[zG,zC];show (zs.length:Int)<_;omega),zA,zJ hy,zJl,zA,wM y hlen',zJl,if_pos (by rw[zd];exact he),Comp.zB,zJl]
    obtain⟨r,h1,h2⟩:=key s [] [ln c] rfl (by simp)
    rw[zA]
    refine(congrArg (fun o=>Option.bind o _) h2).trans ?_
    rw[zJl,←h1]
    cases r<;>exact Comp.zB _
   ·rw[if_pos (by simpa using hf),if_neg hf,Comp.zB]
  ·rw[if_pos (by rw[zd];exact hs),if_neg hs,Comp.zB]
 ·rw[if_pos (by rw[zd];exact hc),if_neg hc,Comp.zB]
theorem tn (s:List Cell) (c:Cell):(gP s c).val=some ((cov s c).1,(cov s c).2,()):=by
 unfold gP cov
 rw[zA,IL,zJl,Comp.zB,Yj]
 unfold eqI
 rw[zC]
 congr 3
 by_cases h:(mns c s).1.length=0
 ·simp[h]
 ·simp[h]
theorem lg (s:List Cell):(jg s).val=some (sck s,()):=by
 unfold jg sck
 by_cases h:16<s.length
 ·rw[if_pos (by rw[yQ,zC];omega),if_pos h,Comp.zB]
 ·rw[if_neg (by rw[yQ,zC];omega),if_neg h]
  obtain⟨r,h1,h2⟩:=uu (s:=s) (by omega)
   (body:=(fun (x:Int)=>if ltI x (zF s)=true then
        (idx s x).bind fun x_1=>(Go.F.zb x_1).bind fun x_2=>if neI x_2.1 0=true then Comp.pure (.done (Sum.inr x_2.1)) else Comp.pure (.next (zI .i64 x 1))
       else Comp.pure (.done (Sum.inl ()))))
   (fun i c hc=>by
    have hlt:=zM hc
    rw[if_pos (by rw[zG,zC];omega),zA,zJ hc,zJl,zA,jz,zJl,zN (by omega)]
    by_cases h:chk c=0
    ·rw[if_neg (by rw[zd];simp[h]),if_pos h,Comp.zB]
    ·rw[if_pos (by rw[zd];exact h),if_neg h,Comp.zB])
   (by rw[if_neg (by rw[zG,zC];omega),Comp.zB])
  rw[zA]
  refine(congrArg (fun o=>Option.bind o _) h2).trans ?_
  rw[zJl,←h1]
  cases r<;>exact Comp.zB _
theorem wR (c:Cell) {s:List Cell} (hl:s.length<9223372036854775807):(yk c s).val=some (sap c s,()):=by
 unfold yk
 have h1:=ZL s (fun q=>apa c q) (c:=(Sum.inr false:Unit⊕Bool)) (d:=Sum.inl ())
  (body:=(fun (x:Int)=>if ltI x (zF s)=true then
       (idx s x).bind fun x_1=>(Go.F.zf c x_1).bind fun x_2=>if ntB x_2.1=true then Comp.pure (.done (Sum.inr false)) else Comp.pure (.next (zI .i64 x 1))
      else Comp.pure (.done (Sum.inl ()))))
  (fun i q hq=>by
   have hlt:=zM hq
   rw[if_pos (by rw[zG,zC];omega),zA,zJ hq,zJl,zA,ZU,zJl,yb,zN (by omega)]
   cases apa c q<;>exact Comp.zB _)
  (by rw[if_neg (by rw[zG,zC];omega),Comp.zB])
 rw[zA]
 refine(congrArg (fun o=>Option.bind o _) h1).trans ?_
 rw[zJl]
 unfold sap
 cases s.all fun q=>apa c q<;>exact Comp.zB _
theorem H1 {p:Pln} (h:okB p):(vA p).val=some (jh p,()):=BV h
theorem AW {c:Cell} {p:Pln} (h:c.length≤1000):(yJ c p).val=some (c++[p],()):=by
 unfold yJ
 rw[zA,zr (by simp;unfold LIM;omega),zJl,zA,zr (by simp;unfold LIM;omega),zJl,Comp.zB]
 simp
def prt (piece:Cell) (fs:List Pln):List Cell×Int:=if jq (gp piece fs)=true then ([],9) else (yY (gp piece fs),0)
theorem DN {l m:List (Option α)}:jq (l++m)=(jq l || jq m):=by
 induction l with
 |nil=>simp[jq]
 |cons x l ih=>cases x<;>simp[jq,ih]
theorem Hx {l m:List (Option α)}:yY (l++m)=yY l++yY m:=by
 induction l with
 |nil=>simp[yY]
 |cons x l ih=>cases x<;>simp[yY,ih]
theorem C4 {piece:Cell} {fs:List Pln} (hl:fs.length≤1000) (hB:∀p∈fs,okB p):(gN piece fs).val=some ((prt piece fs).1,(prt piece fs).2,()):=by
 unfold gN
 have key:∀(ys zs:List Pln) (rest:Cell) (out:List Cell),fs=zs++ys→out.length+ys.length≤10000→∃r:List Cell⊕List Cell×Int,(match r with
   |.inl x=>(x,0)
   |.inr x=>x)=(if jq (gp rest ys)=true then ([],9) else (out++yY (gp rest ys),0))∧(Comp.loop
     (fun (x:List (List (Pln))×List (Pln)×Int)=>if ltI x.2.2 (zF fs)=true then
       if geI (zF x.2.1) 48=true then Comp.pure (.done (Sum.inr ([],9)))
       else
        (idx fs x.2.2).bind fun x_1=>(Go.F.vA x_1).bind fun x_2=>(Go.F.yJ x.2.1 x_2.1).bind fun y=>(Go.F.zm y.1).bind fun x_3=>jn
             (fun (x_4:List (List (Pln)))=>(idx fs x.2.2).bind fun x_5=>(Go.F.yJ x.2.1 x_5).bind fun y=>(Go.F.zm y.1).bind fun x_6=>Comp.pure (.next (x_4,x_6.1,zI .i64 x.2.2 1)))
             fun (j :
               List (List (Pln))→Comp
                 (Comp.Step (List (List (Pln))×List (Pln)×Int)
                  (List (List (Pln))⊕List (List (Pln))×Int))) =>
             if gtI (zF x_3.1) 0=true then (app x.1 [x_3.1]).bind fun zs=>j zs
             else j x.1
      else Comp.pure (.done (Sum.inl x.1))) (out,rest,(zs.length:Int))).val=some r:=by
  intro ys
  induction ys with
  |nil =>
   intro zs rest out hx _
   refine⟨.inl out,by simp[gp,jq,yY],?_⟩
   rw[zL,if_neg (by rw[zG,zC,hx];simp),Comp.zB];rfl
  |cons p ys ih =>
   intro zs rest out hx hlen
   simp only[List.length_cons]at hlen
   have hy:fs[zs.length]?=some p:=by rw[hx];simp
   have hlt:=zM hy
   have hp:=hB p (List.mem_of_getElem? hy)
   by_cases hr:48≤rest.length
   ·refine⟨.inr ([],9),by unfold gp;rw[if_pos hr];rfl,?_⟩
    rw[zL,if_pos (by rw[zG,zC];show (zs.length:Int)<_;omega),if_pos (by rw[Kz,zC];show _≤((rest.length:Nat):Int);omega),Comp.zB];rfl
   ·let out2:List Cell:=if ln (rest++[jh p])=[] then out else out++[ln (rest++[jh p])]
    have hout2:out2.length≤out.length+1:=by
     show (if ln (rest++[jh p])=[] then out else out++[ln (rest++[jh p])]).length≤_
     split<;>simp
    obtain⟨r,h1,h2⟩:=ih (zs++[p]) (ln (rest++[p])) out2 (by rw[hx];simp) (by omega)
    refine⟨r,?_,?_⟩
    ·rw[h1]
     have hgp:gp rest (p::ys)=(bif decide (ln (rest++[jh p])=[]) then [] else [some (ln (rest++[jh p]))])++gp (ln (rest++[p])) ys:=by
      conv=>lhs;unfold gp
      rw[if_neg hr]
     rw[hgp,DN,Hx]
     show (if _ then _ else ((if ln (rest++[jh p])=[] then out else out++[ln (rest++[jh p])])++_,_))=_
     by_cases h0:ln (rest++[jh p])=[]
     ·rw[decide_eq_true h0,if_pos h0];simp[jq,yY]
     ·rw[decide_eq_false h0,if_neg h0];simp[jq,yY]
    ·have ht:∀o:List Cell,((idx fs (zs.length:Int)).bind fun x_5=>(Go.F.yJ rest x_5).bind fun y=>(Go.F.zm y.1).bind fun x_6=>(Comp.pure (.next (o,x_6.1,zI .i64 (zs.length:Int) 1)):Comp (Comp.Step (List Cell×Cell×Int) (List Cell⊕List Cell×Int)))).val=some (.next (o,ln (rest++[p]),((zs.length+1:Nat):Int))):=fun o=>by
      rw[zA,zJ hy,zJl,zA,AW (by omega),zJl,zA,XI,zJl,Comp.zB,zN (by omega)]
     rw[zL,if_pos (by rw[zG,zC];show (zs.length:Int)<_;omega),if_neg (by rw[Kz,zC];show ¬_≤((rest.length:Nat):Int);omega),
      zA,zJ hy,zJl,zA,H1 hp,zJl,zA,AW (by show rest.length≤1000;omega),zJl,zA,XI,zJl,vi]
     have hout:(if gtI (zF (ln (rest++[jh p]))) 0=true then (app out [ln (rest++[jh p])]).bind fun zs1=>((idx fs (zs.length:Int)).bind fun x_5=>(Go.F.yJ rest x_5).bind fun y=>(Go.F.zm y.1).bind fun x_6=>(Comp.pure (.next (zs1,x_6.1,zI .i64 (zs.length:Int) 1)):Comp (Comp.Step (List Cell×Cell×Int) (List Cell⊕List Cell×Int))))
       else ((idx fs (zs.length:Int)).bind fun x_5=>(Go.F.yJ rest x_5).bind fun y=>(Go.F.zm y.1).bind fun x_6=>(Comp.pure (.next (out,x_6.1,zI .i64 (zs.length:Int) 1)):Comp (Comp.Step (List Cell×Cell×Int) (List Cell⊕List Cell×Int))))).val=some (.next (out2,ln (rest++[p]),((zs.length+1:Nat):Int))):=by
      show _=some (Comp.Step.next (if ln (rest++[jh p])=[] then out else out++[ln (rest++[jh p])],_,_))
      by_cases h0:ln (rest++[jh p])=[]
      ·rw[if_neg (by rw[yQ,zC,h0];simp),if_pos h0]
       exact ht out
      ·rw[if_pos (by rw[yQ,zC];have:=List.length_pos_iff.2 h0;omega),if_neg h0,zA,zr (by simp only[zJq];unfold LIM;omega),zJl]
       exact ht _
     refine(congrArg (fun o=>Option.bind o _) hout).trans ?_
     rw[zJl]
     simpa using h2
 obtain⟨r,h1,h2⟩:=key fs [] piece [] rfl (by simp;omega)
 rw[zA]
 refine(congrArg (fun o=>Option.bind o _) h2).trans ?_
 rw[zJl]
 have hp:prt piece fs=(match (generalizing:=false) r with
   |.inl x=>(x,0)
   |.inr x=>x):=by rw[h1];rfl
 rw[hp]
 cases r<;>exact Comp.zB _
theorem KA {pieces:List Cell} (q:Cell) (hl:pieces.length≤200):(yr pieces q).val=some ((wth pieces q).1,(wth pieces q).2,()):=by
 unfold yr
 rw[zA,YU,zJl,yb]
 by_cases hf:ful q=true
 ·rw[if_neg (by simp[hf])]
  have hq:=zFq (c:=q)
  have key:∀(ys zs:List Cell) (out:List Cell),pieces=zs++ys→out.length+ys.length * 49≤20000→∃r:List Cell⊕List Cell×Int,(match r with
    |.inl x=>some x
    |.inr _=>none)=wo q ys out∧(∀x,r=.inr x→x=([],9))∧(Comp.loop
       (fun (x:List (List (Pln))×Int)=>if ltI x.2 (zF pieces)=true then
         jn (fun (x_1:List (List (Pln)))=>Comp.pure (.next (x_1,zI .i64 x.2 1)))
          fun (j :
            List (List (Pln))→Comp
              (Comp.Step (List (List (Pln))×Int)
               (List (List (Pln))⊕List (List (Pln))×Int))) =>
          (idx pieces x.2).bind fun x_1=>(Go.F.zf x_1 q).bind fun x_2=>if x_2.1=true then
             (idx pieces x.2).bind fun x_3=>(app x.1 [x_3]).bind fun zs=>j zs
            else
             (idx pieces x.2).bind fun x_3=>(Go.F.zm q).bind fun x_4=>(Go.F.gN x_3 x_4.1).bind fun x_5=>if neI x_5.2.1 0=true then Comp.pure (.done (Sum.inr ([],x_5.2.1)))
                else (app x.1 x_5.1).bind fun zs=>j zs
        else Comp.pure (.done (Sum.inl x.1))) (out,(zs.length:Int))).val=some r:=by
   intro ys
   induction ys with
   |nil =>
    intro zs out hx hlen
    refine⟨.inl out,rfl,(fun x h=>nomatch h),?_⟩
    rw[zL,if_neg (by rw[zG,zC,hx];simp),Comp.zB];rfl
   |cons y ys ih =>
    intro zs out hx hlen
    simp only[List.length_cons]at hlen
    have hy:pieces[zs.length]?=some y:=by rw[hx];simp
    have hlt:=zM hy
    by_cases ha:apa y q=true
    ·obtain⟨r,h1,h2,h4⟩:=ih (zs++[y]) (out++[y]) (by rw[hx];simp) (by simp only[zJo,zJq];omega)
     refine⟨r,by rw[h1];conv=>rhs;unfold wo;rw[if_pos ha],h2,?_⟩
     rw[zL,if_pos (by rw[zG,zC];show (zs.length:Int)<_;omega),vi,zA,zJ hy,zJl,zA,ZU,zJl,if_pos ha,zA,zJ hy,zJl,zA,
      zr (by simp only[zJq];unfold LIM;show out.length+1≤_;omega),zJl,Comp.zB,zJl,zN (by omega)]
     simpa using h4
    ·have hpv:=C4 (piece:=y) (fs:=ln q) (by omega) hq.2
     by_cases hn:jq (gp y (ln q))=true
     ·have hp:prt y (ln q)=([],9):=by unfold prt;rw[if_pos hn]
      refine⟨.inr ([],9),by conv=>rhs;unfold wo;rw[if_neg ha,if_pos hn],(fun x h=>by cases h;rfl),?_⟩
      rw[hp]at hpv
      rw[zL,if_pos (by rw[zG,zC];show (zs.length:Int)<_;omega),vi,zA,zJ hy,zJl,zA,ZU,zJl,if_neg ha,zA,zJ hy,zJl,zA,
       XI,zJl,zA,hpv,zJl,if_pos (by rw[zd];show (9:Int)≠0;decide),Comp.zB]
      rfl
     ·have hp:prt y (ln q)=(yY (gp y (ln q)),0):=by unfold prt;rw[if_neg hn]
      have hs:=JQ (l:=gp y (ln q))
      have hg:=lE (fs:=ln q) (rest:=y)
      obtain⟨r,h1,h2,h4⟩:=ih (zs++[y]) (out++yY (gp y (ln q))) (by rw[hx];simp) (by simp only[zJo];omega)
      refine⟨r,by rw[h1];conv=>rhs;unfold wo;rw[if_neg ha,if_neg hn],h2,?_⟩
      rw[hp]at hpv
      rw[zL,if_pos (by rw[zG,zC];show (zs.length:Int)<_;omega),vi,zA,zJ hy,zJl,zA,ZU,zJl,if_neg ha,zA,zJ hy,zJl,zA,
       XI,zJl,zA,hpv,zJl,if_neg (by rw[zd];simp),zA,zr (by unfold LIM;show out.length+(yY (gp y (ln q))).length≤_;omega),zJl,Comp.zB,zJl,zN (by omega)]
      simpa using h4
  obtain⟨r,h1,h2,h4⟩:=key pieces [] [] rfl (by simp;omega)
  rw[zA]
  refine(congrArg (fun o=>Option.bind o _) h4).trans ?_
  rw[zJl]
  unfold wth
  rw[if_pos hf,←h1]
  cases r with
  |inl x =>
   simp only
   by_cases hlen:200<x.length
   ·rw[if_pos (by rw[yQ,zC];omega),if_pos hlen,Comp.zB]
   ·rw[if_neg (by rw[yQ,zC];omega),if_neg hlen,Comp.zB]
  |inr x =>
   rw[h2 x rfl]
   exact Comp.zB _
 ·rw[if_pos (by simpa using hf),Comp.zB]
  unfold wth
  rw[if_neg hf]
theorem r9:∀(s:List Cell),Xi [] s=([],0)
 | []=>rfl
 |q::s=>by
  have h:wth [] q=([],0):=by
   unfold wth
   split
   ·rfl
   ·rfl
  unfold Xi
  rw[h]
  exact r9 s
theorem C5 (c:Cell) (s:List Cell):(jf c s).val=some ((mns c s).1,(mns c s).2,()):=by
 unfold jf mns
 rw[zA,jz,zJl,vi]
 by_cases hc:chk c=0
 ·rw[if_pos (by rw[y5];exact hc),if_pos hc,zA,lg,zJl]
  by_cases hs:sck s=0
  ·have hlen:s.length≤16:=by
    unfold sck at hs
    split at hs
    ·cases hs
    ·omega
   show (if neI (sck s) 0=true then _ else _:Comp (List Cell×Int×Unit)).val=_
   rw[if_neg (by rw[zd];simp[hs]),if_pos hs,zA,YU,zJl,vi]
   have key:∀(ys zs:List Cell) (pcs:List Cell),s=zs++ys→pcs.length≤200→∃r:List Cell⊕List Cell×Int,(match r with
     |.inl x=>(x,0)
     |.inr x =>
           x)=Xi pcs ys∧(Comp.loop
           (fun (x:List (List (Pln))×Int)=>if ltI x.2 (zF s)=true then
             (idx s x.2).bind fun x_1=>(Go.F.yr x.1 x_1).bind fun x_2=>if neI x_2.2.1 0=true then Comp.pure (.done (Sum.inr ([],x_2.2.1)))
               else Comp.pure (.next (x_2.1,zI .i64 x.2 1))
            else Comp.pure (.done (Sum.inl x.1))) (pcs,(zs.length:Int))).val=some r:=by
    intro ys
    induction ys with
    |nil =>
     intro zs pcs hx hlen
     refine⟨.inl pcs,rfl,?_⟩
     rw[zL,if_neg (by rw[zG,zC,hx];simp),Comp.zB];rfl
    |cons y ys ih =>
     intro zs pcs hx hlen'
     have hy:s[zs.length]?=some y:=by rw[hx];simp
     have hlt:=zM hy
     unfold Xi
     by_cases he:(wth pcs y).2=0
     ·obtain⟨r,h1,h2⟩:=ih (zs++[y]) (wth pcs y).1 (by rw[hx];simp) (Eg hlen')
      refine⟨r,by rw[if_pos he];exact h1,?_⟩
      rw[zL,if_pos (by rw[zG,zC];show (zs.length:Int)<_;omega),zA,zJ hy,zJl,zA,KA y hlen',zJl,if_neg (by rw[zd];simp[he]),Comp.zB,zN (by omega),zJl]
      simpa using h2
     ·refine⟨.inr ([],(wth pcs y).2),by rw[if_neg he],?_⟩
      rw[zL,if_pos (by rw[zG,zC];show (zs.length:Int)<_;omega),zA,zJ hy,zJl,zA,KA y hlen',zJl,if_pos (by rw[zd];exact he),Comp.zB,zJl]
   have tail:∀pcs:List Cell,pcs.length≤200→((Comp.loop
            (fun (x:List (List (Pln))×Int)=>if ltI x.2 (zF s)=true then
              (idx s x.2).bind fun x_1=>(Go.F.yr x.1 x_1).bind fun x_2=>if neI x_2.2.1 0=true then Comp.pure (.done (Sum.inr ([],x_2.2.1)))
                else Comp.pure (.next (x_2.1,zI .i64 x.2 1))
             else Comp.pure (.done (Sum.inl x.1)))
            (pcs,0)).bind fun (x:List (List (Pln))⊕List (List (Pln))×Int)=>match x with
          |Sum.inl x=>(Comp.pure (x,0,()):Comp (List Cell×Int×Unit))
          |Sum.inr x=>Comp.pure (x.1,x.2,())).val=some ((Xi pcs s).1,(Xi pcs s).2,()):=by
    intro pcs hp
    obtain⟨r,h1,h2⟩:=key s [] pcs rfl hp
    rw[zA]
    refine(congrArg (fun o=>Option.bind o _) h2).trans ?_
    rw[zJl,←h1]
    cases r<;>exact Comp.zB _
   by_cases hf:ful c=true
   ·rw[if_pos hf,if_pos hf,zA,XI,zJl,zA,zr (by simp;unfold LIM;omega),zJl]
    exact tail [ln c] (by simp)
   ·rw[if_neg hf,if_neg hf]
    refine(tail [] (by simp)).trans ?_
    rw[r9]
  ·show (if neI (sck s) 0=true then _ else _:Comp (List Cell×Int×Unit)).val=_
   rw[if_pos (by rw[zd];exact hs),if_neg hs,Comp.zB]
 ·rw[if_neg (by rw[y5];exact hc),if_neg hc]
  show (if neI (chk c) 0=true then _ else _:Comp (List Cell×Int×Unit)).val=_
  rw[if_pos (by rw[zd];exact hc),Comp.zB]
theorem lq (s:List Cell) (c:Cell):(y7 s c).val=some ((cov s c).1,(cov s c).2,()):=by
 unfold y7 cov
 rw[zA,C5,zJl,Comp.zB,Yj]
 unfold eqI
 rw[zC]
 congr 3
 by_cases h:(mns c s).1.length=0
 ·simp[h]
 ·simp[h]
end Go.Geo
end
