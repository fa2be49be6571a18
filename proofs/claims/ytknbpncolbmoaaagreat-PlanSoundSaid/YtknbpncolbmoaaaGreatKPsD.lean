/- Lemmas behind a claim. -/
import Derived.Test.YtknbpncolbmoaaaGreatKPsC
import Derived.Scope
import Derived.RecoverIn
set_option linter.unusedSimpArgs false
set_option linter.unusedVariables false
open Go.Lift.Comp (tN run_bind qH run_pure)
section
namespace Go.Den
open Go Go.RowKit Go.Eng Go.Lift
variable {α β γ δ:Type}
def nQ:AV->Option (List Nat)
 |.un=>some []
 |.pr (.bx k 0) b=>match nQ b with
  |some l=>some (k::l)
  |none=>none
 |_=>none
def qv:List Nat->AV
 | []=>.un
 |k::l=>.pr (.bx k 0) (qv l)
theorem qN:∀ {φ:AV} {l:List Nat},nQ φ=some l->φ=qv l:=by
 intro φ
 induction φ with
 |un=>intro l h;cases h;rfl
 |pr a b iha ihb =>
  intro l h;unfold nQ at h;split at h
  ·rename_i h1;cases h1
  ·rename_i k b' h1
   injection h1 with h1 h2
   subst h1 h2;split at h
   ·rename_i l' hl;cases h;rw[ihb hl];rfl
   ·cases h
  ·cases h
 |_=>intro l h;cases h
theorem AC{X:Cx}{w:World}:∀ {l:List Nat} {us:List Value},((qv l).sem X w).l us->us=l.map X.U/\∀k∈l,k<X.n/\∃b,X.U k=.pointer (some ⟨b,0,none⟩)
 | [],us,h=>⟨h,by simp⟩
 |k::l,us,h=>by
  obtain⟨v,vs,h1,h2,h3⟩:=h;obtain⟨h4,b,h5,h6⟩:=h2;obtain⟨h7,h8⟩:=AC h3;refine⟨by rw[h1,h7,h6,<-h5];rfl,fun j hj=>?_⟩
  rcases zLV.1 hj with rfl|hj
  ·exact⟨h4,b,h5⟩
  ·exact h8 j hj
theorem qX{X:Cx}{w:World}:∀ {l:List Nat},(∀k∈l,k<X.n/\∃b,X.U k=.pointer (some ⟨b,0,none⟩))->((qv l).sem X w).l (l.map X.U)
 | [],_=>rfl
 |k::l,h=>by
  obtain⟨h1,b,h2⟩:=h k (by simp)
  exact⟨_,_,rfl,⟨h1,b,h2,h2⟩,qX fun j hj=>h j (by simp[hj])⟩
theorem tj:∀l:List Nat,(qv l).zg=false
 | []=>rfl
 |k::l=>by show (false || (qv l).zg)=false;rw[tj l];rfl
def zAB:List Nat->List Nat->Bool
 | [],[]=>true
 |a::l,b::m=>Nat.beq a b && zAB l m
 |_,_=>false
theorem G5:∀ {l m:List Nat},zAB l m=true->l=m
 | [],[],_=>rfl
 |a::l,b::m,h=>by
  simp only[zAB,zLR]at h;rw[zLQ h.1,G5 h.2]
 | [],_::_,h=>nomatch h
 |_::_,[],h=>nomatch h
def W5:AV->Bool
 |.un=>true
 |_=>false
theorem mW{φ:AV}(h:W5 φ=true):φ=.un:=by cases φ<;>first|rfl|cases h
def Sd(f:FuncId)(all:List Nat):AV->Bool
 |.cl g a b=>Nat.beq f g && (W5 a && match nQ b with
  |some l=>zAB l all
  |none=>false)
 |_=>false
theorem BB{f:FuncId}{all:List Nat}{c:AV}(h:Sd f all c=true):c=.cl f .un (qv all):=by
 unfold Sd at h;split at h
 ·simp only[zLR]at h
  obtain⟨h1,h2,h3⟩:=h;split at h3
  ·rename_i l hl
   rw[zLQ h1,mW h2,qN hl,G5 h3]
  ·cases h3
 ·cases h
def gA(G:FE)(f:FuncId)(all:List Nat)(M:MS):(l:List CQ)->List Nat->Option (CR l×CB l×List (Option Nat))
 | [],ks=>match ks with
  | []=>some ((),(),[])
  |_=>none
 |.r t T::l,ks=>match ks with
  | []=>none
  |k::ks=>match look M k with
   |some (_,.bx _ (.rd t' x') T')=>match Nat.beq T T',t'.to t x',gA G f all M l ks with
    |true,some x,some p=>some ((x,p.1),p.2.1,p.2.2)
    |_,_,_=>none
   |_=>none
 |.p t T::l,ks=>match ks with
  | []=>none
  |k::ks=>match look M k with
   |some (_,.bx _ c T')=>match Nat.beq T T',c.asT G M t,gA G f all M l ks with
    |true,some x,some p=>some (p.1,(x,p.2.1),p.2.2)
    |_,_,_=>none
   |_=>none
 |.o t T' T::l,ks=>match ks with
  | []=>none
  |k::ks=>match look M k with
   |some (_,.bx _ c T1)=>match Nat.beq T T1,Xs M c with
    |true,some q=>match Nat.beq q.2.2.1 T',(Ty.sl q.2.2.2.1).to (.sl t) q.2.2.2.2,gA G f all M l ks with
     |true,some xs,some p=>some (p.1,((xs:List t.D),p.2.1),some q.1::p.2.2)
     |_,_,_=>none
    |true,none=>match Yk c,gA G f all M l ks with
     |true,some p=>some (p.1,(([]:List t.D),p.2.1),none::p.2.2)
     |_,_=>none
    |_,_=>none
   |_=>none
 |.s T::l,ks=>match ks with
  | []=>none
  |k::ks=>match look M k with
   |some (_,.bx _ c T')=>match Nat.beq T T',Sd f all c,gA G f all M l ks with
    |true,true,some p=>some (p.1,p.2.1,p.2.2)
    |_,_,_=>none
   |_=>none
def rO(M:MS)(k:Nat):Bool:=match look M k with
 |some (_,.bx nw _ _)=>nw
 |some (_,.sl nw _ _ _)=>nw
 |_=>true
def nwQ(M:MS):Option Nat->Bool
 |some k=>rO M k
 |none=>true
def vP(M:MS)(n:Nat):(l:List CQ)->List Nat->List (Option Nat)->CB l->MS
 | [],_,_,_=>[]
 |.p t T::l,ks,qs,y=>match ks with
  | []=>[]
  |k::ks=>(k,n,.bx (rO M k) (.rd t y.1) T)::vP M n l ks qs y.2
 |.o t T' T::l,ks,qs,y=>match ks,qs with
  |k::ks,some j::qs=>(k,n,.bx (rO M k) (.ob n) T)::(n,n,.sl (rO M j) t T' y.1)::(j,n,.dead)::vP M n l ks qs y.2
  |k::ks,none::qs=>(k,n,.bx (rO M k) (.ob n) T)::(n,n,.sl true t T' y.1)::vP M n l ks qs y.2
  |_,_=>[]
 |.r t T::l,ks,qs,y=>match ks with
  | []=>[]
  |k::ks=>vP M n l ks qs y
 |.s T::l,ks,qs,y=>match ks with
  | []=>[]
  |k::ks=>vP M n l ks qs y
def stK:List CQ->List Nat->List Nat
 |.r _ _::l,k::ks=>k::stK l ks
 |.s _::l,k::ks=>k::stK l ks
 |_::l,_::ks=>stK l ks
 |_,_=>[]
def qj:List Nat->Bool
 | []=>true
 |k::l=>!vf k l && qj l
theorem wF:∀ {l:List Nat},qj l=true->l.Nodup
 | [],_=>List.nodup_nil
 |k::l,h=>by
  simp only[qj,zLR,Bool.not_eq_true']at h;exact List.nodup_cons.2 ⟨fun hm=>by rw[kX.2 hm]at h;exact zLh h.1 (by simp),wF h.2⟩
def yM:List (Option Nat)->List Nat
 | []=>[]
 |some j::l=>j::yM l
 |none::l=>yM l
theorem YS{j:Nat}:∀ {l:List (Option Nat)},j∈yM l↔some j∈l
 | []=>by simp[yM]
 |some k::l=>by simp[yM,YS (l:=l)]
 |none::l=>by simp[yM,YS (l:=l)]
def tgQ(X:Cx)(fr:Nat):Option Nat->Nat
 |some j=>X.ι j
 |none=>fr
def BKs(X:Cx):List Nat->List Nat->Prop
 | [],[]=>True
 |k::ks,b::bl=>X.U k=.pointer (some ⟨b,0,none⟩)/\BKs X ks bl
 |_,_=>False
def lP(X:Cx)(qs:List (Option Nat))(g:Nat):Prop:=∃j,some j∈qs/\(X.U j).ownBlock=some g
theorem Is{P:Program}{k:Nat}{Q:Nat->Prop}{O:zR}{w:World}{u:Value}{T:TypeId}{a b:Ty}{xs:List a.D}{ys:List b.D}(e:Ty.sl a=.sl b)(h:Ty.cast e xs=ys)(hO:zo k (a.gr P) T Q O w u xs):zo k (b.gr P) T Q O w u ys:=by
 injection e with e
 subst e;subst h;exact hO
theorem KZ{f:FuncId}{all:List Nat}{X:Cx}{w:World}{G:FE}(hG:FOk X.P G){M:MS}(hM:yD M X w){fr:Nat}:∀ {l:List CQ} {ks:List Nat} {x:CR l} {y:CB l} {qs:List (Option Nat)},gA G f all M l ks=some (x,y,qs) ->
  (∀k∈ks,∃st nw c T,look M k=some (st,.bx nw c T))/\(∀j,some j∈qs->∃st nw t T xs,look M j=some (st,.sl nw t T xs)) /\
  ∃bl ss,BKs X ks bl/\(∀Q:Nat->Prop,(∀g,lP X qs g->Q g)->Cnt X.P f (all.map X.U) X.O w Q l x y bl (ks.map X.ι) (qs.map (tgQ X fr)) ss):=by
 intro l
 induction l with
 |nil =>
  intro ks x y qs h;simp only[gA]at h;split at h
  ·cases h
   exact⟨by simp,by simp,[],[],trivial,fun _ _=>⟨rfl,rfl,rfl,rfl⟩⟩
  ·cases h
 |cons q l ih =>
  intro ks x y qs h
  cases q with
  |s T =>
   simp only[gA]at h;split at h
   ·cases h
   ·rename_i k ks'
    split at h
    ·rename_i st nw c T' hk
     split at h
     ·rename_i p hT hc hp
      cases h
      obtain⟨i1,i2,bl,ss,i3,i4⟩:=ih (x:=p.1) (y:=p.2.1) (qs:=p.2.2) hp;obtain⟨b,cs,g1,g2,g3,g4⟩:=hM k _ hk;have xP:T=T':=zLQ hT
      subst xP;have hc:=BB hc
      subst hc;obtain⟨u,f1,f2,vs,us,f3,f4,f5⟩:=g3;obtain⟨f6,_⟩:=AC f4;have sV:vs=[]:=f3
      subst sV;subst f6;have tW:cs=#[u]:=Array.ext' (by simpa using f1)
      rw[f5]at tW;subst tW;refine⟨fun j hj=>?_,i2,b::bl,ss,⟨g1,i3⟩,fun Q hQ=>⟨b,bl,X.ι k,ks'.map X.ι,rfl,rfl,g2.own,g2.tag,i4 Q hQ⟩⟩
      rcases zLV.1 hj with rfl|hj
      ·exact⟨_,_,_,_,hk⟩
      ·exact i1 j hj
     ·cases h
    ·cases h
  |r t T =>
   simp only[gA]at h;split at h
   ·cases h
   ·rename_i k ks'
    split at h
    ·rename_i st nw t' x' T' hk
     split at h
     ·rename_i x0 p hT hc hp
      cases h
      obtain⟨i1,i2,bl,ss,i3,i4⟩:=ih (x:=p.1) (y:=p.2.1) (qs:=p.2.2) hp;obtain⟨b,cs,g1,g2,g3,g4⟩:=hM k _ hk;have xP:T=T':=zLQ hT
      subst xP;refine⟨fun j hj=>?_,i2,b::bl,ss,⟨g1,i3⟩,fun Q hQ=>⟨b,bl,X.ι k,ks'.map X.ι,cs,rfl,rfl,g2.own,g2.tag,lX hc g3,i4 Q hQ⟩⟩
      rcases zLV.1 hj with rfl|hj
      ·exact⟨_,_,_,_,hk⟩
      ·exact i1 j hj
     ·cases h
    ·cases h
  |p t T =>
   simp only[gA]at h;split at h
   ·cases h
   ·rename_i k ks'
    split at h
    ·rename_i st nw c T' hk
     split at h
     ·rename_i x0 p hT hc hp
      cases h
      obtain⟨i1,i2,bl,ss,i3,i4⟩:=ih (x:=p.1) (y:=p.2.1) (qs:=p.2.2) hp;obtain⟨b,cs,g1,g2,g3,g4⟩:=hM k _ hk;have xP:T=T':=zLQ hT
      subst xP;refine⟨fun j hj=>?_,i2,b::bl,ss,⟨g1,i3⟩,fun Q hQ=>⟨b,bl,X.ι k,ks'.map X.ι,cs,rfl,rfl,g2.own,g2.tag,(AV.jS hG c hM).vc hc g3,i4 Q hQ⟩⟩
      rcases zLV.1 hj with rfl|hj
      ·exact⟨_,_,_,_,hk⟩
      ·exact i1 j hj
     ·cases h
    ·cases h
  |o t T1 T =>
   simp only[gA]at h;split at h
   ·cases h
   ·rename_i k ks'
    split at h
    ·rename_i st nw c T' hk
     obtain⟨b,cs,g1,g2,g3,g4⟩:=hM k _ hk;split at h
     ·rename_i q hT hq
      have xP:T=T':=zLQ hT;subst xP;split at h
      ·rename_i xs p hT1 hx hp
       cases h
       obtain⟨i1,i2,bl,ss,i3,i4⟩:=ih (x:=p.1) (y:=p.2.1) (qs:=p.2.2) hp
       -- the variable's one cell
       have bY:c=.ob q.1/\∃st',look M q.1=some (st',.sl q.2.1 q.2.2.2.1 q.2.2.1 q.2.2.2.2):=by
        unfold Xs at hq;split at hq
        ·split at hq
         ·rename_i j _ st' nw' t' T2 xs' hj;cases hq;exact⟨rfl,_,hj⟩
         ·cases hq
        ·cases hq
       obtain⟨hc,st',hj⟩:=bY;subst hc;obtain⟨u,f1,f2,f3⟩:=g3;have tW:cs=#[u]:=Array.ext' (by simpa using f1)
       subst tW;have hO:=hM q.1 _ hj
       change zo (X.ι q.1) (q.2.2.2.1.gr X.P) q.2.2.1 (X.B q.2.1) X.O w (X.U q.1) q.2.2.2.2 at hO
       have e1:=zLQ hT1;obtain⟨e2,e3⟩:=Ty.jL hx;refine⟨fun j hj=>?_,fun j hj'=>?_,b::bl,u::ss,⟨g1,i3⟩,fun Q hQ=>⟨b,bl,X.ι k,ks'.map X.ι,X.ι q.1,p.2.2.map (tgQ X fr),u,ss,rfl,rfl,rfl,rfl,f2,g2.own,g2.tag,?_,i4 Q fun g hg=>hQ g (by obtain⟨j,h1,h2⟩:=hg;exact⟨j,by simp[h1],h2⟩)⟩⟩
       ·rcases zLV.1 hj with rfl|hj
        ·exact⟨_,_,_,_,hk⟩
        ·exact i1 j hj
       ·rcases zLV.1 hj' with e|hj'
        ·cases e;exact⟨_,_,_,_,_,hj⟩
        ·exact i2 j hj'
       ·rw[f3.1,<-e1]
        obtain⟨vs,k1,k2,k3⟩:=hO;have hOL:zo (X.ι q.1) (q.2.2.2.1.gr X.P) q.2.2.1 Q X.O w (X.U q.1) q.2.2.2.2:=⟨vs,k1,k2,fun g hg=>⟨(k3 g hg).1,hQ g ⟨q.1,by simp,hg⟩⟩⟩
        exact Is e2 e3 hOL
      ·cases h
     ·rename_i hT hq
      have xP:T=T':=zLQ hT;subst xP;split at h
      ·rename_i p hn hp
       cases h
       obtain⟨i1,i2,bl,ss,i3,i4⟩:=ih (x:=p.1) (y:=p.2.1) (qs:=p.2.2) hp;have hφ:=jU hn
       subst hφ;have tW:cs=#[.slice none 0 0]:=Array.ext' (show cs.toList=_ from g3)
       subst tW;refine⟨fun j hj=>?_,fun j hj'=>i2 j (by simpa using hj'),b::bl,.slice none 0 0::ss,⟨g1,i3⟩,fun Q hQ=>⟨b,bl,X.ι k,ks'.map X.ι,fr,p.2.2.map (tgQ X fr),.slice none 0 0,ss,rfl,rfl,rfl,rfl,rfl,g2.own,g2.tag,zo.nil _ _ _ _ _ _,i4 Q fun g hg=>hQ g (by obtain⟨j,h1,h2⟩:=hg;exact⟨j,by simp[h1],h2⟩)⟩⟩
       rcases zLV.1 hj with rfl|hj
       ·exact⟨_,_,_,_,hk⟩
       ·exact i1 j hj
      ·cases h
     ·cases h
    ·cases h
theorem BKs.mem{X:Cx}:∀ {ks bl:List Nat},BKs X ks bl->∀b∈bl,∃k∈ks,X.U k=.pointer (some ⟨b,0,none⟩)
 | [],[],_,b,hb=>by cases hb
 |k::ks,c::bl,h,b,hb=>by
  rcases zLV.1 hb with rfl|hb
  ·exact⟨k,by simp,h.1⟩
  ·obtain⟨j,h1,h2⟩:=BKs.mem h.2 b hb
   exact⟨j,by simp[h1],h2⟩
 | [],_::_,h,_,_=>h.elim
 |_::_,[],h,_,_=>h.elim
theorem Dt{f:FuncId}{all:List Nat}{G:FE}{M:MS}{n:Nat}:∀ {l:List CQ} {ks:List Nat} {x:CR l} {y:CB l} {qs:List (Option Nat)},gA G f all M l ks=some (x,y,qs)->∀(y':CB l) k,(k∈ks\/some k∈qs)->look (vP M n l ks qs y') k≠none\/k∈stK l ks:=by
 have hc:∀ {α:Type} {k j:Nat} {x:α} {l:List (Nat×α)} {p:Prop},(k≠j->look l j≠none\/p)->look ((k,x)::l) j≠none\/p:=by
  intro α k j x l p h;unfold look
  cases hb:Nat.beq k j with
  |true=>simp[hb]
  |false=>simp only[hb,cond_false];rw[zU]at hb;exact h (by simpa using hb)
 intro l
 induction l with
 |nil =>
  intro ks x y qs h y' k hk;simp only[gA]at h;split at h
  ·cases h;simp at hk
  ·cases h
 |cons q l ih =>
  intro ks x y qs h y' k hk
  cases q with
  |s T =>
   cases ks with
   |nil=>simp[gA]at h
   |cons k0 ks0 =>
    simp only[gA]at h;split at h
    ·split at h
     ·rename_i p hT hc' hp
      cases h
      by_cases sN:k=k0
      ·exact .inr (by simp[stK,sN])
      ·exact(ih (x:=p.1) (y:=p.2.1) (qs:=p.2.2) hp y' k (hk.imp (fun h=>(zLV.1 h).resolve_left sN) id)).imp id fun h=>by simp[stK,h]
     ·cases h
    ·cases h
  |r t T =>
   cases ks with
   |nil=>simp[gA]at h
   |cons k0 ks0 =>
    simp only[gA]at h;split at h
    ·split at h
     ·rename_i x0 p hT hc' hp
      cases h
      by_cases sN:k=k0
      ·exact .inr (by simp[stK,sN])
      ·exact(ih (x:=p.1) (y:=p.2.1) (qs:=p.2.2) hp y' k (hk.imp (fun h=>(zLV.1 h).resolve_left sN) id)).imp id fun h=>by simp[stK,h]
     ·cases h
    ·cases h
  |p t T =>
   simp only[gA]at h;split at h
   ·cases h
   ·split at h
    ·split at h
     ·rename_i x0 p hT hc' hp
      cases h
      refine hc fun fC=>ih (x:=p.1) (y:=p.2.1) (qs:=p.2.2) hp y'.2 k (hk.imp (fun h=>?_) id)
      rcases zLV.1 h with rfl|h
      ·exact zLh rfl fC
      ·exact h
     ·cases h
    ·cases h
  |o t T1 T =>
   simp only[gA]at h;split at h
   ·cases h
   ·split at h
    ·split at h
     ·split at h
      ·rename_i xs p hT1 hx hp
       cases h
       refine hc fun fC=>hc fun hne2=>hc fun hne3=>ih (x:=p.1) (y:=p.2.1) (qs:=p.2.2) hp y'.2 k (hk.imp (fun h=>?_) fun h=>?_)
       ·rcases zLV.1 h with rfl|h
        ·exact zLh rfl fC
        ·exact h
       ·rcases zLV.1 h with e|h
        ·cases e;exact zLh rfl hne3
        ·exact h
      ·cases h
     ·split at h
      ·rename_i p hn hp
       cases h
       refine hc fun fC=>hc fun hne2=>ih (x:=p.1) (y:=p.2.1) (qs:=p.2.2) hp y'.2 k (hk.imp (fun h=>?_) fun h=>by simpa using h)
       rcases zLV.1 h with rfl|h
       ·exact zLh rfl fC
       ·exact h
      ·cases h
     ·cases h
    ·cases h
theorem MQ{f:FuncId}{all:List Nat}{X X':Cx}{w w':World}{M:MS}(hM:yD M X w)(hP:X'.P=X.P)(hA:X'.A=X.A)(hF:X'.F=X.F){n:Nat}(hU:∀k,k<n->X'.U k=X.U k)(hι:∀k,k<n->X'.ι k=X.ι k)(hn:X'.n=n+1)(cK:∀k e,look M k=some e->k<n){fr:Nat}{G:Nat->Prop} :
  ∀ {l:List CQ} {ks:List Nat} {qs:List (Option Nat)} {x:CR l} {y':CB l} {bl:List Nat} {ss':List Value},(∀k∈ks,∃st nw c T,look M k=some (st,.bx nw c T))->BKs X ks bl ->
  Cnt X.P f (all.map X.U) X'.O w' G l x y' bl (ks.map X.ι) (qs.map (tgQ X fr)) ss'->qs.length<=1->(∀u,ss'.head?=some u->X'.U n=u)->(∀q,qs.head?=some q->X'.ι n=tgQ X fr q/\∀g,G g->X.B (nwQ M q) g) ->
  ∀k e,(k,e)∈vP M n l ks qs y'->e.1=n/\e.2.holds X' w' k/\((k∈ks/\k<n)\/(k=n/\qs≠[])\/(some k∈qs/\e.2=.dead)):=by
 intro l
 induction l with
 |nil=>intro ks qs x y' bl ss' _ _ _ _ _ _ k e he;simp[vP]at he
 |cons q l ih =>
  intro ks qs x y' bl ss' h1 hb hC hq hu hqq k e he
  cases q with
  |s T =>
   obtain⟨b,bl',τ,ts',rfl,e1,e2,e3,e5⟩:=hC
   cases ks with
   |nil=>cases e1
   |cons k0 ks =>
    simp only[List.map_cons,List.cons.injEq]at e1;obtain⟨rfl,rfl⟩:=e1;simp only[vP]at he;obtain⟨g1,g2,g3⟩:=ih (y':=y') (fun k hk=>h1 k (by simp[hk])) hb.2 e5 hq hu hqq k e he
    exact⟨g1,g2,g3.imp (fun h=>⟨by simp[h.1],h.2⟩) id⟩
  |r t T =>
   obtain⟨b,bl',τ,ts',cs,rfl,e1,e2,e3,e4,e5⟩:=hC
   cases ks with
   |nil=>cases e1
   |cons k0 ks =>
    simp only[List.map_cons,List.cons.injEq]at e1;obtain⟨rfl,rfl⟩:=e1;simp only[vP]at he;obtain⟨g1,g2,g3⟩:=ih (y':=y') (fun k hk=>h1 k (by simp[hk])) hb.2 e5 hq hu hqq k e he
    exact⟨g1,g2,g3.imp (fun h=>⟨by simp[h.1],h.2⟩) id⟩
  |p t T =>
   obtain⟨b,bl',τ,ts',cs,rfl,e1,e2,e3,e4,e5⟩:=hC
   cases ks with
   |nil=>cases e1
   |cons k0 ks =>
    simp only[List.map_cons,List.cons.injEq]at e1;obtain⟨rfl,rfl⟩:=e1;obtain⟨st,nw,c,T0,hk⟩:=h1 k0 (by simp)
    have hnw:rO M k0=nw:=by unfold rO;rw[hk]
    have gF:=cK k0 _ hk;simp only[vP]at he;rcases zLV.1 he with he|he
    ·cases he
     obtain⟨b',cs',f1,f2,f3,f4⟩:=hM k _ hk;have:=hb.1
     rw[f1]at this;simp only[Value.pointer.injEq,zLo,Addr.mk.injEq,and_true]at this;subst this;refine⟨rfl,⟨b',cs,by rw[hU k gF];exact f1,⟨e2,?_,by rw[hι k gF];exact e3⟩,?_,rfl⟩,.inl ⟨by simp,gF⟩⟩
     ·rw[hnw,Cx.KL hA hF];exact f2.ge
     ·show (t.gr X'.P).rel X'.O w' cs.toList y'.1
      rw[hP];exact e4
    ·obtain⟨g1,g2,g3⟩:=ih (y':=y'.2) (fun k hk=>h1 k (by simp[hk])) hb.2 e5 hq hu hqq k e he
     exact⟨g1,g2,g3.imp (fun h=>⟨by simp[h.1],h.2⟩) id⟩
  |o t T1 T =>
   obtain⟨b,bl',τ,ts',σ,σs',u,vs',rfl,e1,e2,rfl,e3,e4,e5,e6,e7⟩:=hC
   cases ks with
   |nil=>cases e1
   |cons k0 ks =>
   cases qs with
   |nil=>cases e2
   |cons q0 qs =>
    simp only[List.map_cons,List.cons.injEq]at e1 e2;obtain⟨rfl,rfl⟩:=e1;obtain⟨rfl,rfl⟩:=e2;have mJ:qs=[]:=by cases qs with|nil=>rfl|cons _ _=>simp at hq
    subst mJ;obtain⟨st,nw,c,T0,hk⟩:=h1 k0 (by simp)
    have hnw:rO M k0=nw:=by unfold rO;rw[hk]
    have gF:=cK k0 _ hk;have hUn:=hu u rfl
    obtain⟨xI,hGB⟩:=hqq q0 rfl;obtain⟨b',cs',f1,f2,f3,f4⟩:=hM k0 _ hk;have lB:=hb.1
    rw[f1]at lB;simp only[Value.pointer.injEq,zLo,Addr.mk.injEq,and_true]at lB;subst lB;have hbx:(MV.bx (rO M k0) (.ob n) T).holds X' w' k0:=by
     refine⟨b',#[u],by rw[hU k0 gF];exact f1,⟨e4,?_,by rw[hι k0 gF];exact e5⟩,⟨u,rfl,e3,hUn.symm,by rw[hn];exact zLd n,e3⟩,rfl⟩
     rw[hnw,Cx.KL hA hF];exact f2.ge
    have hsl:∀nw',nw'=nwQ M q0->(MV.sl nw' t T1 y'.1).holds X' w' n:=by
     intro nw' hnw';obtain⟨vs,k1,k2,k3⟩:=e6;show zo _ _ _ _ _ _ _ _
     rw[hUn,xI,hP,Cx.KL hA hF,hnw'];exact⟨vs,k1,k2,fun g hg=>⟨(k3 g hg).1,hGB g (k3 g hg).2⟩⟩
    have xR:∀e',(k,e')∈vP M n l ks [] y'.2->e'.1=n/\e'.2.holds X' w' k/\((k∈k0::ks/\k<n)\/(k=n/\q0::[]≠[])\/(some k∈[q0]/\e'.2=.dead)):=fun e' he'=>by
     have sV:vs'=[]:=by
      have:∀ {l:List CQ} {x:CR l} {y:CB l} {bl ts:List Nat} {vs:List Value},Cnt X.P f (all.map X.U) X'.O w' G l x y bl ts [] vs->vs=[]:=by
       intro l
       induction l with
       |nil=>intro x y bl ts vs h;exact h.2.2.2
       |cons q l ih2 =>
        intro x y bl ts vs h
        cases q with
        |s T=>obtain⟨_,_,_,_,_,_,_,_,h⟩:=h;exact ih2 (y:=y) h
        |r t T=>obtain⟨_,_,_,_,_,_,_,_,_,_,h⟩:=h;exact ih2 (y:=y) h
        |p t T=>obtain⟨_,_,_,_,_,_,_,_,_,_,h⟩:=h;exact ih2 (y:=y.2) h
        |o t T' T=>obtain⟨_,_,_,_,_,_,_,_,_,_,h,_⟩:=h;cases h
      exact this e7
     subst sV;obtain⟨g1,g2,g3⟩:=ih (y':=y'.2) (fun k hk=>h1 k (by simp[hk])) hb.2 e7 (by simp) (fun u hu=>by simp at hu) (fun q hq=>by simp at hq) k e' he'
     refine⟨g1,g2,?_⟩;rcases g3 with g3|g3|g3
     ·exact .inl ⟨by simp[g3.1],g3.2⟩
     ·exact zLh rfl g3.2
     ·exact zLh g3.1 (by simp)
    cases q0 with
    |some j =>
     simp only[vP]at he;rcases zLV.1 he with he|he
     ·cases he;exact⟨rfl,hbx,.inl ⟨by simp,gF⟩⟩
     rcases zLV.1 he with he|he
     ·cases he;exact⟨rfl,hsl _ rfl,.inr (.inl ⟨rfl,by simp⟩)⟩
     rcases zLV.1 he with he|he
     ·cases he;exact⟨rfl,trivial,.inr (.inr ⟨by simp,rfl⟩)⟩
     ·exact xR e he
    |none =>
     simp only[vP]at he;rcases zLV.1 he with he|he
     ·cases he;exact⟨rfl,hbx,.inl ⟨by simp,gF⟩⟩
     rcases zLV.1 he with he|he
     ·cases he;exact⟨rfl,hsl _ rfl,.inr (.inl ⟨rfl,by simp⟩)⟩
     ·exact xR e he
theorem QS{f:FuncId}{all:List Nat}{X X':Cx}{w w':World}{G:FE}{M:MS}(hM:yD M X w)(hP:X'.P=X.P)(hA:X'.A=X.A)(hF:X'.F=X.F){n:Nat}(hU:∀k,k<n->X'.U k=X.U k)(hι:∀k,k<n->X'.ι k=X.ι k)(hn:n<=X'.n)(cK:∀k e,look M k=some e->k<n)(fF:∀k∈all,k<n/\∃b,X.U k=.pointer (some ⟨b,0,none⟩)){Gq:Nat->Prop} :
  ∀ {l:List CQ} {ks:List Nat} {qs:List (Option Nat)} {x:CR l} {y y':CB l} {bl:List Nat} {ts σs:List Nat} {ss':List Value},gA G f all M l ks=some (x,y,qs)->BKs X ks bl ->
  Cnt X.P f (all.map X.U) X'.O w' Gq l x y' bl ts σs ss'->ts=ks.map X.ι->∀k∈stK l ks,∀e,look M k=some e->e.2.holds X' w' k:=by
 intro l
 induction l with
 |nil=>intro ks qs x y y' bl ts σs ss' _ _ _ _ k hk;simp[stK]at hk
 |cons q l ih =>
  intro ks qs x y y' bl ts σs ss' hi hb hC bJ k hk e he
  cases ks with
  |nil=>cases q<;>simp[stK]at hk
  |cons k0 ks =>
  cases q with
  |p t T =>
   obtain⟨b,bl',τ,ts',cs,rfl,rfl,e2,e3,e4,e5⟩:=hC;simp only[gA]at hi;split at hi
   ·split at hi
    ·rename_i x0 p hT hc hp
     cases hi
     simp only[List.map_cons,List.cons.injEq]at bJ;exact ih (y:=p.2.1) (qs:=p.2.2) hp hb.2 e5 bJ.2 k hk e he
    ·cases hi
   ·cases hi
  |o t T' T =>
   obtain⟨b,bl',τ,ts',σ,σs',u,vs',rfl,rfl,rfl,rfl,e3,e4,e5,e6,e7⟩:=hC;simp only[List.map_cons,List.cons.injEq]at bJ;simp only[gA]at hi;split at hi
   ·split at hi
    ·split at hi
     ·rename_i xs p hT1 hx hp
      cases hi
      exact ih (y:=p.2.1) (qs:=p.2.2) hp hb.2 e7 bJ.2 k hk e he
     ·cases hi
    ·split at hi
     ·rename_i p hn hp
      cases hi
      exact ih (y:=p.2.1) (qs:=p.2.2) hp hb.2 e7 bJ.2 k hk e he
     ·cases hi
    ·cases hi
   ·cases hi
  |s T =>
   obtain⟨b,bl',τ,ts',rfl,rfl,e2,e3,e5⟩:=hC;simp only[List.map_cons,List.cons.injEq]at bJ;simp only[gA]at hi;split at hi
   ·rename_i st nw c T1 sN
    split at hi
    ·rename_i p hT hc hp
     cases hi
     simp only[stK]at hk;rcases zLV.1 hk with rfl|hk
     ·rw[sN]at he
      cases he
      have gF:=cK k _ sN;obtain⟨b',cs',f1,f2,f3,f4⟩:=hM k _ sN;have:=hb.1
      rw[f1]at this;simp only[Value.pointer.injEq,zLo,Addr.mk.injEq,and_true]at this;subst this;have xP:T=T1:=zLQ hT
      subst xP;have hc:=BB hc
      subst hc;have hU':all.map X.U=all.map X'.U:=List.map_congr_left fun j hj=>(hU j (fF j hj).1).symm
      have sX:((qv all).sem X' w').l (all.map X.U):=by
       rw[hU'];exact qX fun j hj=>⟨zLe (fF j hj).1 hn,by rw[hU j (fF j hj).1];exact(fF j hj).2⟩
      refine⟨b',_,by rw[hU k gF];exact f1,⟨e2,?_,by rw[hι k gF,e3];exact bJ.1⟩,⟨_,rfl,rfl,[],_,rfl,sX,rfl⟩,f4⟩
      rw[Cx.KL hA hF];exact f2.ge
     ·exact ih (y:=p.2.1) (qs:=p.2.2) hp hb.2 e5 bJ.2 k hk e he
    ·cases hi
   ·cases hi
  |r t T =>
   obtain⟨b,bl',τ,ts',cs,rfl,rfl,e2,e3,e4,e5⟩:=hC;simp only[List.map_cons,List.cons.injEq]at bJ;simp only[gA]at hi;split at hi
   ·rename_i st nw t1 x1 T1 sN
    split at hi
    ·rename_i x0 p hT hc hp
     cases hi
     simp only[stK]at hk;rcases zLV.1 hk with rfl|hk
     ·rw[sN]at he
      cases he
      have gF:=cK k _ sN;obtain⟨b',cs',f1,f2,f3,f4⟩:=hM k _ sN;have:=hb.1
      rw[f1]at this;simp only[Value.pointer.injEq,zLo,Addr.mk.injEq,and_true]at this;subst this;have xP:T=T1:=zLQ hT
      subst xP;refine⟨b',cs,by rw[hU k gF];exact f1,⟨e2,?_,by rw[hι k gF,e3];exact bJ.1⟩,?_,f4⟩
      ·rw[Cx.KL hA hF];exact f2.ge
      ·show (t1.gr X'.P).rel X'.O w' cs.toList x1
       obtain⟨h1,h2⟩:=Ty.jL hc;subst h1;rw[hP];have h2:x1=x0:=h2
       rw[h2];exact e4
     ·exact ih (y:=p.2.1) (qs:=p.2.2) hp hb.2 e5 bJ.2 k hk e he
    ·cases hi
   ·cases hi
abbrev WK(X:Cx)(bl:List Nat)(qs:List (Option Nat)):Nat->Prop:=fun b=>b∈bl\/lP X qs b
section
variable {F:Frm} {s:S} {a:Act} {w:World} {X:Cx}
theorem RelX.inW(h:RelX F s a w X){ks bl:List Nat}{qs:List (Option Nat)}(h1:∀k∈ks,∃st nw c T,look s.M k=some (st,.bx nw c T))(h2:∀j,some j∈qs->∃st nw t T xs,look s.M j=some (st,.sl nw t T xs))(hb:BKs X ks bl){b:Nat}(hW:WK X bl qs b) :
  F.A b/\b<w.heap.size/\∃k e,(k∈ks\/some k∈qs)/\look s.M k=some e/\e.2.own=true/\X.O b=X.ι k:=by
 rcases hW with hW|⟨j,hj,hg⟩
 ·obtain⟨k,hk,hU⟩:=hb.mem b hW
  obtain⟨st,nw,c,T,hl⟩:=h1 k hk;obtain⟨b',cs,e1,e2,_⟩:=h.m k _ hl;rw[hU]at e1;simp only[Value.pointer.injEq,zLo,Addr.mk.injEq,and_true]at e1;subst e1;exact⟨(h.okB nw).sub _ e2.ge,e2.own.lt,k,_,.inl hk,hl,rfl,e2.tag⟩
 ·obtain⟨st,nw,t,T,xs,hl⟩:=h2 j hj
  have hO:=h.m j _ hl
  change zo (X.ι j) (t.gr X.P) T (X.B nw) X.O w (X.U j) xs at hO
  exact⟨(h.okB nw).sub _ (hO.ge b hg).1,(hO.ge b hg).2,j,_,.inr hj,hl,rfl,hO.tagged b hg⟩
theorem RelX.zBM(h:RelX F s a w X){W:Nat->Prop}(hW:∀b,W b->F.A b){O':zR}{w':World}(hK:KeepK W X.O w O' w'):Base F.A F.O0 F.w0 O' w':=by
 have hB:=h.base;refine⟨hK.os.trans hB.os,hK.tape.trans hB.tape,hK.output.trans hB.output,zLY hB.size hK.size,fun b hb hA=>?_,hK.ok,fun b hb hA=>?_,fun b hb h0=>?_,hB.new⟩
 ·rw[hK.block b (zLe hb hB.size) fun hw=>hA (hW b hw)];exact hB.block b hb hA
 ·rw[hK.tag b (zLe hb hB.size) fun hw=>hA (hW b hw)];exact hB.old b hb hA
 ·by_cases gF:b<w.heap.size
  ·by_cases hw:W b
   ·exact zLh h0 (hK.nz b gF hw)
   ·rw[hK.tag b gF hw]at h0;exact hB.zero b gF h0
  ·exact h.ok0 b (by have:=hB.size;omega)
theorem Kj{k:Nat}:∀ {l:List CQ} {ks:List Nat},k∈stK l ks->k∈ks
 | [],ks,h=>by simp[stK]at h
 |.r _ _::l,[],h=>by simp[stK]at h
 |.s _::l,[],h=>by simp[stK]at h
 |.p _ _::l,[],h=>by simp[stK]at h
 |.o _ _ _::l,[],h=>by simp[stK]at h
 |.r _ _::l,j::ks,h=>by
  rcases zLV.1 h with rfl|h
  ·simp
  ·simp[Kj h]
 |.s _::l,j::ks,h=>by
  rcases zLV.1 h with rfl|h
  ·simp
  ·simp[Kj h]
 |.p _ _::l,j::ks,h=>by simp[Kj (l:=l) h]
 |.o _ _ _::l,j::ks,h=>by simp[Kj (l:=l) h]
theorem RelX.zKr{f:FuncId}{all:List Nat}(h:RelX F s a w X){G:FE}(hG:FOk X.P G){l:List CQ}{ks:List Nat}{x:CR l}{y:CB l}{qs:List (Option Nat)}(hi:gA G f all s.M l ks=some (x,y,qs))(hq:qs.length<=1){fr:Nat}(fY:(fr≠0/\fr≠F.x.st)/\∀k e,look s.M k=some e->X.ι k≠fr)
  {bl:List Nat} (fF:∀k∈all,k<s.n/\∃b,X.U k=.pointer (some ⟨b,0,none⟩)) (hb:BKs X ks bl) {O':zR} {w':World} (hK:KeepK (WK X bl qs) X.O w O' w') {y':CB l} {ss':List Value} (hC:Cnt X.P f (all.map X.U) O' w' (fun g=>w.heap.size<=g\/lP X qs g) l x y' bl (ks.map X.ι) (qs.map (tgQ X fr)) ss') :
  ∃X',RelX F { L:=s.L,M:=vP s.M s.n l ks qs y'++s.M,n:=s.n+1,ep:=s.n } a w' X':=by
 obtain⟨h1,h2,_⟩:=KZ hG h.m (fr:=fr) hi;have hWW:=fun {b} hw=>h.inW h1 h2 hb (b:=b) hw
 have sH:∀t,(∀k e,(k∈ks\/some k∈qs)->look s.M k=some e->e.2.own=true->X.ι k≠t)->zb t X.O w O' w':=fun t ht=>⟨hK.size,fun b hb aB=>by
  have hn:¬WK X bl qs b:=fun hw=>by
   obtain⟨_,_,k,e,g1,g2,g3,g4⟩:=hWW hw;exact ht k e g1 g2 g3 (g4.symm.trans aB)
  exact⟨(hK.tag b hb hn).trans aB,hK.block b hb hn⟩⟩
 let X':Cx:={ X with O:=O',U:=fun k=>if k=s.n then ss'.headD .nilIface else X.U k,ι:=fun k=>if k=s.n then (qs.map (tgQ X fr)).headD 0 else X.ι k,n:=s.n+1,ep:=s.n }
 have hUk:∀k,k<s.n->X'.U k=X.U k:=fun k hk=>zLs (by omega)
 have iF:∀k,k<s.n->X'.ι k=X.ι k:=fun k hk=>zLs (by omega)
 have tP:=MQ (X:=X) (X':=X') (w:=w) (w':=w') (n:=s.n) (fr:=fr) h.m rfl rfl rfl hUk iF rfl (fun k e he=>(h.mn k e he).2) (ks:=ks) (qs:=qs) (y':=y') h1 hb hC hq (fun u hu=>by
   show (if s.n=s.n then ss'.headD .nilIface else _)=u
   rw[zLr rfl]
   cases ss' with
   |nil=>cases hu
   |cons v ss'=>simpa using hu) (fun q hqh=>by
   cases qs with
   |nil=>cases hqh
   |cons q0 qs =>
    simp only[List.head?_cons,zLo]at hqh;subst hqh;have mJ:qs=[]:=by cases qs with|nil=>rfl|cons _ _=>simp at hq
    subst mJ;refine⟨zLr rfl,fun g hg=>?_⟩
    rcases hg with hg|⟨j,hj,hg⟩
    ·exact(h.okB _).new g (zLY h.base.size hg)
    ·have hj:q0=some j:=(List.mem_singleton.1 hj).symm
     subst hj;obtain⟨st,nw,t,T,xs,hl⟩:=h2 j (by simp)
     have hO:=h.m j _ hl
     change zo (X.ι j) (t.gr X.P) T (X.B nw) X.O w (X.U j) xs at hO
     have:nwQ s.M (some j)=nw:=by simp only[nwQ,rO];rw[hl]
     rw[this];exact(hO.ge g hg).1)
 have hcov:=fun k hk=>Dt (n:=s.n) hi y' k hk
 have hA7:=fun {k} hk {e} he=>QS (X:=X) (X':=X') (w:=w) (w':=w') (n:=s.n) (Gq:=fun g=>w.heap.size<=g\/lP X qs g) h.m rfl rfl rfl hUk iF (zLc _) (fun k e he=>(h.mn k e he).2) fF hi hb hC rfl k hk e he
 have hstm:∀ {k},k∈stK l ks->k∈ks:=fun {k} hk=>Kj hk
 have xI:qs≠[]->(X'.ι s.n=fr\/∃j,some j∈qs/\X'.ι s.n=X.ι j):=fun fC=>by
  cases qs with
  |nil=>exact zLh rfl fC
  |cons q0 qs =>
   cases q0 with
   |none=>exact .inl (zLr rfl)
   |some j=>exact .inr ⟨j,by simp,zLr rfl⟩
 refine⟨X',h.go h.fit rfl rfl rfl (fun j hj=>sH j fun k e _ g2 g3 fH=>?_) hUk rfl rfl (zLc _) (zLc _) ?_ (fun hf=>zLh (hf:s.n<=F.fe) (Nat.not_le.2 h.fe)) (fun _ _ _=>rfl) (fun t e he=>.inr ⟨he,rfl,fun fY hf=>?_⟩) (fun k' e he=>?_) (fun j k' e e' he he' ho ho' fH=>?_) (fun k' e he ho=>?_)⟩
 ·have:=h.pos k e g2 g3
  rcases hj with rfl|rfl
  ·exact this.1 fH
  ·exact this.2 fH
 ·exact h.zBM (fun b hw=>(hWW hw).1) hK
 ·have:=h.ln t e he
  simp only[fresh,fY,Bool.not_true,Bool.false_or]at hf;rw[je]at hf;have hf':s.n<=e.1:=of_decide_eq_true hf
  omega
 ·rcases vw he with g1|⟨g1,g2⟩
  ·obtain⟨a1,a2,a3⟩:=tP k' e (kz g1)
   refine .inl ⟨by rw[a1];exact zLd _,?_,a2⟩
   rcases a3 with a3|a3|a3
   ·show k'<s.n+1;omega
   ·show k'<s.n+1;omega
   ·obtain⟨_,_,_,_,_,hl⟩:=h2 k' a3.1
    exact Nat.lt_succ_of_lt (h.mn k' _ hl).2
  ·have gF:=(h.mn k' e g2).2
   by_cases f9:k'∈stK l ks
   ·exact .inl ⟨Nat.lt_succ_of_lt (h.mn k' e g2).1,Nat.lt_succ_of_lt gF,hA7 f9 g2⟩
   refine .inr ⟨g2,iF k' gF,fun ho=>sH _ fun k e' g3 g4 g5 fH=>?_⟩
   have:=h.inj k k' e' e g4 g2 g5 ho fH;subst this;exact(hcov k g3).elim (fun h=>h g1) f9
 ·-- whose they were
  have key:∀ {k e},look (vP s.M s.n l ks qs y'++s.M) k=some e->e.2.own=true->(k<s.n/\(∃e0,look s.M k=some e0/\e0.2.own=true)/\∀j,some j∈qs->k≠j)\/(k=s.n/\qs≠[]):=fun {k e} he ho=>by
   have aS:∀ {k e0},look s.M k=some e0->(k∈ks\/look (vP s.M s.n l ks qs y') k=none)->∀j,some j∈qs->k≠j:=fun {k e0} hk dR j hj ekj=>by
    subst ekj;have bV:k∈ks->False:=fun dR=>by
     obtain⟨_,_,_,_,q1⟩:=h1 k dR;obtain⟨_,_,_,_,_,q2⟩:=h2 k hj;rw[q1]at q2;cases q2
    rcases dR with dR|dR
    ·exact bV dR
    ·exact(hcov k (.inr hj)).elim (fun h=>h dR) fun h=>bV (hstm h)
   rcases vw he with g1|⟨g1,g2⟩
   ·obtain⟨a1,a2,a3⟩:=tP k e (kz g1)
    rcases a3 with a3|a3|a3
    ·obtain⟨st,nw,c,T,hk⟩:=h1 k a3.1
     exact .inl ⟨a3.2,⟨_,hk,rfl⟩,aS hk (.inl a3.1)⟩
    ·exact .inr a3
    ·rw[a3.2]at ho;cases ho
   ·exact .inl ⟨(h.mn k e g2).2,⟨e,g2,ho⟩,aS g2 (.inr g1)⟩
  have gW:∀ {k:Nat},(k<s.n/\(∃e0,look s.M k=some e0/\e0.2.own=true)/\∀j,some j∈qs->k≠j)->qs≠[]->X'.ι k=X'.ι s.n->False:=fun {k} hk fC fH=>by
   obtain⟨gF,⟨e0,q1,q2⟩,q3⟩:=hk;rw[iF k gF]at fH;rcases xI fC with q4|⟨j,q4,q5⟩
   ·exact fY.2 k e0 q1 (fH.trans q4)
   ·obtain⟨st,nw,t,T,xs,hl⟩:=h2 j q4
    exact q3 j q4 (h.inj k j e0 _ q1 hl q2 rfl (fH.trans q5))
  rcases key he ho with g1|g1<;>rcases key he' ho' with g2|g2
  ·obtain⟨dY,⟨e1,a1,a2⟩,_⟩:=g1
   obtain⟨cJ,⟨e2,b1,b2⟩,_⟩:=g2;rw[iF j dY,iF k' cJ]at fH;exact h.inj j k' e1 e2 a1 b1 a2 b2 fH
  ·rw[g2.1]at fH;exact(gW g1 g2.2 fH).elim
  ·rw[g1.1]at fH;exact(gW g2 g1.2 fH.symm).elim
  ·rw[g1.1,g2.1]
 ·rcases vw he with g1|⟨g1,g2⟩
  ·obtain⟨a1,a2,a3⟩:=tP k' e (kz g1)
   rcases a3 with a3|a3|a3
   ·obtain⟨st,nw,c,T,hk⟩:=h1 k' a3.1
    rw[iF k' a3.2];exact h.pos k' _ hk rfl
   ·rw[a3.1]
    rcases xI a3.2 with q4|⟨j,q4,q5⟩
    ·rw[q4];exact fY.1
    ·obtain⟨st,nw,t,T,xs,hl⟩:=h2 j q4
     rw[q5];exact h.pos j _ hl rfl
   ·rw[a3.2]at ho;cases ho
  ·rw[iF k' (h.mn k' e g2).2];exact h.pos k' e g2 ho
def uI(n:Nat):List Nat->MS
 | []=>[]
 |k::l=>(k,n,.dead)::uI n l
theorem Ya{n k:Nat}{e:Nat×MV}:∀ {l:List Nat},look (uI n l) k=some e->e=(n,.dead)/\k∈l
 | [],h=>nomatch h
 |j::l,h=>by
  rcases zD h with ⟨h1,h2⟩|⟨_,h2⟩
  ·subst h1 h2;exact⟨rfl,by simp⟩
  ·obtain⟨g1,g2⟩:=Ya h2;exact⟨g1,by simp[g2]⟩
theorem tf{n k:Nat}:∀ {l:List Nat},look (uI n l) k=none->k ∉ l
 | [],_=>by simp
 |j::l,h=>by
  simp only[uI,look]at h
  cases hb:Nat.beq j k with
  |true=>rw[hb]at h;cases h
  |false =>
   rw[hb]at h;rw[zU]at hb;simp only[zLV,not_or];exact⟨fun e=>by simp[e]at hb,tf h⟩
theorem RelX.zGv{f:FuncId}{all:List Nat}(h:RelX F s a w X){G:FE}(hG:FOk X.P G){l:List CQ}{ks:List Nat}{x:CR l}{y:CB l}{qs:List (Option Nat)}(hi:gA G f all s.M l ks=some (x,y,qs))
  {bl:List Nat} (hb:BKs X ks bl) {O':zR} {w':World} (hK:KeepK (WK X bl qs) X.O w O' w') :
  ∃X',RelX F { L:=s.L,M:=uI s.n (ks++yM qs)++s.M,n:=s.n+1,ep:=s.n } a w' X'/\X'.O=O'/\X'.P=X.P:=by
 obtain⟨h1,h2,_⟩:=KZ hG h.m (fr:=0) hi;have hWW:=fun {b} hw=>h.inW h1 h2 hb (b:=b) hw
 have sH:∀t,(∀k e,(k∈ks\/some k∈qs)->look s.M k=some e->e.2.own=true->X.ι k≠t)->zb t X.O w O' w':=fun t ht=>⟨hK.size,fun b hb aB=>by
  have hn:¬WK X bl qs b:=fun hw=>by
   obtain⟨_,_,k,e,g1,g2,g3,g4⟩:=hWW hw;exact ht k e g1 g2 g3 (g4.symm.trans aB)
  exact⟨(hK.tag b hb hn).trans aB,hK.block b hb hn⟩⟩
 have sK:∀ {k},(k∈ks\/some k∈qs)↔k∈ks++yM qs:=fun {k}=>by rw[zLa,YS]
 let X':Cx:={ X with O:=O',n:=s.n+1,ep:=s.n }
 refine⟨X',h.go h.fit rfl rfl rfl (fun j hj=>sH j fun k e _ g2 g3 fH=>?_) (fun _ _=>rfl) rfl rfl (zLc _) (zLc _) (h.zBM (fun b hw=>(hWW hw).1) hK) (fun hf=>zLh (hf:s.n<=F.fe) (Nat.not_le.2 h.fe)) (fun _ _ _=>rfl) (fun t e he=>.inr ⟨he,rfl,fun fY hf=>?_⟩) (fun k' e he=>?_) (fun j k' e e' he he' ho ho' fH=>?_) (fun k' e he ho=>?_),rfl,rfl⟩
 ·have:=h.pos k e g2 g3
  rcases hj with rfl|rfl
  ·exact this.1 fH
  ·exact this.2 fH
 ·have:=h.ln t e he
  simp only[fresh,fY,Bool.not_true,Bool.false_or]at hf;rw[je]at hf;have hf':s.n<=e.1:=of_decide_eq_true hf
  omega
 ·rcases vw he with g1|⟨g1,g2⟩
  ·obtain⟨rfl,g3⟩:=Ya g1
   refine .inl ⟨zLd _,?_,trivial⟩;rcases sK.2 g3 with g4|g4
   ·obtain⟨_,_,_,_,g5⟩:=h1 k' g4;exact Nat.lt_succ_of_lt (h.mn k' _ g5).2
   ·obtain⟨_,_,_,_,_,g5⟩:=h2 k' g4;exact Nat.lt_succ_of_lt (h.mn k' _ g5).2
  ·refine .inr ⟨g2,rfl,fun ho=>sH _ fun k e' g3 g4 g5 fH=>?_⟩
   have:=h.inj k k' e' e g4 g2 g5 ho fH;subst this;exact tf g1 (sK.1 g3)
 ·have key:∀ {k e},look (uI s.n (ks++yM qs)++s.M) k=some e->e.2.own=true->look s.M k=some e:=fun {k e} he ho=>by
   rcases vw he with g1|⟨_,g2⟩
   ·rw[(Ya g1).1]at ho;cases ho
   ·exact g2
  exact h.inj j k' e e' (key he ho) (key he' ho') ho ho' fH
 ·rcases vw he with g1|⟨_,g2⟩
  ·rw[(Ya g1).1]at ho;cases ho
  ·exact h.pos k' e g2 ho
end
def PL:Nat:=1000000007
theorem Af{ι:Nat->Nat}{fr:Nat}{M:MS}(cZ:∀k k' e e',look M k=some e->look M k'=some e'->e.2.own=true->e'.2.own=true->ι k=ι k'->k=k')(fY:∀k e,look M k=some e->ι k≠fr){ks:List Nat}{qs:List (Option Nat)}(hn:(ks++yM qs).Nodup)(hq:qs.length<=1)
  (h1:∀k∈ks,∃e,look M k=some e/\e.2.own=true) (h2:∀j,some j∈qs->∃e,look M j=some e/\e.2.own=true) {X:Cx} (hX:X.ι=ι):(ks.map ι++qs.map (tgQ X fr)).Nodup:=by
 have fF:∀k∈ks++yM qs,∃e,look M k=some e/\e.2.own=true:=fun k hk=>by
  rcases zLa.1 hk with hk|hk
  ·exact h1 k hk
  ·exact h2 k (YS.1 hk)
 have xB:∀ {l:List Nat},(∀k∈l,∃e,look M k=some e/\e.2.own=true)->l.Nodup->(l.map ι).Nodup:=by
  intro l
  induction l with
  |nil=>intro _ _;exact List.nodup_nil
  |cons k l ih =>
   intro hl hn;obtain⟨g1,g2⟩:=List.nodup_cons.1 hn;refine List.nodup_cons.2 ⟨fun hm=>?_,ih (fun j hj=>hl j (by simp[hj])) g2⟩
   obtain⟨j,hj,hjk⟩:=List.mem_map.1 hm;obtain⟨e,a1,a2⟩:=hl k (by simp)
   obtain⟨e',b1,b2⟩:=hl j (by simp[hj])
   exact g1 ((cZ j k e' e b1 a1 b2 a2 hjk) ▸ hj)
 cases qs with
 |nil=>simpa[yM] using xB (fun k hk=>fF k (by simp[hk])) (by simpa[yM] using hn)
 |cons q qs =>
  have mJ:qs=[]:=by cases qs with|nil=>rfl|cons _ _=>simp at hq
  subst mJ
  cases q with
  |some j =>
   have:=xB fF hn;simpa[yM,tgQ,hX] using this
  |none =>
   have bV:=xB (l:=ks) (fun k hk=>fF k (by simp[hk])) (by simpa[yM] using hn)
   refine List.nodup_append.2 ⟨bV,List.nodup_cons.2 ⟨by simp,List.nodup_nil⟩,?_⟩
   intro x hx y hy;simp only[List.map_cons,List.map_nil,tgQ,List.mem_singleton]at hy;subst hy;obtain⟨k,hk,rfl⟩:=List.mem_map.1 hx;obtain⟨e,a1,_⟩:=h1 k hk;exact fY k e a1
section
variable {F:Frm} {s:S} {a:Act} {w:World} {X:Cx} {E:VE}
variable {d:Option Tmp} {T Y:TypeId} {pos:String} {aft:Array Edge} {g:Option (Nat×Bool)} {k pn:S->Comp β}
theorem Ub{f:FuncId}{x:Operand}{xs:Array Operand}{ts:Array TypeId}{fst cap:Array Value}{R:Ending->World->Prop}{K:Act->World->Prop}{Q:Exit->Act->World->Prop}{P:Program}(hf:FnOk P f)(hu:a.eval x=.func (.func f) fst cap)(h:Calls P f (fst++xs.map a.eval++cap) w R)
  (hK:∀e w',R e w'->(∃v,e=.returned v/\K (a.put d v) w')\/∃ch,e=.panicked ch/\Q (.panic ch) a w'):Oper.wp P ⟨d,.call ⟨.value x,xs,ts⟩,T,pos,aft,g⟩ a w K Q:=by
 obtain⟨fn,h1,h2,h3⟩:=hf.h;have hr:(execOp a.eval ⟨d,.call ⟨.value x,xs,ts⟩,T,pos,aft,g⟩).run P w=.ok (.enter f (fst++xs.map a.eval++cap)) w:=by
  simp only[execOp,resolve,hu,Deferred.ofValue,Sem.run_bind,Sem.run_pure,Result.andThen,invoke,callFunc,run_program,h1];simp[h2,h3]
 unfold Oper.wp;rw[hr];refine Calls.mono h fun e w' he=>?_
 rcases hK e w' he with ⟨v,rfl,hv⟩|⟨ch,rfl,hv⟩
 ·exact hv
 ·exact hv
def mC(E:VE)(s:S)(d:Option Tmp)(φ:Option AV)(l:Option (List AV))(k pn:S->Comp β):Comp β:=match φ,l with
 |some (.cl f ca cb),some l=>match E.K f with
  |none=>Comp.fail
  |some fs=>match W5 ca && Nat.beq fs.zT E.Z,nQ cb,Xf (l.map (fun φ=>φ.asT E.G s.M)) fs.ps with
   |true,some ks,some x=>match gA E.G f ks s.M fs.cs ks with
    |some p=>match qj (ks++yM p.2.2) && Nat.ble p.2.2.length 1 with
     |true=>(fs.sem x p.1 p.2.1).bind fun r=>match r with
      |.inl z=>pn (S.put { L:=s.L,M:=uI s.n (ks++yM p.2.2)++s.M,n:=s.n+1,ep:=s.n } (some 0) (.rd fs.zt z))
      |.inr y=>k (S.put { L:=s.L,M:=vP s.M s.n fs.cs ks p.2.2 y++s.M,n:=s.n+1,ep:=s.n } d .top)
     |false=>Comp.fail
    |none=>Comp.fail
   |_,_,_=>Comp.fail
 |_,_=>Comp.fail
theorem Inv.zHZ(s:S){M:MS}(hn:∀k e,look M k=some e->e.1=s.n):Inv s { L:=s.L,M:=M++s.M,n:=s.n+1,ep:=s.n } where
 le:=zLc _
 l:=fun t e he _=>he
 m:=fun k e he gF=>by
  rcases vw he with h1|⟨_,h2⟩
  ·rw[hn k e h1]at gF;exact zLh gF (Nat.lt_irrefl _)
  ·exact h2
theorem QT{M:MS}{n:Nat}:∀ {l:List CQ} {ks:List Nat} {qs:List (Option Nat)} {y:CB l} {k:Nat} {e:Nat×MV},(k,e)∈vP M n l ks qs y->e.1=n:=by
 intro l
 induction l with
 |nil=>intro ks qs y k e h;simp[vP]at h
 |cons q l ih =>
  intro ks qs y k e h
  cases q with
  |p t T =>
   cases ks with
   |nil=>simp[vP]at h
   |cons k0 ks =>
    simp only[vP]at h;rcases zLV.1 h with h|h
    ·cases h;rfl
    ·exact ih h
  |s T =>
   cases ks with
   |nil=>simp[vP]at h
   |cons k0 ks=>exact ih (y:=y) h
  |r t T =>
   cases ks with
   |nil=>simp[vP]at h
   |cons k0 ks=>exact ih (y:=y) h
  |o t T' T =>
   cases ks with
   |nil=>simp[vP]at h
   |cons k0 ks =>
    cases qs with
    |nil=>simp[vP]at h
    |cons q0 qs =>
     cases q0 with
     |some j =>
      simp only[vP]at h;rcases zLV.1 h with h|h
      ·cases h;rfl
      rcases zLV.1 h with h|h
      ·cases h;rfl
      rcases zLV.1 h with h|h
      ·cases h;rfl
      ·exact ih h
     |none =>
      simp only[vP]at h;rcases zLV.1 h with h|h
      ·cases h;rfl
      rcases zLV.1 h with h|h
      ·cases h;rfl
      ·exact ih h
theorem DI(hE:E.ok X.P)(h:RelX F s a w X)(hd:F.dst d)(h0:F.dst (some 0)){x:Operand}{xs:Array Operand}{ts:Array TypeId}{nf:Nat}{y:β}{K:Act->World->Prop}{Q:Exit->Act->World->Prop}(hr:(mC E s d (rdO s.ep s.L [] [] x) (jB (rdO s.ep s.L [] []) xs.toList) k pn).run nf=some y)
  (hK:∀s' v w',Rel F s' (a.put d v) w'->Inv s s'->(k s').run nf=some y->K (a.put d v) w')
  (hP:∀s' v w',Rel F s' (a.put (some 0) v) w'->Inv s s'->(pn s').run nf=some y->Q (.panic [{ v:=.iface E.Z v,recovered:=false }]) a w'):Oper.wp F.P ⟨d,.call ⟨.value x,xs,ts⟩,T,pos,aft,g⟩ a w K Q:=by
 rw[<-h.P];rw[<-h.ep]at hr;unfold mC at hr;split at hr
 ·rename_i f ca cb l hφ hl
  split at hr
  ·cases hr
  ·rename_i fs hs
   split at hr
   ·rename_i ks x0 hun hA8 cL
    rw[zLR]at hun;split at hr
    ·rename_i p hp
     split at hr
     ·rename_i sA
      rw[zLR]at sA;obtain⟨r,lC,hr⟩:=run_bind hr;have H:=h.rd (Op.operands (.call ⟨.value x,xs,ts⟩))
      have k1:=H x _ (by simp[Op.operands,Call.operands]) hφ
      obtain⟨vs,us,e1,e2,e3⟩:=k1;have eS:=mW hun.1
      subst eS;have sV:vs=[]:=e1
      subst sV;have hcb:=qN hA8
      subst hcb;obtain⟨eus,fF⟩:=AC e2;subst eus;have kA:=jT hl
      have fD:=Kc hE.G h.m (a:=a) hl fun z ψ hz hψ=>H z ψ (by have hz':z∈xs:=Array.mem_toList_iff.1 hz;simp[Op.operands,Call.operands,hz']) hψ
      have fU:fs.ps.args X.P X.O w (xs.toList.map a.eval) x0:=kO cL (by simp[kA]) fD
      obtain⟨fr,hf0,fY⟩:=ZD X.ι s.M F.x.st;obtain⟨i1,i2,bl,ss,i3,i4⟩:=KZ hE.G h.m (fr:=fr) hp;have bX:ks.map X.U=Ku bl:=by
       have:∀ {ks bl:List Nat},BKs X ks bl->ks.map X.U=Ku bl:=by
        intro ks
        induction ks with
        |nil=>intro bl hb;cases bl with|nil=>rfl|cons=>exact hb.elim
        |cons k ks ih =>
         intro bl hb
         cases bl with
         |nil=>exact hb.elim
         |cons b bl=>rw[List.map_cons,hb.1,ih hb.2];rfl
       exact this i3
      obtain⟨f1,f2⟩:=hE.K f fs hs;have nC:=Nat.le_of_ble_eq_true sA.2
      have o1:∀k∈ks,∃e,look s.M k=some e/\e.2.own=true:=fun k hk=>by obtain⟨_,_,_,_,q⟩:=i1 k hk;exact⟨_,q,rfl⟩
      have o2:∀j,some j∈p.2.2->∃e,look s.M j=some e/\e.2.own=true:=fun j hj=>by obtain⟨_,_,_,_,_,q⟩:=i2 j hj;exact⟨_,q,rfl⟩
      have nF:=Af (X:=X) h.inj fY (wF sA.1) nC o1 o2 rfl;have hA9:0 ∉ ks.map X.ι++p.2.2.map (tgQ X fr):=fun hm=>by
       rcases zLa.1 hm with hm|hm
       ·obtain⟨k,hk,e⟩:=List.mem_map.1 hm
        obtain⟨e',q1,q2⟩:=o1 k hk;exact(h.pos k e' q1 q2).1 e
       ·obtain⟨q,hq,e⟩:=List.mem_map.1 hm
        cases q with
        |none=>exact hf0.1 e
        |some j =>
         obtain⟨e',q1,q2⟩:=o2 j hq;exact(h.pos j e' q1 q2).1 e
      have hG:∀b,lP X p.2.2 b->b<w.heap.size/\X.O b∈p.2.2.map (tgQ X fr):=fun b hb=>by
       obtain⟨j,hj,hg⟩:=hb;obtain⟨st,nw,t,T',xs',hl'⟩:=i2 j hj;have hO:=h.m j _ hl'
       change zo (X.ι j) (t.gr X.P) T' (X.B nw) X.O w (X.U j) xs' at hO
       exact⟨(hO.ge b hg).2,List.mem_map.2 ⟨some j,hj,(hO.tagged b hg).symm⟩⟩
      have hCnt:=i4 (lP X p.2.2) fun g hg=>hg
      rw[bX]at hCnt;have hc:=f2 X.O w h.okO _ x0 p.1 p.2.1 bl (ks.map X.ι) (p.2.2.map (tgQ X fr)) ss (lP X p.2.2) fU hCnt nF hA9 hG (by simpa using nC) nf r lC
      have sE:(xs.toList.map a.eval++Ku bl).toArray=#[]++xs.map a.eval++(ks.map X.U).toArray:=by
       rw[bX,show xs.map a.eval=(xs.toList.map a.eval).toArray by rw[<-Array.toList_map]];simp
      rw[sE]at hc;refine Ub f1 e3 hc fun e w' he=>?_
      obtain⟨O',hKK,he⟩:=he;have hB1:Inv s { L:=s.L,M:=uI s.n (ks++yM p.2.2)++s.M,n:=s.n+1,ep:=s.n }:=Inv.zHZ s fun k e hk=>by rw[(Ya hk).1]
      cases r with
      |inl z =>
       obtain⟨v,e4,e5⟩:=he;refine .inr ⟨_,e4,?_⟩;obtain⟨X',hX',hO',hP'⟩:=h.zGv hE.G hp i3 hKK;have hv:=hX'.val (Ext.refl w') h0 (v:=v) (φ:=.rd fs.zt z) (by show (fs.zt.gr X'.P).v X'.O w' v z;rw[hP',hO'];exact e5)
       rw[zLQ hun.2];exact hP _ v w' ⟨_,hv⟩ (hB1.trans (Inv.put _ _ _)) hr
      |inr y' =>
       obtain⟨⟨v,rfl⟩,ss',hC'⟩:=he;refine .inl ⟨v,rfl,?_⟩;rw[<-bX]at hC';obtain⟨X',hX'⟩:=h.zKr (fr:=fr) hE.G hp nC ⟨hf0,fY⟩ (fun k hk=>by have:=fF k hk;rw[h.n]at this;exact this) i3 hKK hC'
       have hv:=hX'.val (Ext.refl w') hd (v:=v) (φ:=.top) trivial;exact hK _ v w' ⟨_,hv⟩ ((Inv.zHZ s fun k e hk=>QT (kz hk)).trans (Inv.put _ _ _)) hr
     ·cases hr
    ·cases hr
   ·cases hr
 ·cases hr
def zGl:TypeDesc->Bool
 |.interface _=>true
 |_=>false
def SV(E:VE)(s:S)(o p:Oper)(pn:S->Comp β):Comp β:=match o.op,p.op with
 |.makeInterface Y x,.panic z=>match o.dst,z,look E.T Y,rdO s.ep s.L [] [] x with
  |some d,.tmp d',some i,some φ=>match Nat.beq d d' && (Nat.beq Y E.Z && !zGl i.dd) with
   |true=>pn ((s.put (some d) .top).put (some 0) φ)
   |false=>Comp.fail
  |_,_,_,_=>Comp.fail
 |_,_=>Comp.fail
theorem wH{W:OpW}{ops:Array Oper}{q:Act->World->Prop}:∀(l m:List Oper),vp W ops q (l++m)=vp W ops (vp W ops q m) l
 | [],m=>rfl
 |o::l,m=>by funext a w;simp only[List.cons_append,vp,wH l m]
theorem NC(hE:E.ok X.P)(h:RelX F s a w X)(h0:F.dst (some 0)){o p:Oper}(hd:F.dst o.dst)(hg1:o.guard.isNone=true)(iG:p.guard.isNone=true){nf:Nat}{y:β}{Q:Exit->Act->World->Prop}{q:Act->World->Prop}{all:Array Oper}(hr:(SV E s o p pn).run nf=some y)
  (hP:∀s' a' v w',Rel F s' (a'.put (some 0) v) w'->Inv s s'->(pn s').run nf=some y->Q (.panic [{ v:=.iface E.Z v,recovered:=false }]) a' w'):vp (F.W Q) all q [o,p] a w:=by
 obtain⟨d,op,T1,pos1,aft1,g1⟩:=o;obtain⟨d2,op2,T2,pos2,aft2,g2⟩:=p;have hg1:g1=none:=by cases g1 with|none=>rfl|some _=>cases hg1
 have iG:g2=none:=by cases g2 with|none=>rfl|some _=>cases iG
 subst hg1 iG;unfold SV at hr;split at hr
 ·rename_i Y x z xV hop2
  dsimp only at xV hop2;subst xV hop2;split at hr
  ·rename_i d' d'' i φ hd' hi hφ
   subst hd';split at hr
   ·rename_i hc
    simp only[zLR,Bool.not_eq_true']at hc;obtain⟨c1,c2,c3⟩:=hc;have c1:=zLQ c1
    have c2:=zLQ c2;subst c1 c2;rw[<-h.ep]at hφ;have hv:=h.rd #[x] x φ (by simp) hφ
    have hT:=(hE.T _ _ hi).ty;have hP':X.P=F.P:=h.P
    rw[hP']at hT;simp only[vp,Region.wanted,if_true];refine jo (fun c e=>nomatch e) ?_
    have hu:(underlying E.Z).run F.P w=.ok i.dd w:=by simp[underlying,hT.u]
    have oQ:(execOp a.eval ⟨some d',.makeInterface E.Z x,T1,pos1,aft1,none⟩).run F.P w=.ok (.value (.iface E.Z (a.eval x))) w:=by
     cases hdd:i.dd<;>rw[hdd]at hu c3<;>first|(cases c3;done)|simp[execOp,Instr.makeInterface,hu]
    unfold Oper.wp;rw[oQ];show (F.W Q) _ _ _ _
    refine jo (fun c e=>nomatch e) ?_
    have fD:(a.put (some d') (.iface E.Z (a.eval x))).eval (.tmp d')=.iface E.Z (a.eval x):=yV h.fit (hd d' rfl).1 _;have bW:(execOp (a.put (some d') (.iface E.Z (a.eval x))).eval ⟨d2,.panic (.tmp d'),T2,pos2,aft2,none⟩).run F.P w=.halt (.panic (.iface E.Z (a.eval x))) w:=by
     simp[execOp,fD];rfl
    unfold Oper.wp;rw[bW];have aC:=h.val (Ext.refl w) (d:=some d') (fun t ht=>hd t ht) (v:=.iface E.Z (a.eval x)) (φ:=.top) trivial
    have fT:X.le w { X with n:=s.n+1 } w:=⟨rfl,zb.refl _ _ _,fun _ _=>rfl,by rw[h.n];exact zLc _,rfl⟩
    have aJ:=aC.val (Ext.refl w) h0 ((φ.mono fT fun _=>Ext.refl _).1 _ hv)
    exact hP _ _ _ _ ⟨_,aJ⟩ ((Inv.put _ _ _).trans (Inv.put _ _ _)) hr
   ·cases hr
  ·cases hr
 ·cases hr
end
def zEr(E:VE)(ops:List Oper)(s:S)(k pn:S->Comp β):Comp β:=match ops.reverse with
 |o::rest=>match o.op with
  |.call c=>match c.callee with
   |.value x=>match o.guard.isNone with
    |true=>Zv E (wrS ops) ops (fun s'=>mC E s' o.dst (rdO s'.ep s'.L [] [] x) (jB (rdO s'.ep s'.L [] []) c.args.toList) k pn) rest.reverse s
    |false=>Comp.fail
   |_=>Comp.fail
  |.panic _=>match rest with
   |q::rest=>match q.guard.isNone && o.guard.isNone with
    |true=>Zv E (wrS ops) ops (fun s'=>SV E s' q o pn) rest.reverse s
    |false=>Comp.fail
   | []=>Comp.fail
  |_=>Comp.fail
 | []=>Comp.fail
theorem Act.put_defers(a:Act)(d:Option Tmp)(v:Value):(a.put d v).defers=a.defers:=by cases d<;>rfl
theorem wK{a:Act}{N:Nat}{D:List Deferred}{d:Option Tmp}{v:Value}(h:(a.put d v).fitD N D):a.fitD N D:=⟨by have:=h.size;cases d<;>simpa[Act.put] using this,(Act.put_defers a d v).symm.trans h.defers⟩
theorem VC{F:Frm}{E:VE}(fE:∀t φ,¬F.Lh t φ)(hE:E.ok F.P)(hN:0<F.N){id:Nat}{ops:Array Oper}(fA:Xb F.N ops.toList=true){s0 s:S}{a:Act}{w:World}{k pn:S->Comp β}{nf:Nat}{y:β}{Q:Exit->Act->World->Prop}
  (hR:Rel F s a w) (hi:Inv s0 s) (hr:(zEr E ops.toList s k pn).run nf=some y) (hk:∀s' a' w',Rel F s' a' w'->Inv s0 s'->(k s').run nf=some y->Q .normal a' w')
  (hP:∀s' a' v w',Rel F s' (a'.put (some 0) v) w'->Inv s0 s'->(pn s').run nf=some y->Q (.panic [{ v:=.iface E.Z v,recovered:=false }]) a' w'):F.wp (Code.region id ops false) Q a w:=by
 have h0:F.dst (some 0):=fun t ht=>by cases ht;exact⟨hN,fun φ=>fE _ φ⟩
 have fZ:∀o∈ops.toList,(∀c,o.op≠.defer c)/\F.dst o.dst:=fun o ho=>⟨Kn fA o ho,fun t ht=>by
  obtain⟨j,hj⟩:=List.mem_iff_getElem?.1 ho;exact⟨((zV (Xm fA) hj).2.1 t ht).1,fun φ=>fE t φ⟩⟩
 refine Jd (fun h=>nomatch h) ?_
 show Y2 (F.W Q) ops (Q .normal) (List.range ops.size) a w
 rw[List.range_eq_range',<-Array.length_toList,kF ops.toList 0 (by simp)]
 unfold zEr at hr;split at hr
 ·rename_i o rest hrev
  have hl:ops.toList=rest.reverse++[o]:=by rw[<-List.reverse_reverse ops.toList,hrev];simp
  have ho:o∈ops.toList:=by rw[hl];simp
  split at hr
  ·rename_i c xV
   split at hr
   ·rename_i x a8
    split at hr
    ·rename_i xF
     have xA:vp (F.W Q) ops.toList.toArray (vp (F.W Q) ops.toList.toArray (Q .normal) [o]) rest.reverse a w:=by
      refine XM hE (wrS ops.toList) hR hi hr (fun o' ho'=>fZ o' (by rw[hl];simp only[zLa];exact .inl ho')) fun s' a' w' g1 g2 g3=>?_
      obtain⟨X',hX'⟩:=g1;obtain⟨dd,op,T1,pos1,aft1,gd⟩:=o;obtain⟨cal,args,tys⟩:=c;dsimp only at xV a8 xF g3;have xF:gd=none:=by cases gd with|none=>rfl|some _=>cases xF
      subst xV a8 xF;have hEX:E.ok X'.P:=by rw[hX'.P];exact hE
      simp only[vp,Region.wanted,if_true];refine jo (fun c e=>nomatch e) ?_
      refine DI hEX hX' (fZ _ ho).2 h0 g3 (fun s2 v w2 k1 k2 k3=>hk _ _ _ k1 (g2.trans k2) k3) fun s2 v w2 k1 k2 k3=>hP _ _ _ _ k1 (g2.trans k2) k3
     rw[<-wH,<-hl]at xA;exact xA
    ·cases hr
   ·cases hr
  ·rename_i z xV
   split at hr
   ·rename_i q rest'
    split at hr
    ·rename_i xF
     rw[zLR]at xF;have cJ:ops.toList=rest'.reverse++[q,o]:=by rw[hl];simp
     have hq:q∈ops.toList:=by rw[cJ];simp
     have xA:vp (F.W Q) ops.toList.toArray (vp (F.W Q) ops.toList.toArray (Q .normal) [q,o]) rest'.reverse a w:=by
      refine XM hE (wrS ops.toList) hR hi hr (fun o' ho'=>fZ o' (by rw[cJ];simp only[zLa];exact .inl ho')) fun s' a' w' g1 g2 g3=>?_
      obtain⟨X',hX'⟩:=g1;have hEX:E.ok X'.P:=by rw[hX'.P];exact hE
      refine NC hEX hX' h0 (fZ q hq).2 xF.1 xF.2 g3 fun s2 a2 v w2 k1 k2 k3=>hP _ _ _ _ k1 (g2.trans k2) k3
     rw[<-wH,<-cJ]at xA;exact xA
    ·cases hr
   ·cases hr
  ·cases hr
 ·cases hr
end Go.Den
end
noncomputable section
namespace Go.Den
open Go Go.RowKit Go.Eng Go.Lift
variable {α β γ δ:Type}
inductive H
 |z
 |s (a b:H)
 |b (a:H)
 |j (sh:Sh) (a b:H)
 |jb (sh:Sh) (a:H)
 |l (sh:Sh) (ex:List (Option Nat×Sh)) (a:H)
 |xr (ch can:List Nat) (kl:List (Nat×List Nat))
 |xg (sh:Sh)
 |f (l:List Nat) (a:H)
 |y
 |q
def H.l1:H->H
 |.s x _|.j _ x _|.b x|.jb _ x|.l _ _ x=>x
 |.z|.xr .. | .xg _|.f .. | .y|.q=>.z
def H.l2:H->H
 |.s _ x|.j _ _ x=>x
 |_=>.z
def jn(f:α->Comp β)(g:(α->Comp β)->Comp β):Comp β:=g f
def amb{β:Type}(e:Bool)(c1 c2:Comp β):Comp β:=match e with
 |false=>c2
 |true=>⟨fun n=>match c1.run n,c2.run n with
  |some x,some y=>match Classical.propDecidable (x=y) with
   |isTrue _=>some x
   |isFalse _=>none
  |_,_=>none,by
   intro n m a xM h
   cases h1:c1.run n with
   |none=>rw[h1]at h;cases h
   |some x =>
    cases h2:c2.run n with
    |none=>rw[h1,h2]at h;cases h
    |some y=>rw[h1,h2]at h;rw[c1.mono xM h1,c2.mono xM h2];exact h⟩
theorem uz{β:Type}{e:Bool}{c1 c2:Comp β}{n:Nat}{y:β}(h:(amb e c1 c2).run n=some y):c2.run n=some y/\(e=true->c1.run n=some y):=by
 cases e with
 |false=>exact⟨h,fun h=>nomatch h⟩
 |true =>
  unfold amb at h;simp only at h
  cases h1:c1.run n with
  |none=>rw[h1]at h;cases h
  |some x =>
   cases h2:c2.run n with
   |none=>rw[h1,h2]at h;cases h
   |some z =>
    rw[h1,h2]at h;simp only at h;split at h
    ·rename_i fH _;cases h;subst fH;exact⟨rfl,fun _=>rfl⟩
    ·cases h
def AV.nb?:Option AV->Option (Bool×Bool)
 |some (.nb p e)=>some (p,e)
 |_=>none
theorem AV.zDk{o:Option AV}{q:Bool×Bool}(h:AV.nb? o=some q):o=some (.nb q.1 q.2):=by
 unfold AV.nb? at h;split at h
 ·cases h;rfl
 ·cases h
def zIB{β:Type}(p e:Bool)(c1 c2:Comp β):Comp β:=match p with
 |true=>amb e c1 c2
 |false=>amb e c2 c1
theorem Qj{β:Type}{p e b:Bool}{c1 c2:Comp β}{n:Nat}{y:β}(h:(zIB p e c1 c2).run n=some y)(hb:b=p->e=true):(b=true->c1.run n=some y)/\(b=false->c2.run n=some y):=by
 cases p with
 |true=>exact⟨fun h1=>(uz h).2 (hb h1),fun _=>(uz h).1⟩
 |false=>exact⟨fun _=>(uz h).1,fun h1=>(uz h).2 (hb h1)⟩
def goJ(G:FE)(sh:Sh)(s s':S)(j:sh.D->Comp β):Comp β:=match sh.get G s s' with
 |some x=>j x
 |none=>Comp.fail
def ED:List (Option Nat×Sh)->Type
 | []=>Empty
 | [e]=>e.2.D
 |e::e'::l=>Sum e.2.D (ED (e'::l))
def eqO:Option Nat->Option Nat->Bool
 |none,none=>true
 |some a,some b=>Nat.beq a b
 |_,_=>false
theorem Rv{a b:Option Nat}(h:eqO a b=true):a=b:=by
 cases a<;>cases b<;>simp_all [eqO]
def UI(G:FE)(s:S)(o:Option Nat)(s':S):(l:List (Option Nat×Sh))->Option (ED l)
 | []=>none
 | [e]=>match eqO e.1 o with
  |true=>e.2.get G s s'
  |false=>none
 |e::e'::l=>match eqO e.1 o with
  |true=>match e.2.get G s s' with
   |some x=>some (Sum.inl x:Sum e.2.D (ED (e'::l)))
   |none=>none
  |false=>match UI G s o s' (e'::l) with
   |some x=>some (Sum.inr x:Sum e.2.D (ED (e'::l)))
   |none=>none
def ZP{σ:Type}(G:FE)(s:S)(l:List (Option Nat×Sh))(o:Option Nat)(s':S):Comp (Comp.Step σ (ED l)):=match UI G s o s' l with
 |some x=>Comp.pure (.done x)
 |none=>Comp.fail
def toE(s:S)(ex:Nat->S->Comp β)(rt:S->Comp β)(e:Option Nat×Sh)(x:e.2.D):Comp β:=match e.1 with
 |some i=>ex i (e.2.put s x)
 |none=>rt (e.2.put s x)
def Hf(s:S)(ex:Nat->S->Comp β)(rt:S->Comp β):(l:List (Option Nat×Sh))->ED l->Comp β
 | [],x=>nomatch x
 | [e],x=>toE s ex rt e x
 |e::e'::l,x=>match (x:Sum e.2.D (ED (e'::l))) with
  |.inl x=>toE s ex rt e x
  |.inr x=>Hf s ex rt (e'::l) x
def J1{ε:Type}(G:FE)(sh:Sh)(s s':S):Comp (Comp.Step sh.D ε):=match sh.get G s s' with
 |some x=>Comp.pure (.next x)
 |none=>Comp.fail
def qz(s:S):List Nat->List AV
 | []=>[]
 |t::l=>match look s.L t with
  |some e=>e.2::qz s l
  |none=>qz s l
def exF{β:Type}(ex:Nat->S->Comp β):Nat->S->Comp β:=fun i s=>match Nat.beq i PL with
 |true=>Comp.fail
 |false=>ex i s
def Me{β:Type}(E:VE)(ops:Array Oper)(draw:Bool)(h:H)(s:S)(k pn:S->Comp β):Comp β:=match h with
 |.xr ch can kl=>zFL E ops.toList ch can kl s k
 |.xg sh=>match draw with
  |false=>jn (fun x=>k (sh.put s x)) fun j=>Zv E (wrS ops.toList) ops.toList (fun s'=>goJ E.G sh s s' j) ops.toList s
  |true=>Comp.fail
 |.q=>match draw with
  |false=>zEr E ops.toList s k pn
  |true=>Comp.fail
 |.y=>S5 0 E draw ops.toList s k
 |_=>zLC E draw ops.toList s k
def den(E:VE):Code->(β:Type)->H->S->(S->Comp β)->(Nat->S->Comp β)->(S->Comp β)->Comp β
 |.skip,_,_,s,k,_,_=>k s
 |.label _,_,_,s,k,_,_=>k s
 |.region _ ops draw,_,h,s,k,ex,_=>match h with
  |.f l h'=>Me E ops draw h' (s.Z6 E (qz s l)) k (ex PL)
  |h=>Me E ops draw h s k (ex PL)
 |.seq a b,β,h,s,k,ex,rt=>den E a β h.l1 s (fun s'=>den E b β h.l2 s' k ex rt) ex rt
 |.cond c t e,β,h,s,k,ex,rt=>match (rdO s.ep s.L [] [] c).bind AV.bool? with
  |none=>match AV.nb? (rdO s.ep s.L [] [] c) with
   |some q=>zIB q.1 q.2 (den E t β h.l1 s k ex rt) (den E e β h.l2 s k ex rt)
   |none=>Comp.fail
  |some b=>match h with
   |.j sh h1 h2=>jn (fun x=>k (sh.put s x)) fun j=>if b=true then den E t β h1 s (fun s'=>goJ E.G sh s s' j) ex rt else den E e β h2 s (fun s'=>goJ E.G sh s s' j) ex rt
   |h=>if b=true then den E t β h.l1 s k ex rt else den E e β h.l2 s k ex rt
 |.block id c,β,h,s,k,ex,rt=>match h with
  |.jb sh h1=>jn (fun x=>k (sh.put s x)) fun j=>den E c β h1 s (fun s'=>goJ E.G sh s s' j) (fun i s'=>match Nat.beq i id with|true=>goJ E.G sh s s' j|false=>ex i s') rt
  |h=>den E c β h.l1 s k (fun i s'=>match Nat.beq i id with|true=>k s'|false=>ex i s') rt
 |.loop c,β,h,s,k,ex,rt=>match h with
  |.l sh l h1=>match sh.get E.G s s with
   |none=>Comp.fail
   |some x0=>(Comp.loop (fun x=>den E c (Comp.Step sh.D (ED l)) h1 (sh.put s x) (J1 E.G sh s) (fun i s'=>ZP E.G s l (some i) s') (ZP E.G s l none)) x0).bind (Hf s ex rt l)
  |_=>Comp.fail
 |.scope c,β,h,s,k,ex,rt=>den E c β h.l1 s k ex rt
 |.exit i,_,_,s,_,ex,_=>ex i s
 |.ret,_,_,s,_,_,rt=>rt s
 |.rangeFunc g ps iH bd,β,h,s,k,ex,rt=>match h with
  |.l sh l h1=>match zEo (rdO s.ep s.L [] [] g),sh.get E.G s.ZL s.ZL with
   |some q,some x0=>q.2.bind fun xs=>(K1 (fun x d=>Cy ps.toList q.1 d (sh.put s.ZL x) fun s2=>den E iH (Comp.Step sh.D (ED l)) h1.l1 s2
     (fun s3=>den E bd (Comp.Step sh.D (ED l)) h1.l2 s3.tick (fun s'=>J1 E.G sh s.ZL (s'.back s.ZL.L).tick) (exF fun i s'=>ZP E.G s.ZL l (some i) (s'.back s.ZL.L).tick) (fun s'=>ZP E.G s.ZL l none (s'.back s.ZL.L).tick))
     (fun _ _=>Comp.fail) (fun _=>Comp.fail)) xs x0).bind fun r=>match r with
    |.next x=>k (sh.put s.ZL x).tick
    |.done e=>Hf s.ZL (fun i s'=>ex i s'.tick) (fun s'=>rt s'.tick) l e
   |_,_=>Comp.fail
  |_=>Comp.fail
 |_,_,_,_,_,_,_=>Comp.fail
def okC(N:Nat):Code->Bool
 |.region _ ops _=>Xb N ops.toList && Nat.blt 0 N
 |.seq a b=>okC N a && okC N b
 |.cond _ a b=>okC N a && okC N b
 |.block id a=>okC N a && !(Nat.beq id PL)
 |.loop a|.scope a=>okC N a
 |.exit id=>!(Nat.beq id PL)
 |.rangeFunc _ ps a b=>okC N a && (okC N b && (kg a && (kg b && Wu N ps.toList)))
 |_=>true
theorem rT{F:Fence}{n:Nat}{P:Program}{Q:Exit->Act->World->Prop}{c:Code}(I:Nat->Act->World->Prop)(round:∀m a w,I m a w->c.wpIn F n P (Exit.then (fun a' w'=>∃m',m'<m/\I m' a' w') Q) a w){m:Nat}{a:Act}{w:World}(h₀:I m a w):(Code.loop c).wpIn F n P Q a w:=by
 intro b k cs hro hb hr;have key:∀j a w,I j a w->∃e a' w',Q e a' w'/\ArrivesIn (Machine.fenced P F) P (lone (b.atR a (.code c::.inLoop c::k)) cs w) b k cs e a' w':=by
  intro j
  induction j using Nat.strongRecOn with
  |_ j ih =>
   intro a w hI;obtain⟨e,a₁,w₁,hq,sE⟩:=round j a w hI b (.inLoop c::k) cs hro hb hr
   cases e with
   |normal =>
    obtain⟨m',gF,hI₁⟩:=hq;obtain⟨e₂,a₂,w₂,hq₂,hB3⟩:=ih m' gF a₁ w₁ hI₁;exact⟨e₂,a₂,w₂,hq₂,.of_steps (StepsIn.trans sE (.one (fenced_calm hb hr rfl) stepR_inLoop)) hB3⟩
   |exit id=>exact⟨_,a₁,w₁,hq,.pass (x:=.inLoop c) rfl (fun _ _=>.inl (by simp)) sE⟩
   |goto l=>exact⟨_,a₁,w₁,hq,.pass (x:=.inLoop c) rfl (fun _ _=>.inl (by simp)) sE⟩
   |ret=>exact⟨_,a₁,w₁,hq,.pass (x:=.inLoop c) rfl (fun _ _=>.inl (by simp)) sE⟩
   |panic ch=>exact⟨_,a₁,w₁,hq,.pass (x:=.inLoop c) rfl (fun _ _=>.inl (by simp)) sE⟩
   |outgrown=>exact⟨_,a₁,w₁,hq,.pass (x:=.inLoop c) rfl (fun _ _=>.inl (by simp)) sE⟩
 obtain⟨e,a',w',hq,sE⟩:=key _ a w h₀;exact⟨e,a',w',hq,.of_steps (.one (fenced_calm hb hr rfl) stepR_loop) sE⟩
theorem tE{F:Fence}{n:Nat}{P:Program}{Q:Exit->Act->World->Prop}{c:Code}{a:Act}{w:World}(h:c.wpIn F n P (Exit.noGoto Q) a w):(Code.scope c).wpIn F n P Q a w:=by
 intro b k cs hro hb hr;have h0:(lone (b.atR a (.code (.scope c)::k)) cs w).fenced P F:=fenced_calm hb hr rfl
 obtain⟨e,a₁,w₁,hq,sE⟩:=h b (.inScope c::k) cs hro hb hr
 cases e with
 |normal=>exact⟨.normal,a₁,w₁,hq,.head h0 kY (StepsIn.trans sE (.one (fenced_calm hb hr rfl) rG))⟩
 |exit id =>
  have hx:exitTo id (.inScope c::k)=exitTo id k:=by simp[exitTo]
  exact⟨.exit id,a₁,w₁,hq,fun k' hk=>.head h0 kY (sE.1 k' (by rw[hx];exact hk)),fun hr' hk=>let ⟨k₁,h1,h2⟩:=sE.2 hr' (by rw[hx];exact hk);⟨k₁,h1,.head h0 kY h2⟩⟩
 |goto l=>exact hq.elim
 |ret=>exact⟨_,a₁,w₁,hq,.of_steps (.one h0 kY) sE⟩
 |panic ch=>exact⟨_,a₁,w₁,hq,.of_steps (.one h0 kY) sE⟩
 |outgrown=>exact⟨_,a₁,w₁,hq,.of_steps (b:=b) (k:=k) (cs:=cs) (e:=.outgrown) (.one h0 kY) sE⟩
section
variable {F:Frm} {E:VE}
structure Ways(Z:TypeId)(F:Frm)(s0:S)(nf:Nat){β:Type}(y:β)(k:S->Comp β)(xe:Nat->S->Comp β)(rt:S->Comp β)(Q:Exit->Act->World->Prop):Prop where
 k:∀F' s' a' w',F.To F'->Rel F' s' a' w'->Inv s0 s'->(k s').run nf=some y->Q .normal a' w'
 ex:∀i,i≠PL->∀F' s' a' w',F.To F'->Rel F' s' a' w'->Inv s0 s'->(xe i s').run nf=some y->Q (.exit i) a' w'
 rt:∀F' s' a' w',F.To F'->Rel F' s' a' w'->Inv s0 s'->(rt s').run nf=some y->Q .ret a' w'
 pn:∀F' s' a' v w',F.To F'->Rel F' s' (a'.put (some 0) v) w'->Inv s0 s'->(xe PL s').run nf=some y->Q (.panic [{ v:=.iface Z v,recovered:=false }]) a' w'
theorem Ways.to{Z:TypeId}{F F':Frm}{s0:S}{nf:Nat}{β:Type}{y:β}{k:S->Comp β}{ex:Nat->S->Comp β}{rt:S->Comp β}{Q:Exit->Act->World->Prop}(h:Ways Z F s0 nf y k ex rt Q)(ht:F.To F'):Ways Z F' s0 nf y k ex rt Q :=
 ⟨fun F2 s' a' w' g=>h.k F2 s' a' w' (ht.trans g),fun i hi F2 s' a' w' g=>h.ex i hi F2 s' a' w' (ht.trans g),fun F2 s' a' w' g=>h.rt F2 s' a' w' (ht.trans g),fun F2 s' a' v w' g=>h.pn F2 s' a' v w' (ht.trans g)⟩
theorem qm(fE:∀t φ,¬F.Lh t φ)(hE:E.ok F.P){s s1:S}{a0 a1:Act}{w0 w1:World}{F0:Frm}(c7:F.kin F0)(h0:Rel F0 s a0 w0)(h1:Rel F s1 a1 w1)(hi:Inv s s1){sh:Sh}{j:sh.D->Comp β}{nf:Nat}{y:β}(h:(goJ E.G sh s s1 j).run nf=some y) :
  ∃x,Rel F (sh.put s x) a1 w1/\Inv s (sh.put s x)/\(j x).run nf=some y:=by
 unfold goJ at h;split at h
 ·rename_i x hx
  obtain⟨g1,g2⟩:=YO fE hE c7 h0 h1 hi hx;exact⟨x,g1,g2,h⟩
 ·cases h
theorem uk(fE:∀t φ,¬F.Lh t φ)(hE:E.ok F.P){s s1:S}{a0 a1:Act}{w0 w1:World}{F0:Frm}(c7:F.kin F0)(h0:Rel F0 s a0 w0)(h1:Rel F s1 a1 w1)(hi:Inv s s1){o:Option Nat}{ex:Nat->S->Comp β}{rt:S->Comp β}{nf:Nat}{y:β}:∀ {l:List (Option Nat×Sh)} {x:ED l},UI E.G s o s1 l=some x->(Hf s ex rt l x).run nf=some y ->
  ∃s',Rel F s' a1 w1/\Inv s s'/\(match o with|some i=>ex i s'|none=>rt s').run nf=some y
 | [],x,h,_=>nomatch x
 | [e],x,h,hr=>by
  simp only[UI]at h;split at h
  ·rename_i he
   obtain⟨g1,g2⟩:=YO fE hE c7 h0 h1 hi h;have:=Rv he
   subst this;refine⟨_,g1,g2,?_⟩;simp only[Hf,toE]at hr;split at hr<;>rename_i cY<;>first|exact hr|(rw[cY];exact hr)
  ·cases h
 |e::e'::l,x,h,hr=>by
  simp only[UI]at h;split at h
  ·rename_i he
   split at h
   ·rename_i x1 hx
    cases h
    obtain⟨g1,g2⟩:=YO fE hE c7 h0 h1 hi hx;have:=Rv he
    subst this;refine⟨_,g1,g2,?_⟩;simp only[Hf,toE]at hr;split at hr<;>rename_i cY<;>first|exact hr|(rw[cY];exact hr)
   ·cases h
  ·split at h
   ·rename_i x1 hx
    cases h
    exact uk fE hE c7 h0 h1 hi hx hr
   ·cases h
theorem zAs{i:Nat}(h:(!(Nat.beq i PL))=true):i≠PL:=fun e=>by subst e;rw[Nat.beq_refl]at h;cases h
theorem uy{N:Nat}(h:Nat.blt 0 N=true):0<N:=by rw[zX]at h;simpa using h
theorem Rt{β:Type}{e:Nat->S->Comp β}{s:S}{nf:Nat}{y:β}(h:(exF e PL s).run nf=some y):False:=by
 unfold exF at h;rw[Nat.beq_refl]at h;cases h
theorem Rs{β:Type}{e:Nat->S->Comp β}{i:Nat}(hi:i≠PL)(s:S):exF e i s=e i s:=by
 unfold exF;rw[show Nat.beq i PL=false by rw[zU];exact zLt hi]
theorem ub(fE:∀t φ,¬F.Lh t φ)(hE:E.ok F.P)(hm:F.P.follows .mixedOrders=true)(sB:F.x.sb<=F.w0.heap.size){id:Nat}{ops:Array Oper}{draw:Bool}(hN:0<F.N)(fA:Xb F.N ops.toList=true){β:Type}{h:H}{s0 s:S}{a:Act}{w:World}{k pn:S->Comp β}{nf:Nat}{y:β}{Q:Exit->Act->World->Prop}
  (hR:Rel F s a w) (hi:Inv s0 s) (hr:(Me E ops draw h s k pn).run nf=some y) (hk:∀s' a' w',Rel F s' a' w'->Inv s0 s'->(k s').run nf=some y->Q .normal a' w')
  (hP:∀s' a' v w',Rel F s' (a'.put (some 0) v) w'->Inv s0 s'->(pn s').run nf=some y->Q (.panic [{ v:=.iface E.Z v,recovered:=false }]) a' w'):F.wp (Code.region id ops draw) Q a w:=by
 unfold Me at hr;split at hr
 ·have:=WA (id:=id) (draw:=draw) fE hE hR hi hm sB fA hr hk
  simpa using this
 ·rename_i sh
  split at hr
  ·dsimp only [jn]at hr
   have:=WB (id:=id) fE hE hR (Inv.refl s) fA hr (Q:=Q) fun s' a' w' g1 g2 g3=>by
    obtain⟨x,q1,q2,q3⟩:=qm fE hE (Frm.KR F) hR g1 g2 g3;exact hk _ _ _ q1 (hi.trans q2) q3
   simpa using this
  ·cases hr
 ·split at hr
  ·exact VC fE hE hN fA hR hi hr hk hP
  ·cases hr
 ·have:=CG (id:=id) fE hE hR hi hm fA hr hk
  simpa using this
 ·have:=CG (id:=id) fE hE hR hi hm fA hr hk
  simpa using this
theorem Yl:∀(c:Code),∀ {F:Frm},F.P.follows .mixedOrders=true->(∀t φ,¬F.Lh t φ)->E.ok F.P->okC F.N c=true->((F.x.rd=none/\F.x.nr=false)\/kg c=true)->F.x.sb=F.w0.heap.size->∀ {β:Type} {h:H} {s0 s:S} {a:Act} {w:World} {k:S->Comp β} {ex:Nat->S->Comp β} {rt:S->Comp β} {nf:Nat} {y:β} {Q:Exit->Act->World->Prop},
  Rel F s a w->Inv s0 s->(den E c β h s k ex rt).run nf=some y->Ways E.Z F s0 nf y k ex rt Q->F.wp c Q a w:=by
 intro c
 induction c with
 |skip=>intro F hm fE hE _ xC sB β h s0 s a w k ex rt nf y Q hR hi hr hW;exact wpIn_skip (hW.k F s a w (.refl F) hR hi hr)
 |label l=>intro F hm fE hE _ xC sB β h s0 s a w k ex rt nf y Q hR hi hr hW;exact wpIn_label (hW.k F s a w (.refl F) hR hi hr)
 |exit i=>intro F hm fE hE fA xC sB β h s0 s a w k ex rt nf y Q hR hi hr hW;exact wpIn_exit (hW.ex i (zAs fA) F s a w (.refl F) hR hi hr)
 |ret=>intro F hm fE hE _ xC sB β h s0 s a w k ex rt nf y Q hR hi hr hW;exact wpIn_ret (hW.rt F s a w (.refl F) hR hi hr)
 |region id ops draw =>
  intro F hm fE hE fA xC sB β h s0 s a w k ex rt nf y Q hR hi hr hW;simp only[den]at hr;simp only[okC,zLR]at fA;have hN:=uy fA.2
  split at hr
  ·rename_i l h'
   exact ub fE hE hm (Nat.le_of_eq sB) hN fA.1 (Rel.Z6 hE hR _) (hi.trans (Inv.Z6 _ _)) hr (fun s' a' w'=>hW.k F s' a' w' (.refl F)) fun s' a' v w'=>hW.pn F s' a' v w' (.refl F)
  ·exact ub fE hE hm (Nat.le_of_eq sB) hN fA.1 hR hi hr (fun s' a' w'=>hW.k F s' a' w' (.refl F)) fun s' a' v w'=>hW.pn F s' a' v w' (.refl F)
 |seq x z ihx ihz =>
  intro F hm fE hE fA xC sB β h s0 s a w k ex rt nf y Q hR hi hr hW;simp only[okC,zLR]at fA;simp only[den]at hr;have c9:(F.x.rd=none/\F.x.nr=false)\/kg x=true:=xC.imp id fun h=>by simp only[kg,zLR]at h;exact h.1
  have dA:(F.x.rd=none/\F.x.nr=false)\/kg z=true:=xC.imp id fun h=>by simp only[kg,zLR]at h;exact h.2
  refine wpIn_seq (ihx hm fE hE fA.1 c9 sB hR hi hr ⟨fun F' s' a' w' h0 h1 h2 h3=>?_,hW.ex,hW.rt,hW.pn⟩)
  have hs:=h0.same;have:=ihz (F:=F') (by rw[hs.P];exact hm) (by rw[hs.Lh];exact fE) (by rw[hs.P];exact hE) (by rw[hs.N];exact fA.2) (by rw[hs.rd,hs.nr];exact dA) (by rw[hs.sb,hs.w0];exact sB) h1 h2 h3 (hW.to h0)
  unfold Frm.wp at this;rwa[hs.P,hs.rd]at this
 |scope x ih =>
  intro F hm fE hE fA xC sB β h s0 s a w k ex rt nf y Q hR hi hr hW;simp only[den]at hr;exact tE (ih hm fE hE fA xC sB hR hi hr ⟨hW.k,hW.ex,hW.rt,hW.pn⟩)
 |cond c t e iht ihe =>
  intro F hm fE hE fA xC sB β h s0 s a w k ex rt nf y Q hR hi hr hW;have c9:(F.x.rd=none/\F.x.nr=false)\/kg t=true:=xC.imp id fun h=>by simp only[kg,zLR]at h;exact h.1
  have dA:(F.x.rd=none/\F.x.nr=false)\/kg e=true:=xC.imp id fun h=>by simp only[kg,zLR]at h;exact h.2
  simp only[okC,zLR]at fA;simp only[den]at hr;split at hr
  ·split at hr
   ·rename_i q hq
    obtain⟨b,hc,hb⟩:∃b,a.eval c=.bool b/\(b=q.1->q.2=true):=by
     obtain⟨X,hX⟩:=hR;have hq:=AV.zDk hq
     rw[<-hX.ep]at hq;exact hX.rd #[c] c _ (by simp) hq
    have hr:=Qj hr hb;exact wpIn_cond_split hc (fun aB=>iht hm fE hE fA.1 c9 sB hR hi (hr.1 aB) hW) (fun eB=>ihe hm fE hE fA.2 dA sB hR hi (hr.2 eB) hW)
   ·cases hr
  ·rename_i b hb
   have hc:a.eval c=.bool b:=by
    obtain⟨X,hX⟩:=hR;rw[<-hX.ep]at hb
    cases h1:rdO X.ep s.L [] [] c with
    |none=>rw[h1]at hb;cases hb
    |some φ=>rw[h1]at hb;exact XL (hX.rd #[c] c φ (by simp) h1) hb
   split at hr
   ·rename_i sh h1 h2
    dsimp only [jn]at hr;have hW':Ways E.Z F s nf y (fun s'=>goJ E.G sh s s' (fun x=>k (sh.put s x))) ex rt Q:=by
     refine⟨fun F' s' a' w' g0 g1 g2 g3=>?_,fun i fC F' s' a' w' g0 g1 g2 g3=>hW.ex i fC F' s' a' w' g0 g1 (hi.trans g2) g3,fun F' s' a' w' g0 g1 g2 g3=>hW.rt F' s' a' w' g0 g1 (hi.trans g2) g3,fun F' s' a' v w' g0 g1 g2 g3=>hW.pn F' s' a' v w' g0 g1 (hi.trans g2) g3⟩
     have hs:=g0.same;obtain⟨x,q1,q2,q3⟩:=qm (F:=F') (by rw[hs.Lh];exact fE) (by rw[hs.P];exact hE) hs.kin hR g1 g2 g3
     exact hW.k _ _ _ _ g0 q1 (hi.trans q2) q3
    refine wpIn_cond_split hc (fun aB=>?_) (fun eB=>?_)
    ·rw[zLr aB]at hr;exact iht hm fE hE fA.1 c9 sB hR (Inv.refl s) hr hW'
    ·rw[zLs (by rw[eB];simp)]at hr;exact ihe hm fE hE fA.2 dA sB hR (Inv.refl s) hr hW'
   ·refine wpIn_cond_split hc (fun aB=>?_) (fun eB=>?_)
    ·rw[zLr aB]at hr;exact iht hm fE hE fA.1 c9 sB hR hi hr hW
    ·rw[zLs (by rw[eB];simp)]at hr;exact ihe hm fE hE fA.2 dA sB hR hi hr hW
 |block id x ih =>
  intro F hm fE hE fA xC sB β h s0 s a w k ex rt nf y Q hR hi hr hW;simp only[okC,zLR]at fA;have hid:=zAs fA.2
  have hbp:Nat.beq PL id=false:=by rw[zU];exact zLt fun e=>hid e.symm
  have fA:=fA.1;simp only[den]at hr;refine wpIn_block ?_;split at hr
  ·rename_i sh h1
   dsimp only [jn]at hr;have hk:∀F' s' a' w',F.To F'->Rel F' s' a' w'->Inv s s'->(goJ E.G sh s s' (fun x=>k (sh.put s x))).run nf=some y->Q .normal a' w':=by
    intro F' s' a' w' g0 g1 g2 g3;have hs:=g0.same
    obtain⟨x,q1,q2,q3⟩:=qm (F:=F') (by rw[hs.Lh];exact fE) (by rw[hs.P];exact hE) hs.kin hR g1 g2 g3
    exact hW.k _ _ _ _ g0 q1 (hi.trans q2) q3
   refine ih hm fE hE fA xC sB hR (Inv.refl s) hr ⟨fun F' s' a' w' g0 g1 g2 g3=>hk F' s' a' w' g0 g1 g2 g3,fun i fC F' s' a' w' g0 g1 g2 g3=>?_,fun F' s' a' w' g0 g1 g2 g3=>hW.rt F' s' a' w' g0 g1 (hi.trans g2) g3,fun F' s' a' v w' g0 g1 g2 g3=>hW.pn F' s' a' v w' g0 g1 (hi.trans g2) (by rwa[hbp]at g3)⟩
   show (if i=id then Q .normal a' w' else Q (.exit i) a' w')
   cases hb:Nat.beq i id with
   |true=>rw[hb]at g3;rw[zLr (zLQ hb)];exact hk F' s' a' w' g0 g1 g2 g3
   |false =>
    rw[hb]at g3;rw[zU]at hb;rw[zLs (by simpa using hb)];exact hW.ex i fC F' s' a' w' g0 g1 (hi.trans g2) g3
  ·refine ih hm fE hE fA xC sB hR hi hr ⟨fun F' s' a' w' g0 g1 g2 g3=>hW.k F' s' a' w' g0 g1 g2 g3,fun i fC F' s' a' w' g0 g1 g2 g3=>?_,fun F' s' a' w' g0 g1 g2 g3=>hW.rt F' s' a' w' g0 g1 g2 g3,fun F' s' a' v w' g0 g1 g2 g3=>hW.pn F' s' a' v w' g0 g1 g2 (by rwa[hbp]at g3)⟩
   show (if i=id then Q .normal a' w' else Q (.exit i) a' w')
   cases hb:Nat.beq i id with
   |true=>rw[hb]at g3;rw[zLr (zLQ hb)];exact hW.k F' s' a' w' g0 g1 g2 g3
   |false =>
    rw[hb]at g3;rw[zU]at hb;rw[zLs (by simpa using hb)];exact hW.ex i fC F' s' a' w' g0 g1 g2 g3
 |loop x ih =>
  intro F hm fE hE fA xC sB β h s0 s a w k ex rt nf y Q hR hi hr hW;simp only[den]at hr;split at hr
  ·rename_i sh l h1
   split at hr
   ·cases hr
   ·rename_i x0 cL
    obtain⟨e,he,hr⟩:=run_bind hr;obtain⟨g1,g2⟩:=YO fE hE (Frm.KR F) hR hR (Inv.refl s) cL;refine rT (fun m a' w'=>∃F' x,F.To F'/\Rel F' (sh.put s x) a' w'/\Inv s (sh.put s x)/\Comp.XB (fun x=>den E _ (Comp.Step sh.D (ED l)) h1 (sh.put s x) (J1 E.G sh s) (fun i s'=>ZP E.G s l (some i) s') (ZP E.G s l none)) nf m x=some e) (fun m a' w' hI=>?_) ⟨F,x0,.refl F,g1,g2,qH he⟩
    obtain⟨F',x,q0,q1,q2,q3⟩:=hI;have hs:=q0.same
    obtain⟨m',gF,st,f9,hn,hd⟩:=tN q3;have xS:∀(o:Option Nat) (F2:Frm) (s':S) (a2:Act) (w2:World),F'.To F2->Rel F2 s' a2 w2->Inv s s'->(ZP (σ:=sh.D) E.G s l o s').run nf=some st->∃s2,Rel F2 s2 a2 w2/\Inv s s2/\(match o with|some i=>ex i s2|none=>rt s2).run nf=some y:=by
     intro o F2 s' a2 w2 f0 f1 f2 f3;have aP:=(q0.trans f0).same
     unfold ZP at f3;split at f3
     ·rename_i z hz
      have f9:=run_pure f3;have:=hd z f9.symm
      subst this;exact uk (F:=F2) (by rw[aP.Lh];exact fE) (by rw[aP.P];exact hE) aP.kin hR f1 f2 hz hr
     ·cases f3
    have dB:∀ {cc:Code} {R:Exit->Act->World->Prop},F'.wp cc R a' w'->cc.wpIn (fw F.x.rd) 0 F.P R a' w':=fun {cc R} h=>by
     unfold Frm.wp at h;rwa[hs.P,hs.rd]at h
    refine dB (ih (F:=F') (by rw[hs.P];exact hm) (by rw[hs.Lh];exact fE) (by rw[hs.P];exact hE) (by rw[hs.N];exact fA) (by rw[hs.rd,hs.nr];exact xC) (by rw[hs.sb,hs.w0];exact sB) q1 q2 f9 ⟨fun F2 s' a2 w2 f0 f1 f2 f3=>?_,fun i fC F2 s' a2 w2 f0 f1 f2 f3=>?_,fun F2 s' a2 w2 f0 f1 f2 f3=>?_,fun F2 s' a2 v2 w2 f0 f1 f2 f3=>?_⟩)
    ·have aP:=(q0.trans f0).same
     unfold J1 at f3;split at f3
     ·rename_i z hz
      have f9:=run_pure f3;obtain⟨r1,r2⟩:=YO (F:=F2) (by rw[aP.Lh];exact fE) (by rw[aP.P];exact hE) aP.kin hR f1 f2 hz
      exact⟨m',gF,F2,z,q0.trans f0,r1,r2,hn z f9.symm⟩
     ·cases f3
    ·obtain⟨s2,r1,r2,r3⟩:=xS (some i) F2 s' a2 w2 f0 f1 f2 f3
     exact hW.ex i fC F2 s2 a2 w2 (q0.trans f0) r1 (hi.trans r2) r3
    ·obtain⟨s2,r1,r2,r3⟩:=xS none F2 s' a2 w2 f0 f1 f2 f3
     exact hW.rt F2 s2 a2 w2 (q0.trans f0) r1 (hi.trans r2) r3
    ·obtain⟨s2,r1,r2,r3⟩:=xS (some PL) F2 s' (a2.put (some 0) v2) w2 f0 f1 f2 f3
     exact hW.pn F2 s2 a2 v2 w2 (q0.trans f0) r1 (hi.trans r2) r3
  ·cases hr
 |goto l=>intro F hm fE hE _ xC sB β h s0 s a w k ex rt nf y Q hR hi hr hW;cases hr
 |refuse l=>intro F hm fE hE _ xC sB β h s0 s a w k ex rt nf y Q hR hi hr hW;cases hr
 |rangeFunc g ps iH bd iha ihb =>
  intro F hm fE hE fA xC sB β h s0 s a w k ex rt nf y Q hR hi hr hW;obtain⟨xC,bK⟩:=xC.resolve_right (by simp[kg])
  simp only[okC,zLR]at fA;obtain⟨hoka,hokb,hna,hnb,bS⟩:=fA;simp only[den]at hr;split at hr
  case h_2=>cases hr
  rename_i sh l h1;split at hr
  case h_2=>cases hr
  rename_i q x0 hq cL;obtain⟨xs,sF,hr⟩:=run_bind hr;obtain⟨r,oQ,bW⟩:=run_bind hr;obtain⟨X,hX⟩:=hR
  -- the function
  have hq:=U3 hq;rw[<-hX.ep]at hq;obtain⟨cs,⟨f,us,e1,hf,hC⟩,e2⟩:=hX.rd #[g] g _ (by simp) hq
  have hg:a.eval g=.func (.func f) #[] us.toArray:=by rw[e2,e1];rfl
  clear e1 e2 cs;have his:Inv s0 s.ZL:=hi.trans (Inv.ZL s)
  generalize aW:s.ZL=s1 at *;have aC:RelX F s1 a w { X with n:=s.n+1 }:=aW ▸ hX.ZL fE
  have t6:∀t e,look s1.L t=some e->e.2.zg=false:=fun t e he=>by rw[<-aW]at he;exact(gP he).1
  have hkv0:∀t e,look s1.L t=some e->e.2.holds { X with n:=s.n+1 } w (a.get t):=fun t e he=>aC.l t e he (by simp[fresh,t6 t e he])
  unfold Frm.wp;rw[xC];refine wpIn_rangeFunc (F:=fw none) fun fn _=>?_
  -- the machine's blocks
  let D:=w.heap.size
  let r0:Loop:={ state:=.ready,pending:=none,fn:=fn,tmps:=a.tmps,params:=ps,assign:=iH,body:=bd,defers:=D }
  let wE:=(w.alloc (.deferred (some []))).alloc (.loop r0)
  let qS:Loop->Nat->Obj->Prop:=fun r c o=>(F.x.sys c o\/(c=D/\o=.deferred (some [])))\/(c=D+1/\o=.loop r)
  let kv1:Value->AV->Prop:=fun v φ=>F.x.kv v φ\/∃t e,look s1.L t=some e/\v=a.get t/\φ=e.2
  let FJ:Loop->Frm:=fun r=>{ F with x:={ F.x with sys:=qS r,kv:=kv1,sO:=X.O,sw:=w } }
  have f8:(w.alloc (.deferred (some []))).heap.size=D+1:=by simp[D]
  have bL:∀c o,F.x.sys c o->c<D:=fun c o hc=>(zLq.1 (hX.ex.sys c o hc).1.1).1
  have aJ:=(aC.Qs sB (.deferred (some []))).Qs sB (.loop r0);rw[f8]at aJ;have hExt:Ext w wE:=(Ext.alloc w _).trans (Ext.alloc _ _)
  let XE:Cx:={ X with n:=s.n+1,O:=tag (tag X.O (some D) F.x.st) (some (D+1)) F.x.st }
  have aJ:RelX { F with x:={ F.x with sys:=qS r0 } } s1 a wE XE:=aJ;have hKE:zb 0 X.O w XE.O wE:=by
   refine⟨hExt.size,fun b hb h0=>⟨?_,hExt.block b hb⟩⟩
   show tag (tag X.O (some D) F.x.st) (some (D+1)) F.x.st b=0
   rw[vt (by simp only[D];intro e;cases e;omega),vt (by simp only[D];intro e;cases e;omega)];exact h0
  have hleE:({ X with n:=s.n+1 }:Cx).le w XE wE:=⟨rfl,hKE,fun _ _=>rfl,zLT _,rfl⟩
  have hexJ:Exx (FJ r0).x XE wE:=by
   refine⟨aJ.ex.st,aJ.ex.sys,fun v φ hv=>?_,hKE,aJ.ex.L⟩
   rcases hv with hv|⟨t,e,he,rfl,rfl⟩
   ·exact aJ.ex.kv v φ hv
   ·exact⟨t6 t e he,e.2.le (t6 t e he) hleE (hkv0 t e he)⟩
  have hLhJ:∀r t φ,¬(FJ r).Lh t φ:=fun r=>fE
  have hXJ:RelX (FJ r0) s1 a wE XE:=aJ.conv (F':=FJ r0) (L':=s1.L) rfl rfl rfl rfl fE rfl rfl rfl aJ.fit aJ.l aJ.ln hexJ;obtain⟨j1,j2⟩:=YO (F:=FJ r0) fE hE (Frm.KR _) ⟨_,hXJ⟩ ⟨_,hXJ⟩ (Inv.refl s1) cL
  -- what holds between the rounds
  generalize hB:(fun x d=>Cy ps.toList q.1 d (sh.put s1 x) fun s2=>den E iH (Comp.Step sh.D (ED l)) h1.l1 s2 (fun s3=>den E bd (Comp.Step sh.D (ED l)) h1.l2 s3.tick (fun s'=>J1 E.G sh s1 (s'.back s1.L).tick) (exF fun i s'=>ZP E.G s1 l (some i) (s'.back s1.L).tick) (fun s'=>ZP E.G s1 l none (s'.back s1.L).tick)) (fun _ _=>Comp.fail) (fun _=>Comp.fail))=B at *
  let J:List q.1.D->zR->World->Prop:=fun pre O W=>∃rest x Xc,xs=pre++rest/\(K1 B rest x).run nf=some r/\RelX (FJ r0) (sh.put s1 x) a W Xc/\Xc.O=O/\Inv s1 (sh.put s1 x)
  let Jx:zR->World->Prop:=fun O W=>∃c s2 Xc,RelX (FJ { r0 with state:=.done,pending:=some c }) s2 a W Xc/\Xc.O=O/\Inv s1 s2/\((∃i,i≠PL/\c=.exit i/\(ex i s2.tick).run nf=some y)\/(c=.ret/\(rt s2.tick).run nf=some y))
  have hwE:∀b,b<wE.heap.size↔b<D+2:=fun b=>by simp[wE,D]
  -- at the end
  have dC:∀(r1:Loop) (s2:S) (W:World),r1.state≠.busy->Rel (FJ r1) s2 a W->∃W',(Instr.endLoop (D+1)).run F.P W=.ok r1.pending W'/\Rel (F.mark D) s2.tick { a with defers:=nR D::a.defers } W':=by
   intro r1 s2 W hb ⟨Xc,b7⟩;obtain⟨⟨k1,k2⟩,k3⟩:=b7.ex.sys (D+1) (.loop r1) (.inr ⟨rfl,rfl⟩);refine⟨_,run_endLoop k1 hb,{ Xc with n:=s2.n+1,ep:=s2.n },?_⟩
   have ht:=b7.turn (o':=.loop { r1 with state:=.exhausted }) (q:=fun c o=>F.x.sys c o\/(c=D/\o=.deferred (some []))) k2 (by have:=hX.base.size;show F.w0.heap.size<=D+1;simp only[D];omega) (zLq.1 k1).1 fun c o hc=>.inl ⟨by rcases hc with hc|⟨hc,_⟩;have:=bL c o hc;omega;omega,.inl hc⟩
   refine ht.conv (F':=F.mark D) (L':=s2.L) rfl rfl rfl rfl fE rfl rfl rfl ⟨b7.fit.size,by show nR D::a.defers=_;rw[show a.defers=F.D from b7.fit.defers];rfl⟩ (fun t e he hf=>ht.l t e he hf) ht.ln ⟨ht.ex.st,fun c o hc=>ht.ex.sys c o hc,fun v φ hv=>ht.ex.kv v φ (.inl hv),?_,ht.ex.L⟩
   have nK:zb 0 X.O w Xc.O (W.putObj (D+1) (.loop { r1 with state:=.exhausted })):=ht.ex.since;exact hX.ex.since.trans nK
  have hmk:F.To (F.mark D):=.mark (.refl F) D (fun o hc=>zLh (bL D o hc) (Nat.lt_irrefl _)) bK
  refine⟨D+1,[nR D],wE,{ target:=.fn (.func f) us.toArray,args:=#[.func (.yield (D+1)) #[] #[]] },wE,f,#[.func (.yield (D+1)) #[] #[]]++us.toArray,wE,?_,?_,fun _ _=>trivial,?_,fun h=>by simp[Fence.wide]at h,?_⟩
  ·show (Instr.enterLoop fn a.tmps _ _ _ none).run F.P w=_
   rw[run_enterLoop_outer]
  ·have h2:∀v,a.eval (.const v)=v:=fun _=>rfl
   simp[resolve,hg,Deferred.ofValue,h2]
  ·obtain⟨fnc,hf1,hf2,hf3⟩:=hf.h
   have hP:X.P=F.P:=hX.P;rw[hP]at hf1;simp only[invoke,callFunc,run_program,Sem.run_bind,Sem.run_pure,Result.andThen,hf1];simp[hf2,hf3]
  ·have hP:X.P=F.P:=hX.P
   obtain⟨XJ,nM⟩:=j1;have hz:J [] XJ.O wE:=⟨xs,x0,XJ,rfl,oQ,nM,rfl,j2⟩
   have aL:=hC XJ.O wE nM.okO nM.ex.since nf xs sF (D+1) J Jx ?_
   ·rw[hP]at aL
    rw[show #[Value.func (Fn.yield (D+1)) #[] #[]]++us.toArray=(Value.func (.yield (D+1)) #[] #[]::us).toArray by simp]
    refine tn (m:=0) (Calls.mono aL fun e W he=>?_)
    obtain⟨rfl,⟨O',rest,x,Xc,g1,g2,g3,g4,g5⟩|⟨O',c,s2,Xc,g3,g4,g5,g6⟩⟩:=he
    ·have xR:rest=[]:=by simpa using g1
     subst xR;have:=run_pure g2
     subst this;obtain⟨W',k1,k2⟩:=dC r0 _ W (by simp[r0]) ⟨_,g3⟩
     exact⟨none,W',k1,hW.k _ _ _ _ hmk k2 (his.trans (g5.trans (Inv.tick _))) bW⟩
    ·obtain⟨W',k1,k2⟩:=dC _ s2 W (by simp) ⟨_,g3⟩
     refine⟨some c,W',k1,?_⟩;rcases g6 with ⟨i,fC,rfl,g6⟩|⟨rfl,g6⟩
     ·exact wpIn_exit (hW.ex i fC _ _ _ _ hmk k2 (his.trans (g5.trans (Inv.tick _))) g6)
     ·exact wpIn_ret (hW.rt _ _ _ _ hmk k2 (his.trans (g5.trans (Inv.tick _))) g6)
   ·-- a round
    refine⟨fun pre O1 w1 w2 ⟨rest,x,Xc,g1,g2,g3,g4,g5⟩ hE1=>⟨rest,x,Xc,g1,g2,g3.ext hE1,g4,g5⟩,fun O1 w1 w2 ⟨c,s2,Xc,g1,g2,g3,g4⟩ hE1=>⟨c,s2,Xc,g1.ext hE1,g2,g3,g4⟩,
     fun pre O1 w1 ⟨rest,x,Xc,g1,g2,g3,g4,g5⟩=>g4 ▸ g3.okO,fun O1 w1 ⟨c,s2,Xc,g1,g2,g3,g4⟩=>g2 ▸ g1.okO,?_,hz⟩
    rintro pre d post O1 w1 vs fV ⟨rest,x,Xc,g1,g2,g3,g4,g5⟩ sV;subst g4;have xR:rest=d::post:=by rw[g1]at fV;simpa using fV
    subst xR;obtain⟨st1,eC,eD⟩:=run_bind g2;rw[<-hB]at eC;obtain⟨⟨k1,k2⟩,k3⟩:=g3.ex.sys (D+1) (.loop r0) (.inr ⟨rfl,rfl⟩)
    -- the round's own frame
    let FR:Loop->Frm:=fun r=>{ F with D:=[],x:={ F.x with sys:=qS r,kv:=kv1,sO:=Xc.O,sw:=w1,rd:=some (D+1) } }
    have hB4:(⟨a.tmps,[]⟩:Act).fitD F.N []:=⟨g3.fit.size,rfl⟩;have hXR:RelX (FR r0) (sh.put s1 x) ⟨a.tmps,[]⟩ w1 Xc:=g3.conv (F':=FR r0) (L':=(sh.put s1 x).L) rfl rfl rfl rfl fE rfl rfl rfl hB4 g3.l g3.ln ⟨g3.ex.st,g3.ex.sys,g3.ex.kv,zb.refl _ _ _,g3.ex.L⟩
    have hPc:Xc.P=F.P:=g3.P;rw[hP]at sV;obtain⟨s2,X2,p1,p2,p3,p4,p5⟩:=Qd (F:=FR r0) fE hXR (by rw[hPc];exact sV) bS eC
    have eG:∀ {O2:zR} {w2:World},zb 0 Xc.O w1 O2 w2->zb 0 X.O w O2 w2:=fun h=>g3.ex.since.trans h
    rw[hP];refine⟨fn,_,iH,bd,run_yield k1 (by simp[r0,<-p5]),?_⟩
    have fP:({ tmps:=(r0.params.zip vs.toArray).foldl (fun tmps p=>tmps.setIfInBounds p.1 p.2) r0.tmps,defers:=[] }:Act)=Yn ps.toList vs ⟨a.tmps,[]⟩:=by
     rw[GZ,<-Array.foldl_toList];simp[r0,Array.toList_zip]
    refine roundIn_of_wpIn trivial ?_;show iH.wpIn (fw (some (D+1))) 0 F.P _ { tmps:=(r0.params.zip vs.toArray).foldl (fun tmps p=>tmps.setIfInBounds p.1 p.2) r0.tmps,defers:=[] } w1
    rw[fP];refine iha (F:=FR r0) hm fE hE hoka (.inr hna) sB ⟨_,p1⟩ (Inv.refl s2) p4 ⟨fun F' s3 a3 w3 f0 f1 f2 f3=>?_,fun i _ F' s3 a3 w3 _ _ _ f3=>(nomatch f3),fun F' s3 a3 w3 _ _ _ f3=>(nomatch f3),fun F' s3 a3 _ w3 _ _ _ f3=>(nomatch f3)⟩
    obtain⟨X3,aM⟩:=f1;have dK:=f0.same
    obtain⟨⟨m1,m2⟩,m3⟩:=aM.ex.sys (D+1) (.loop r0) (f0.sys (.inr ⟨rfl,rfl⟩))
    let rb:Loop:={ r0 with state:=.busy }
    let q':Nat->Obj->Prop:=fun c o=>(c≠D+1/\F'.x.sys c o)\/(c=D+1/\o=.loop rb)
    have hwD:F.w0.heap.size<=D+1:=by have:=hX.base.size;simp only[D];omega
    have hX4:=aM.turn (o':=.loop rb) (q:=q') m2 (by rw[dK.w0];exact hwD) (zLq.1 m1).1 fun c o hc=>hc.imp (fun h=>h) fun h=>⟨h.1,h.2,m3⟩
    refine⟨w3.putObj (D+1) (.loop rb),run_beginRound m1 rfl,?_⟩;show bd.wpIn (fw (some (D+1))) 0 F.P _ a3 _
    have dB:∀ {cc:Code} {R:Exit->Act->World->Prop} {a':Act} {w':World},(F'.sys q').wp cc R a' w'->cc.wpIn (fw (some (D+1))) 0 F.P R a' w':=fun {cc R a' w'} h=>by
     unfold Frm.wp at h
     change cc.wpIn (fw F'.x.rd) 0 F'.P R a' w' at h
     rwa[dK.P,dK.rd]at h
    let FK:Loop->Frm:=fun r=>{ F with x:={ F.x with sys:=qS r,kv:=kv1,sO:=Xc.O,sw:=w1 } }
    -- the end of a round
    have iI:∀(F2:Frm) (s':S) (a2:Act) (W3:World) (r1:Loop),(F'.sys q').To F2->Rel F2 s' a2 W3->Inv s2 s'->(W3.heap[D+1]?=some (.loop rb))/\Rel (FK r1) (s'.back s1.L).tick a (W3.putObj (D+1) (.loop r1)):=by
     intro F2 s' a2 W3 r1 u0 ⟨X5,aU⟩ u2;have bA:(FR r0).Same F2:=dK.M4 u0.same
     have hB5:∀ {c o},c≠D+1->qS r0 c o->F2.x.sys c o:=fun {c o} hc hq=>u0.sys (.inl ⟨hc,f0.sys hq⟩)
     obtain⟨⟨n1,n2⟩,n3⟩:=aU.ex.sys (D+1) (.loop rb) (u0.sys (.inr ⟨rfl,rfl⟩));refine⟨n1,?_⟩;have hk5:zb 0 Xc.O w1 X5.O W3:=by
      have:=aU.ex.since;rwa[bA.sO,bA.sw]at this
     have dL:RelX (FK rb) (s'.back s1.L) a W3 X5:=by
      refine aU.conv (F':=FK rb) (L':=s1.L) (by rw[bA.P]) (by rw[bA.A]) (by rw[bA.O0]) (by rw[bA.w0]) fE (by rw[bA.fe]) (by rw[bA.bl]) (by rw[bA.st]) hX.fit (fun t e he _=>?_) (fun t e he=>zLe (aC.ln t e he) ?_) ⟨by have:=aU.ex.st;rwa[bA.st]at this,fun c o hc=>?_,fun v φ hv=>aU.ex.kv v φ (by rw[bA.kv];exact hv),hk5,by have:=aU.ex.L;rwa[bA.Lp]at this⟩
      ·exact(aU.ex.kv _ _ (by rw[bA.kv];exact .inr ⟨t,e,he,rfl,rfl⟩)).2
      ·exact((g5.trans p3).trans u2).le
      ·have hst5:F2.x.st=F.x.st:=bA.st
       have hsb5:F2.x.sb=F.x.sb:=bA.sb;rcases hc with hc|⟨rfl,rfl⟩
       ·have fC:c≠D+1:=by
         rcases hc with hc|⟨hc,_⟩
         ·have:=bL c o hc;omega
         ·omega
        have:=aU.ex.sys c o (hB5 fC (.inl hc));rw[hst5,hsb5]at this;exact this
       ·have:=aU.ex.sys (D+1) (.loop rb) (u0.sys (.inr ⟨rfl,rfl⟩))
        rw[hst5,hsb5]at this;exact this
     have hbO:X5.O (D+1)=F.x.st:=(dL.ex.sys (D+1) (.loop rb) (.inr ⟨rfl,rfl⟩)).1.2;have hsbD:F.x.sb<=D+1:=(dL.ex.sys (D+1) (.loop rb) (.inr ⟨rfl,rfl⟩)).2
     have hlt5:=(zLq.1 n1).1;have ht:=dL.turn (o':=.loop r1) (q:=qS r1) hbO hwD hlt5 fun c o hc=>by
      rcases hc with hc|⟨rfl,rfl⟩
      ·refine .inl ⟨?_,.inl hc⟩
       rcases hc with hc|⟨hc,_⟩
       ·have:=bL c o hc;omega
       ·omega
      ·exact .inr ⟨rfl,rfl,hsbD⟩
     exact⟨_,ht⟩
    have iJ:∀ {s':S},Inv s2 s'->Inv s1 (s'.back s1.L).tick:=fun {s'} hi'=>(⟨((g5.trans p3).trans hi').le,fun t e he _=>he,fun k e he hl=>((g5.trans p3).trans hi').m k e he hl⟩:Inv s1 (s'.back s1.L)).trans (Inv.tick _)
    have iK:∀r1,(FK r1).kin (FJ r0):=fun r1=>⟨rfl,rfl,rfl⟩
    have hKJ:∀ {r1:Loop} {s':S} {W:World} {Xg:Cx},RelX (FK r1) s' a W Xg->RelX (FJ r1) s' a W Xg:=fun {r1 s' W Xg} h=>h.conv (F':=FJ r1) (L':=s'.L) rfl rfl rfl rfl fE rfl rfl rfl h.fit h.l h.ln ⟨h.ex.st,h.ex.sys,h.ex.kv,eG h.ex.since,h.ex.L⟩
    have xS:∀(o:Option Nat) (c:Code) (F2:Frm) (s':S) (a2:Act) (W3:World),(∀i,o=some i->i≠PL/\c=.exit i)->(o=none->c=.ret)->(F'.sys q').To F2->Rel F2 s' a2 W3->Inv s2 s'->(ZP (σ:=sh.D) E.G s1 l o (s'.back s1.L).tick).run nf=some st1 ->
      ∃v w',(Instr.endRound (D+1) (some c)).run F.P W3=.ok v w'/\(∃b,Ending.returned v=.returned (.bool b)/\∃O2,zb 0 Xc.O w1 O2 w'/\match b with|true=>J (pre++[d]) O2 w'|false=>Jx O2 w'):=by
     intro o c F2 s' a2 W3 dU cI u0 u1 u2 u3;obtain⟨n1,n2⟩:=iI F2 s' a2 W3 { r0 with state:=.done,pending:=some c } u0 u1 u2;refine⟨_,_,run_endRound (some c) n1,false,rfl,?_⟩;unfold ZP at u3;split at u3
     ·rename_i z hz
      have f9:=run_pure u3;rw[<-f9]at eD;have hr:=run_pure eD
      rw[<-hr]at bW;obtain⟨s3',⟨Xg,v1⟩,v2,v3⟩:=uk (F:=FK { r0 with state:=.done,pending:=some c }) (o:=o) (ex:=fun i s'=>ex i s'.tick) (rt:=fun s'=>rt s'.tick) fE hE (iK _) ⟨_,hXJ⟩ n2 (iJ u2) hz bW
      refine⟨Xg.O,v1.ex.since,c,s3',Xg,hKJ v1,rfl,v2,?_⟩
      cases o with
      |some i=>exact .inl ⟨i,(dU i rfl).1,(dU i rfl).2,v3⟩
      |none=>exact .inr ⟨cI rfl,v3⟩
     ·cases u3
    refine dB (ihb (F:=F'.sys q') (by rw[show (F'.sys q').P=F'.P from rfl,dK.P];exact hm) (by rw[show (F'.sys q').Lh=F'.Lh from rfl,dK.Lh];exact fE) (by rw[show (F'.sys q').P=F'.P from rfl,dK.P];exact hE) (by rw[show (F'.sys q').N=F'.N from rfl,dK.N];exact hokb) (.inr hnb) (by rw[show (F'.sys q').x.sb=F'.x.sb from rfl,show (F'.sys q').w0=F'.w0 from rfl,dK.sb,dK.w0];exact sB) ⟨_,hX4⟩ (f2.trans (Inv.tick _)) f3 ⟨fun F2 s' a2 W3 u0 u1 u2 u3=>?_,fun i fC F2 s' a2 W3 u0 u1 u2 u3=>?_,fun F2 s' a2 W3 u0 u1 u2 u3=>?_,fun F2 s' a2 _ W3 u0 u1 u2 u3=>(Rt u3).elim⟩)
    ·obtain⟨n1,n2⟩:=iI F2 s' a2 W3 r0 u0 u1 u2
     refine⟨_,_,run_endRound none n1,true,rfl,?_⟩;unfold J1 at u3;split at u3
     ·rename_i z hz
      have f9:=run_pure u3;rw[<-f9]at eD;obtain⟨⟨Xg,v1⟩,v2⟩:=YO (F:=FK r0) fE hE (iK r0) ⟨_,hXJ⟩ n2 (iJ u2) hz;exact⟨Xg.O,v1.ex.since,post,z,Xg,by rw[g1];simp,eD,hKJ v1,rfl,v2⟩
     ·cases u3
    ·exact xS (some i) (.exit i) F2 s' a2 W3 (fun _ h=>by cases h;exact⟨fC,rfl⟩) (fun h=>nomatch h) u0 u1 u2 (by rwa[Rs fC]at u3)
    ·exact xS none .ret F2 s' a2 W3 (fun _ h=>nomatch h) (fun _=>rfl) u0 u1 u2 u3
end
end Go.Den
end
section
namespace Go.Den
open Go Go.RowKit Go.Eng Go.Lift
variable {α β γ δ:Type}
def Z6:MV->MV
 |.sl true t T xs=>.fs t xs
 |.fs t xs=>.fs t xs
 |.fb t x=>.fb t x
 |.mp true a b xs=>.fm a b xs
 |.fm a b xs=>.fm a b xs
 |_=>.dead
def frz:MS->MS
 | []=>[]
 |e::M=>(e.1,e.2.1,Z6 e.2.2)::frz M
theorem JC:∀ {M:MS} {k:Nat} {e:Nat×MV},look (frz M) k=some e->∃m,look M k=some (e.1,m)/\e.2=Z6 m
 | [],k,e,h=>by cases h
 |f::M,k,e,h=>by
  obtain⟨k0,st,m⟩:=f;simp only[frz,look]at h |-
  cases hb:Nat.beq k0 k with
  |true=>rw[hb]at h;cases h;exact⟨m,rfl,rfl⟩
  |false=>rw[hb]at h;exact JC h
section
variable {F:Frm} {s:S} {a:Act} {w:World} {X:Cx} {E:VE}
def Cx.out(X:Cx)(F:Frm):Cx:={ X with O:=F.O0 }
theorem RelX.qk(h:RelX F s a w X):X.le w (X.out F) w:=⟨rfl,⟨zLT _,fun b hb hz=>⟨h.base.zero b hb hz,rfl⟩⟩,fun _ _=>rfl,zLT _,rfl⟩
theorem RelX.Hx(h:RelX F s a w X):yD (frz s.M) (X.out F) w:=by
 intro k e he;obtain⟨m,h1,h2⟩:=JC he;have hh:=h.m k _ h1
 have sN:=h.qk.k;rw[h2]
 cases m with
 |sl nw t T xs =>
  cases nw with
  |false=>trivial
  |true =>
   obtain⟨vs,g1,g2,g3⟩:=hh;refine YB.2 ⟨vs,g1.slv,g2.mono sN,fun _ g hg=>⟨g1.gC g hg,?_⟩⟩
   have:=(g3 g hg).2
   change X.F g at this
   rw[h.Fn]at this;exact h.ok0 g this
 |bx nw c T=>cases nw<;>trivial
 |fs t xs=>exact GR.y7 _ hh sN
 |fb t x=>exact GR.y7 _ hh sN
 |fg f=>trivial
 |mp nw a b xs =>
  cases nw with
  |false=>trivial
  |true =>
   obtain⟨c,es,clock,g1,g2,g3,g4,g5⟩:=hh;have hc:F.w0.heap.size<=c:=by
    have:X.F c:=g4;rw[h.Fn]at this;exact this
   exact⟨_,.inr ⟨c,es,clock,rfl,g2,g3.mono sN,h.ok0 c hc⟩,g1⟩
 |fm a b xs=>exact GR.y7 _ hh sN
 |dead=>trivial
def nJ(E:VE)(s:S):ResultVar->Option AV
 |.tmp t=>rdO s.ep s.L [] [] (.tmp t)
 |.cell t T=>match rdO s.ep s.L [] [] (.tmp t),look E.T T with
  |some (.bx k off),some i=>match UU s.M k with
   |some c=>match c.at_ i.sz (vO i.dd) true off with
    |some φ=>match φ.q8 with
     |true=>some φ
     |false=>none
    |none=>none
   |none=>none
  |_,_=>none
def lH(E:VE)(s:S):List ResultVar->Option (List AV)
 | []=>some []
 |r::l=>match nJ E s r,lH E s l with
  |some φ,some m=>some (φ::m)
  |_,_=>none
def Md(tmps:Array Value):ResultVar->Sem Value
 |.tmp t=>pure (tmps.getD t undef)
 |.cell a t=>do loadVar t (<-asAddr (tmps.getD a undef))
theorem AP{P:Program}{Y:TypeId}{i:TI}(ht:Eng.Ty P Y i.dd i.z i.sz i.by_){b off:Nat}{c2:List Value}(hp:Yy w (.pointer (some ⟨b,off,none⟩)) (yC (vO i.dd) c2))(hl:c2.length=i.sz)(h1:vO i.dd=false->c2.length=1)(ho:∀c∈c2,c.oneCell'=true):(loadVar Y ⟨b,off,none⟩).run P w=.ok (yC (vO i.dd) c2) w:=by
 obtain⟨b',o',e1,e2⟩:=hp;cases e1;rw[jr h1 ho]at e2
 cases sW:vO i.dd with
 |true =>
  have hs:c2.toArray.size=i.sz:=by simpa using hl
  have:=Go.Eng.run_loadCells (P:=P) (w:=w) (b:=b) (off:=off) (cs:=c2.toArray) e2;rw[hs]at this;simp[loadVar,ht.YL,sW,ht.zu,this,yC]
 |false =>
  have dY:=h1 sW
  match c2,dY with
  | [v0],_ =>
   have:=e2 0 (by simp)
   simp[loadVar,ht.YL,sW,yC,this]at this |-;simp[this]
theorem NW(hE:E.ok X.P)(h:RelX F s a w X){r:ResultVar}{φ:AV}(hr:nJ E s r=some φ):∃v,(Md a.tmps r).run X.P w=.ok v w/\φ.holds X w v:=by
 cases r with
 |tmp t =>
  refine⟨a.get t,rfl,?_⟩;simp only[nJ]at hr;rw[<-h.ep]at hr;exact h.rd #[.tmp t] (.tmp t) φ (by simp) hr
 |cell t T =>
  simp only[nJ]at hr;rw[<-h.ep]at hr;split at hr
  ·rename_i k off i h1 h2
   split at hr
   ·rename_i c hc
    split at hr
    case h_2=>cases hr
    rename_i ψ bT;split at hr
    case h_2=>cases hr
    rename_i hoo;cases hr;have k1:=h.rd #[.tmp t] (.tmp t) _ (by simp) h1
    obtain⟨T',nw,b,cs,e1,e2,e3⟩:=E1 h.m hc;obtain⟨c1,c2,c3,f1,f2,f3,f4,f5,f6⟩:=(AV.IC c bT e3).h;obtain⟨_,b',e4,e5⟩:=k1;rw[e1]at e4;cases e4;have bR:=AV.Q5 φ hoo f4
    have hl:vO i.dd=false->c2.length=1:=fun ha=>by rw[f3];exact f5 ha
    refine⟨_,?_,f6⟩;have fI:=AP (hE.T T i h2).ty (qM e2.own f1 f2 hl bR) f3 hl bR
    have e6:a.tmps.getD t undef=.pointer (some ⟨b,off,none⟩):=e5;simp[Md,e6,asAddr,fI]
   ·cases hr
  ·cases hr
theorem Xk(hE:E.ok X.P)(h:RelX F s a w X):∀ {l:List ResultVar} {m:List AV},lH E s l=some m->∃vs,(l.mapM (Md a.tmps)).run X.P w=.ok vs w/\vs.length=m.length/\∀(i:Nat) φ v,m[i]?=some φ->vs[i]?=some v->φ.holds X w v
 | [],m,hr=>by cases hr;exact⟨[],by simp,rfl,fun i φ v hi=>by simp at hi⟩
 |r::l,m,hr=>by
  simp only[lH]at hr;split at hr
  ·rename_i φ m' h1 h2
   cases hr
   obtain⟨v,e1,e2⟩:=NW hE h h1;obtain⟨vs,f1,f2,f3⟩:=Xk hE h h2;refine⟨v::vs,by simp[List.mapM_cons,e1,f1,Result.andThen],by simp[f2],fun i φ' v' hi hv=>?_⟩
   cases i with
   |zero=>simp at hi hv;subst hi hv;exact e2
   |succ i=>exact f3 i φ' v' (by simpa using hi) (by simpa using hv)
  ·cases hr
theorem kZ{P:Program}{fn:Func}{tmps:Array Value}{w:World}{vs:List Value}(h:(fn.results.toList.mapM (Md tmps)).run P w=.ok vs w):∃v,(results fn tmps).run P w=.ok v w/\kP vs v:=by
 have e:(fn.results.mapM (Md tmps)).run P w=.ok vs.toArray w:=by
  rw[Array.mapM_eq_mapM_toList];rw[map_eq_pure_bind];simp[h,Result.andThen]
 have e4:results fn tmps=(do let vs <-fn.results.mapM (Md tmps);pure (if h:vs.size=1 then vs[0] else .tuple vs)):=by
  unfold results
  congr 2
 have e3:(results fn tmps).run P w=.ok (if h:vs.toArray.size=1 then vs.toArray[0] else .tuple vs.toArray) w:=by
  rw[e4];simp only[Sem.run_bind,e,Result.andThen,Sem.run_pure]
 refine⟨_,e3,?_⟩
 match vs with
 | []=>exact .inl rfl
 | [v]=>exact .inr rfl
 |v::u::vs=>exact .inr (by rw[dif_neg (by simp)];rfl)
def zEn{t:Ty}(xs:List t.D)(a:Ty):Option a.D:=(Ty.sl t).to a xs
def zHY:(a:Ty)->Option a.D
 |.sl e=>some ([]:List e.D)
 |_=>none
def q7(M:MS):List (Option TypeId)->List AV->List Nat
 |k::ks,φ::l=>match k,Xs M φ with
  |some _,some p=>p.1::q7 M ks l
  |_,_=>q7 M ks l
 |_,_=>[]
def W0(k:Nat):List Nat->Bool
 | []=>false
 |j::l=>Nat.beq k j || W0 k l
theorem Gu{k:Nat}:∀ {l:List Nat},W0 k l=false->k ∉ l
 | [],_=>by simp
 |j::l,h=>by
  simp only[W0,Bool.or_eq_false_iff]at h;have h1:=h.1
  rw[zU]at h1;have h2:=Gu h.2
  simp only[zLV,not_or];exact⟨by simpa using h1,h2⟩
def lF(G:FE)(M:MS):List (Option TypeId)->(rs:Ty)->List AV->Option rs.D
 | [],.nil,[]=>some ()
 |none::ks,.cons a b,φ::l=>match φ.asT G (frz M) a,lF G M ks b l with
  |some x,some y=>some (x,y)
  |_,_=>none
 |some T::ks,.cons a b,φ::l=>match Xs M φ with
  |some p=>match p.2.1 && (Nat.beq p.2.2.1 T && !W0 p.1 (q7 M ks l)),zEn p.2.2.2.2 a,lF G M ks b l with
   |true,some x,some y=>some (x,y)
   |_,_,_=>none
  |none=>match Yk φ,zHY a,lF G M ks b l with
   |true,some x,some y=>some (x,y)
   |_,_,_=>none
 |_,_,_=>none
theorem qJ(hG:FOk X.P E.G)(h:RelX F s a w X):∀ {ks:List (Option TypeId)} {rs:Ty} {l:List AV} {y:rs.D},lF E.G s.M ks rs l=some y->∀ {vs:List Value},vs.length=l.length->(∀(i:Nat) φ v,l[i]?=some φ->vs[i]?=some v->φ.holds X w v/\φ.zg=false) ->
  Y0 X.P F.O0 F.w0.heap.size w ks rs vs y/\∀g∈K0 ks vs,∃k'∈q7 s.M ks l,∃e',look s.M k'=some e'/\e'.2.own=true/\X.O g=X.ι k'
 | [],.nil,[],y,hr,vs,hl,_=>⟨List.length_eq_zero_iff.1 hl,fun g hg=>by cases hg⟩
 |none::ks,.cons t b,φ::l,y,hr,vs,hl,hv=>by
  simp only[lF]at hr;split at hr
  ·rename_i x y' h1 h2
   cases hr
   match vs,hl with
   |v::vs,hl =>
    obtain⟨k1,k2⟩:=hv 0 φ v rfl rfl;have k3:=φ.le k2 h.qk k1
    obtain⟨r1,r2⟩:=qJ hG h h2 (vs:=vs) (by simpa using hl) fun i ψ u hi hu=>hv (i+1) ψ u (by simpa using hi) (by simpa using hu)
    exact⟨⟨v,vs,rfl,AV.Z1 (X:=X.out F) hG h.Hx h1 k3,r1,fun g hg=>by cases hg⟩,fun g hg=>r2 g (by simpa[K0,nN] using hg)⟩
  ·cases hr
 |some T::ks,.cons t b,φ::l,y,hr,vs,hl,hv=>by
  simp only[lF]at hr
  match vs,hl with
  |v::vs,hl =>
   obtain⟨k1,k2⟩:=hv 0 φ v rfl rfl;have rest:=fun {y':b.D} (h2:lF E.G s.M ks b l=some y')=>qJ hG h h2 (vs:=vs) (by simpa using hl) fun i ψ u hi hu=>hv (i+1) ψ u (by simpa using hi) (by simpa using hu)
   split at hr
   ·rename_i p hp
    split at hr
    ·rename_i x y' hb h1 h2
     cases hr
     simp only[zLR,Bool.not_eq_true']at hb;obtain⟨e,f1,f2,f3,f4⟩:=wy h.m k1 hp;obtain⟨e1,e2⟩:=Ty.jL h1;obtain⟨r1,r2⟩:=rest h2;have xK:e.2.own=true:=by rw[f2];rfl
     have htg:∀g,v.ownBlock=some g->X.O g=X.ι p.1:=fun g hg=>f3.tagged g hg
     refine⟨⟨v,vs,rfl,?_,r1,fun g hg iG=>?_⟩,fun g hg=>?_⟩
     rotate_left
     ·obtain⟨k',q1,e',q2,q3,q4⟩:=r2 g iG
      have:=h.inj p.1 k' e e' f1 q2 xK q3 ((htg g hg).symm.trans q4);exact Gu hb.2.2 (this ▸ q1)
     ·simp only[K0,nN,zLa,Option.mem_toList]at hg
      rcases hg with hg|hg
      ·exact⟨p.1,by simp[q7,hp],e,f1,xK,htg g hg⟩
      ·obtain⟨k',q1,q2⟩:=r2 g hg
       exact⟨k',by simp[q7,hp,q1],q2⟩
     have fC:=h.pos p.1 e f1 xK;rw[hb.1,zLQ hb.2.1]at f3
     change zo _ _ _ X.F _ _ _ _ at f3
     rw[h.Fn]at f3;have:=zo.res (O0:=F.O0) f3 fC.1 (fun b hb hz=>h.base.zero b hb hz)
     subst e1;have e2:p.2.2.2.2=_:=e2
     show kx _ _ _ _ _ _ _
     rw[<-e2];exact this
    ·cases hr
   ·rename_i aS
    split at hr
    ·rename_i x y' hb h1 h2
     cases hr
     obtain⟨r1,r2⟩:=rest h2;rw[jU hb]at k1;have hvn:v=.slice none 0 0:=k1
     refine⟨⟨v,vs,rfl,?_,r1,fun g hg=>by rw[hvn]at hg;cases hg⟩,fun g hg=>?_⟩
     rotate_left
     ·rw[hvn]at hg
      obtain⟨k',q1,q2⟩:=r2 g (by simpa[K0,nN,Value.ownBlock] using hg)
      exact⟨k',by simp[q7,aS,q1],q2⟩
     cases t<;>simp only[zHY]at h1<;>cases h1
     show kx _ _ _ _ _ _ _
     rw[show v=_ from k1]
     exact kx.nil _ _ _ _ _
    ·cases hr
 | [],.nil,_::_,_,h,_,_,_=>by cases h
 | [],.int _,_,_,h,_,_,_ | [],.bool,_,_,h,_,_,_ | [],.str,_,_,h,_,_,_ | [],.sl _,_,_,h,_,_,_ | [],.cons ..,_,_,h,_,_,_ | [],.arr ..,_,_,h,_,_,_ | [],.box ..,_,_,h,_,_,_ | [],.fn ..,_,_,h,_,_,_ | [],.seq ..,_,_,h,_,_,_ | [],.slo ..,_,_,h,_,_,_ | [],.mp ..,_,_,h,_,_,_=>by cases h
 |none::_,.int _,_,_,h,_,_,_|none::_,.bool,_,_,h,_,_,_|none::_,.str,_,_,h,_,_,_|none::_,.sl _,_,_,h,_,_,_|none::_,.nil,_,_,h,_,_,_|none::_,.arr ..,_,_,h,_,_,_|none::_,.box ..,_,_,h,_,_,_|none::_,.fn ..,_,_,h,_,_,_|none::_,.seq ..,_,_,h,_,_,_|none::_,.slo ..,_,_,h,_,_,_|none::_,.mp ..,_,_,h,_,_,_=>by cases h
 |some _::_,.int _,_,_,h,_,_,_|some _::_,.bool,_,_,h,_,_,_|some _::_,.str,_,_,h,_,_,_|some _::_,.sl _,_,_,h,_,_,_|some _::_,.nil,_,_,h,_,_,_|some _::_,.arr ..,_,_,h,_,_,_|some _::_,.box ..,_,_,h,_,_,_|some _::_,.fn ..,_,_,h,_,_,_|some _::_,.seq ..,_,_,h,_,_,_|some _::_,.slo ..,_,_,h,_,_,_|some _::_,.mp ..,_,_,h,_,_,_=>by cases h
 |none::_,.cons ..,[],_,h,_,_,_|some _::_,.cons ..,[],_,h,_,_,_=>by cases h
theorem uX(hG:FOk X.P E.G)(h:RelX F s a w X){ks:List (Option TypeId)}{rs:Ty}{l:List AV}{y:rs.D}(hr:lF E.G s.M ks rs l=some y){vs:List Value}(hl:vs.length=l.length)(hv:∀(i:Nat) φ v,l[i]?=some φ->vs[i]?=some v->φ.holds X w v/\φ.zg=false) :
  Y0 X.P F.O0 F.w0.heap.size w ks rs vs y:=(qJ hG h hr hl hv).1
end
end Go.Den
end
noncomputable section
namespace Go.Den
open Go Go.RowKit Go.Eng Go.Lift
variable {α β γ δ:Type}
def Yd:(ps:Ty)->ps.D->Nat->LS
 |.cons p q,x,i=>(i,0,.rd p x.1)::Yd q x.2 (i+1)
 |_,_,_=>[]
def Zp:List AV->Bool
 | []=>true
 |φ::l=>!φ.zg && Zp l
def rtF(E:VE)(rk:List (Option TypeId))(rs:Ty)(l:List ResultVar)(s:S):Comp rs.D:=match lH E s l with
 |some m=>match Zp m,lF E.G s.M rk rs m with
  |true,some y=>Comp.pure y
  |_,_=>Comp.fail
 |none=>Comp.fail
def S1(E:VE)(c:Code)(h:H)(l:List ResultVar)(ps rs:Ty)(rk:List (Option TypeId))(x:ps.D):Comp rs.D :=
 den E c rs.D h ⟨Yd ps x 0,[],1,0⟩ (rtF E rk rs l) (fun _ _=>Comp.fail) (rtF E rk rs l)
def Ty.len:Ty->Nat
 |.cons _ b=>b.len+1
 |_=>0
theorem Z2{P:Program}{O w}:∀ {t:Ty} {vs:List Value} {x:t.D},t.args P O w vs x->vs.length=t.len
 |.cons a b,vs,x,⟨v,vs',h,_,h2⟩=>by rw[h,zLZ,Z2 h2];rfl
 |.nil,vs,x,h=>by rw[show vs=[] from h];rfl
 |.int _,_,_,h|.bool,_,_,h|.str,_,_,h|.sl _,_,_,h|.arr ..,_,_,h|.box ..,_,_,h|.fn ..,_,_,h|.seq ..,_,_,h|.slo ..,_,_,h|.mp ..,_,_,h=>h.elim
theorem Z0{P:Program}{O w}{X:Cx}(hP:X.P=P)(hO:X.O=O){a:Act}:∀ {t:Ty} {vs:List Value} {x:t.D} {i:Nat},t.args P O w vs x->(∀(j:Nat) v,vs[j]?=some v->a.get (i+j)=v)->∀ {u e},look (Yd t x i) u=some e->e.1=0/\e.2.holds X w (a.get u)
 |.cons p q,vs,x,i,⟨v,vs',h,h1,h2⟩,ha,u,e,he=>by
  rcases zD he with ⟨e1,e2⟩|⟨_,e2⟩
  ·subst e1 e2
   refine⟨rfl,?_⟩;have:=ha 0 v (by rw[h];rfl)
   rw[Nat.add_zero]at this;rw[this];show (p.gr X.P).v _ _ _ _
   rw[hP,hO];exact h1
  ·exact Z0 hP hO h2 (fun j v hj=>by have:=ha (j+1) v (by rw[h];simpa using hj);rw[<-this];congr 1;omega) e2
 |.nil,_,_,_,_,_,_,_,he=>by cases he
 |.int _,_,_,_,h,_,_,_,_|.bool,_,_,_,h,_,_,_,_|.str,_,_,_,h,_,_,_,_|.sl _,_,_,_,h,_,_,_,_|.arr ..,_,_,_,h,_,_,_,_|.box ..,_,_,_,h,_,_,_,_|.fn ..,_,_,_,h,_,_,_,_|.seq ..,_,_,_,h,_,_,_,_|.slo ..,_,_,_,h,_,_,_,_|.mp ..,_,_,_,h,_,_,_,_=>h.elim
theorem Jc{E:VE}{s:S}{ep n:Nat}:∀ {l:List ResultVar} {m:List AV},lH E s l=some m->Zp m=true->lH E { s with ep:=ep,n:=n } l=some m
 | [],m,h,_=>h
 |r::l,m,h,hn=>by
  have rd:∀ {t:Nat} {φ:AV},rdO s.ep s.L [] [] (.tmp t)=some φ->φ.zg=false->rdO ep s.L [] [] (.tmp t)=some φ:=fun {t φ} h hf=>by
   simp only[rdO,Zy]at h |-
   cases he:look s.L t with
   |none=>rw[he]at h;cases h
   |some e =>
    rw[he]at h;simp only at h |-
    cases fY:fresh s.ep e with
    |false=>rw[fY]at h;cases h
    |true =>
     rw[fY]at h;cases h;simp[fresh,hf]
  simp only[lH]at h |-;split at h
  ·rename_i φ m' h1 h2
   cases h
   simp only[Zp,zLR]at hn;rw[Jc h2 hn.2];have:nJ E { s with ep:=ep,n:=n } r=some φ:=by
    cases r with
    |tmp t=>exact rd h1 (by simpa using hn.1)
    |cell t T =>
     simp only[nJ]at h1 |-
     cases hr:rdO s.ep s.L [] [] (.tmp t) with
     |none=>rw[hr]at h1;cases h1
     |some ψ =>
      rw[hr]at h1;cases ψ<;>first|(rw[rd hr rfl];exact h1)|cases h1
   rw[this]
  ·cases h
theorem Bk{P:Program}{fn:Func}{R:Ending->World->Prop}{F:Frm}(sB:F.w0.heap.size<=F.x.sb){a:Act}{s:S}:∀(bs:List Nat) {q:Nat->Obj->Prop} {n ep:Nat} {w:World},Rel (F.sys q) { s with n:=n,ep:=ep } a w->bs.Nodup->(∀b∈bs,q b (.deferred (some []))) ->
  (∀q' n' ep' w',Rel (F.sys q') { s with n:=n',ep:=ep' } a w'->∃v,(results fn a.tmps).run P w'=.ok v w'/\R (.returned v) w')->LeavesInM Fence.wide 0 P fn a.tmps R (bs.map nR) .returning w
 | [],q,n,ep,w,h,_,_,hK=>hK _ _ _ _ h
 |b::bs,q,n,ep,w,⟨X,h⟩,hn,hb,hK=>by
  obtain⟨eU,nP⟩:=List.nodup_cons.1 hn;obtain⟨⟨h1,h2⟩,h3⟩:=h.ex.sys b _ (hb b (by simp))
  refine⟨by simp,.inl ⟨b,_,rfl,run_takeDeferred h1,?_⟩⟩
  have:=h.turn (o':=.deferred none) (q:=fun c o=>q c o/\c≠b) h2 (zLY sB h3) (zLq.1 h1).1 fun c o hc=>.inl ⟨hc.2,hc.1⟩
  exact Bk sB bs (q:=fun c o=>q c o/\c≠b) ⟨_,this⟩ nP (fun c hc=>⟨hb c (by simp[hc]),fun e=>eU (by rw[<-e];exact hc)⟩) hK
theorem leaves{P:Program}{fn:Func}{R:Ending->World->Prop}{F F':Frm}(hT:F.To F')(hD:F.D=[])(hs:∀b o,¬F.x.sys b o)(sB:F.w0.heap.size<=F.x.sb){a:Act}{s:S}{w:World}(h:Rel F' s a w)
  (hK:∀q' n' ep' w',Rel (F'.sys q') { s with n:=n',ep:=ep' } a w'->∃v,(results fn a.tmps).run P w'=.ok v w'/\R (.returned v) w'):LeavesInM Fence.wide 0 P fn a.tmps R a.defers .returning w:=by
 obtain⟨bs,h1,h2,h3⟩:=hT.marks hD hs;have dM:=hT.same
 have hd:a.defers=bs.map nR:=by obtain⟨X,hX⟩:=h;rw[hX.fit.defers];exact h1
 rw[hd];exact Bk (F:=F') (s:=s) (q:=F'.x.sys) (n:=s.n) (ep:=s.ep) (by rw[dM.w0,dM.sb];exact sB) bs h h2 (fun b hb=>(h3 b _).2 ⟨hb,rfl⟩) hK
theorem kS:∀ {l:List AV},Zp l=true->∀φ∈l,φ.zg=false
 | [],_,φ,h=>by cases h
 |ψ::l,h,φ,hm=>by
  simp only[Zp,zLR]at h;rcases zLV.1 hm with rfl|hm
  ·simpa using h.1
  ·exact kS h.2 φ hm
theorem zBB{P:Program}{E:VE}(hE:E.ok P)(hm:P.follows .mixedOrders=true){f:FuncId}{fn:Func}{c:Code}{h:H}{fs:FS}(hF:FnOk P f)(hf:P.funcs[f]?=some fn)(hb:fn.body=some c)(hc:okC fn.ntmps c=true)(hl:Nat.ble fs.ps.len fn.ntmps=true)
  (hs:∀x,S1 E c h fn.results.toList fs.ps fs.rs fs.rk x=fs.sem x):fs.ok P f:=by
 refine⟨hF,fun O w hO vs x ha n y hy=>?_⟩
 rw[<-hs x]at hy;have fW:=kc vs.toArray fn.ntmps (by have:=Z2 ha;simp only[List.size_toArray];rw[this];exact Nat.le_of_ble_eq_true hl)
 have fD:∀(j:Nat) v,vs[j]?=some v->Act.get { tmps:=vs.toArray++Array.replicate (fn.ntmps-vs.toArray.size) undef,defers:=[] } j=v:=fun j v hj=>kb (by simpa using hj)
 refine callsIn_wide.1 (callsIn_of_wp_marks (n:=0) hf hb trivial ?_);generalize ({ tmps:=vs.toArray++Array.replicate (fn.ntmps-vs.toArray.size) undef,defers:=[] }:Act)=a at fW fD |-
 let F:Frm:=⟨P,fn.ntmps,[],Go.Lift.Fr w,O,w,fun _ _=>False,0,[],FrX.no 1 O w⟩
 let X:Cx:=⟨P,O,fun _=>.nilIface,1,fun k=>k,Go.Lift.Fr w,Go.Lift.Fr w,0,0⟩
 have hR:Rel F ⟨Yd fs.ps x 0,[],1,0⟩ a w:=by
  have fX:=fun {u e}=>Z0 (X:=X) (a:=a) (i:=0) rfl rfl ha (fun j v hj=>by rw[Nat.zero_add];exact fD j v hj) (u:=u) (e:=e)
  refine⟨X,rfl,rfl,rfl,rfl,rfl,hO,fW,Base.start hO,fun t e he _=>(fX he).2,fun k e he=>(nomatch he),fun t e he=>(by rw[(fX he).1];exact Nat.zero_lt_one),fun k e he=>(nomatch he),fun k k' e e' he=>(nomatch he),fun k e he=>(nomatch he),Nat.zero_le _,Nat.zero_lt_one,fun _ _ h=>h.elim,⟨Nat.zero_le _,fun j b hj=>(nomatch hj)⟩,Exx.no Nat.one_ne_zero rfl⟩
 have xT:∀F' s' a' w',F.To F'->Rel F' s' a' w'->(rtF E fs.rk fs.rs fn.results.toList s').run n=some y->LeavesInM Fence.wide 0 P fn a'.tmps (fun e w'=>∃v,e=.returned v/\Ext w w'/\∃rs,kP rs v/\Y0 P O w.heap.size w' fs.rk fs.rs rs y) a'.defers .returning w':=by
  intro F' s' a' w' hT h' hr;refine leaves hT rfl (fun _ _ h=>h) (zLT _) h' fun q n' ep' w' hX'=>?_
  obtain⟨X',hX'⟩:=hX';have hs:=hT.same
  have hP:X'.P=P:=hX'.P.trans hs.P;have hE':E.ok X'.P:=by rw[hP];exact hE
  unfold rtF at hr;split at hr
  ·rename_i m hm'
   split at hr
   ·rename_i y' t6 hy'
    have e:=run_pure hr;subst e;obtain⟨vs',g1,g2,g3⟩:=Xk hE' hX' (Jc hm' t6);obtain⟨v,g4,g5⟩:=kZ g1;rw[hP]at g4;refine⟨v,g4,v,rfl,?_,vs',g5,?_⟩
    ·have:=hX'.base
     change Base F'.A F'.O0 F'.w0 _ _ at this
     rw[hs.A,hs.O0,hs.w0]at this;exact this.ext
    ·have:=uX hE'.G hX' hy' g2 fun i φ u hi hu=>⟨g3 i φ u hi hu,kS t6 φ (zLW hi)⟩
     change Y0 _ F'.O0 F'.w0.heap.size _ _ _ _ _ at this
     rwa[hP,hs.O0,hs.w0]at this
   ·cases hr
  ·cases hr
 exact Yl c (F:=F) hm (fun _ _ h=>h) hE hc (.inl ⟨rfl,rfl⟩) rfl hR (Inv.refl _) hy ⟨fun F' s' a' w' h0 h1 _ h2=>xT F' s' a' w' h0 h1 h2,fun i _ F' s' a' w' _ _ _ h2=>(nomatch h2),fun F' s' a' w' h0 h1 _ h2=>xT F' s' a' w' h0 h1 h2,fun F' s' a' _ w' _ _ _ h2=>(nomatch h2)⟩
def Jg:List (Option TypeId)->(ps:Ty)->ps.D->Nat->Nat->LS×MS
 |some T::io,.cons (.box e) q,x,i,j=>((i,0,.bx j 0)::(Jg io q x.2 (i+1) (j+1)).1,(j,0,.bx false (.rd e x.1) T)::(Jg io q x.2 (i+1) (j+1)).2)
 |none::io,.cons a q,x,i,j=>((i,0,.rd a x.1)::(Jg io q x.2 (i+1) j).1,(Jg io q x.2 (i+1) j).2)
 |_,_,_,_,_=>([],[])
def nbx:List (Option TypeId)->Nat
 | []=>0
 |some _::io=>nbx io+1
 |none::io=>nbx io
def uK(G:FE)(M Mf:MS):(io:List (Option TypeId))->(ps:Ty)->Nat->Option (ioT io ps).D
 |some T::io,.cons (.box e) q,j=>match look M j with
  |some (_,.bx _ c T')=>match Nat.beq T T',c.asT G Mf e,uK G M Mf io q (j+1) with
   |true,some x,some y=>some (x,y)
   |_,_,_=>none
  |_=>none
 |none::io,.cons _ q,j=>uK G M Mf io q j
 | [],.nil,_=>some ()
 |_,_,_=>none
def zAp:Ty->List (Option TypeId)
 |.cons _ b=>none::zAp b
 |_=>[]
def rtM(E:VE)(io:List (Option TypeId))(ps rs:Ty)(l:List ResultVar)(s:S):Comp ((ioT io ps).D×rs.D):=match lH E s l with
 |some m=>match Zp m,lF E.G s.M (zAp rs) rs m,uK E.G s.M (frz s.M) io ps 0 with
  |true,some y,some x=>Comp.pure (x,y)
  |_,_,_=>Comp.fail
 |none=>Comp.fail
def Rp(E:VE)(c:Code)(h:H)(l:List ResultVar)(ps:Ty)(io:List (Option TypeId))(rs:Ty)(x:ps.D):Comp ((ioT io ps).D×rs.D) :=
 den E c ((ioT io ps).D×rs.D) h ⟨(Jg io ps x 0 0).1,(Jg io ps x 0 0).2,nbx io+1,0⟩ (rtM E io ps rs l) (fun _ _=>Comp.fail) (rtM E io ps rs l)
structure Start(P:Program)(O:zR)(w:World)(bl:List Nat)(X:Cx)(n:Nat):Prop where
 U:∀(j:Nat) b,bl[j]?=some b->X.U j=.pointer (some ⟨b,0,none⟩)/\X.ι j=O b
 A:∀b∈bl,X.A b
 n:X.n=n
 P:X.P=P
 O:X.O=O
theorem MIn.len{P:Program}{O:zR}{w:World}:∀ {io:List (Option TypeId)} {ps:Ty} {bl:List Nat} {vs:List Value} {x:ps.D},MIn P O w io ps bl vs x ->
  bl.length=nbx io/\(∀b∈bl,O b≠0/\b<w.heap.size)/\vs.length=ps.len/\bl.Pairwise (fun b c=>O c≠O b):=by
 intro io
 induction io with
 |nil =>
  intro ps bl vs x h;cases ps<;>first|exact h.elim|skip
  obtain⟨rfl,rfl⟩:=h;exact⟨rfl,by simp,rfl,.nil⟩
 |cons o io ih =>
  intro ps bl vs x h
  cases ps with
  |cons p q =>
   cases o with
   |none =>
    obtain⟨v,vs',rfl,h1,h2⟩:=h;obtain⟨g1,g2,g3,g4⟩:=ih h2;exact⟨g1,g2,by simp[Ty.len,g3],g4⟩
   |some T =>
    cases p with
    |box e =>
     obtain⟨b,bl',vs',cs,rfl,rfl,h1,h2,h3,h4,h5⟩:=h;obtain⟨g1,g2,g3,g4⟩:=ih h5;refine⟨by simp[nbx,g1],fun c hc=>?_,by simp[Ty.len,g3],.cons h3 g4⟩
     rcases zLV.1 hc with rfl|hc
     ·obtain⟨fr,h6,_⟩:=h1
      exact⟨h2,(zLq.1 h6).1⟩
     ·exact g2 c hc
    |_=>exact h.elim
  |_=>cases o<;>exact h.elim
theorem N8{P:Program}{O:zR}{w:World}{all:List Nat}{X:Cx}{n:Nat}(hs:Start P O w all X n)(hn:all.length<=n){a:Act}:∀ {io:List (Option TypeId)} {ps:Ty} {bl:List Nat} {vs:List Value} {x:ps.D} {i j:Nat},MIn P O w io ps bl vs x->(∀k,all[j+k]?=bl[k]?)->(∀(k:Nat) v,vs[k]?=some v->a.get (i+k)=v) ->
  (∀ {t e},look (Jg io ps x i j).1 t=some e->e.1=0/\e.2.holds X w (a.get t))/\(∀ {k e},look (Jg io ps x i j).2 k=some e->e.1=0/\j<=k/\k<j+bl.length/\e.2.holds X w k):=by
 intro io
 induction io with
 |nil =>
  intro ps bl vs x i j h hb hv;cases ps<;>first|exact h.elim|skip
  obtain⟨rfl,rfl⟩:=h;exact⟨fun {t e} he=>(nomatch he),fun {k e} he=>(nomatch he)⟩
 |cons o io ih =>
  intro ps bl vs x i j h hb hv
  cases ps with
  |cons p q =>
   cases o with
   |none =>
    obtain⟨v,vs',rfl,h1,h2⟩:=h;obtain⟨g1,g2⟩:=ih (i:=i+1) h2 hb (fun k u hk=>by rw[show i+1+k=i+(k+1) by omega];exact hv (k+1) u (by simpa using hk))
    refine⟨fun {t e} he=>?_,fun {k e} he=>g2 he⟩
    rcases zD he with ⟨rfl,rfl⟩|⟨_,he⟩
    ·refine⟨rfl,?_⟩
     have:=hv 0 v rfl;rw[Nat.add_zero]at this;rw[this];show (p.gr X.P).v X.O w v x.1
     rw[hs.P,hs.O];exact h1
    ·exact g1 he
   |some T =>
    cases p with
    |box e =>
     obtain⟨b,bl',vs',cs,rfl,rfl,h1,h2,h3,h4,h5⟩:=h;obtain⟨g1,g2⟩:=ih (i:=i+1) (j:=j+1) h5 (fun k=>by rw[show j+1+k=j+(k+1) by omega,hb (k+1)];rfl) (fun k u hk=>by rw[show i+1+k=i+(k+1) by omega];exact hv (k+1) u (by simpa using hk))
     have hj:all[j]?=some b:=by have:=hb 0;simpa using this
     obtain⟨k1,k2⟩:=hs.U j b hj;have hjn:j<X.n:=by rw[hs.n];exact zLe (zLX.1 hj).1 hn
     refine⟨fun {t f} he=>?_,fun {k f} he=>?_⟩
     ·rcases zD he with ⟨rfl,rfl⟩|⟨_,he⟩
      ·refine⟨rfl,?_⟩
       have:=hv 0 _ rfl;rw[Nat.add_zero]at this;rw[this];exact⟨hjn,b,k1,rfl⟩
      ·exact g1 he
     ·rcases zD he with ⟨rfl,rfl⟩|⟨_,he⟩
      ·refine⟨rfl,zLT _,by simp,b,cs,k1,⟨h1,?_,?_⟩,?_,rfl⟩
       ·exact hs.A b (zLW hj)
       ·rw[hs.O];exact k2.symm
       ·show (e.gr X.P).rel X.O w cs.toList x.1
        rw[hs.P,hs.O];exact h4
      ·obtain⟨a1,a2,a3,a4⟩:=g2 he
       exact⟨a1,by omega,by simp;omega,a4⟩
    |_=>exact h.elim
  |_=>cases o<;>exact h.elim
theorem VJ{G:FE}{M Mf:MS}{T:TypeId}{io:List (Option TypeId)}{e q:Ty}{j:Nat}:uK G M Mf (some T::io) (.cons (.box e) q) j=(match look M j with
  |some (_,.bx _ c T')=>match Nat.beq T T',c.asT G Mf e,uK G M Mf io q (j+1) with
   |true,some x,some y=>some (x,y)
   |_,_,_=>none
  |_=>none):=rfl
theorem Nk{G:FE}{M Mf:MS}{T:TypeId}{io:List (Option TypeId)}{e q:Ty}{j:Nat}{r:Option (ioT (some T::io) (.cons (.box e) q)).D}(h0:uK G M Mf (some T::io) (.cons (.box e) q) j=r){y:e.D×(ioT io q).D}(hr:r=some y) :
  ∃st nw c,look M j=some (st,.bx nw c T)/\c.asT G Mf e=some y.1/\uK G M Mf io q (j+1)=some y.2:=by
 rw[VJ]at h0;rw[hr]at h0;split at h0
 ·rename_i st nw c T' hk
  split at h0
  ·rename_i x1 y1 hT hc hq
   cases h0
   have xP:T=T':=zLQ hT;subst xP;exact⟨st,nw,c,hk,hc,hq⟩
  ·cases h0
 ·cases h0
section
variable {F:Frm} {s:S} {a:Act} {w:World} {X:Cx} {E:VE}
theorem VI(hG:FOk X.P E.G)(h:RelX F s a w X){all:List Nat}(hU:∀(j:Nat) b,all[j]?=some b->X.U j=.pointer (some ⟨b,0,none⟩)):∀ {io:List (Option TypeId)} {ps:Ty} {bl:List Nat} {w0:World} {vs:List Value} {x:ps.D} {j:Nat} {y:(ioT io ps).D},MIn X.P F.O0 w0 io ps bl vs x->(∀k,all[j+k]?=bl[k]?)->uK E.G s.M (frz s.M) io ps j=some y->D4 X.P F.O0 w io ps bl y:=by
 intro io
 induction io with
 |nil =>
  intro ps bl w0 vs x j y h0 hb hy;cases ps<;>first|exact h0.elim|skip
  exact h0.1
 |cons o io ih =>
  intro ps bl w0 vs x j y h0 hb hy
  cases ps with
  |cons p q =>
   cases o with
   |none =>
    obtain⟨v,vs',rfl,h1,h2⟩:=h0;exact ih h2 hb hy
   |some T =>
    cases p with
    |box e =>
     obtain⟨b,bl',vs',cs,rfl,rfl,h1,h2,h3,h4,h5⟩:=h0;obtain⟨st,nw,c,hk,hc,hr⟩:=Nk rfl hy;obtain⟨b',cs',k1,k2,k3,k4⟩:=h.m j _ hk;have hj:all[j]?=some b:=by have:=hb 0;simpa using this
     rw[hU j b hj]at k1;simp only[Value.pointer.injEq,zLo,Addr.mk.injEq,and_true]at k1;subst k1;refine⟨b,bl',cs',rfl,k2.own,?_,ih h5 (fun k=>by rw[show j+1+k=j+(k+1) by omega,hb (k+1)];rfl) hr⟩
     have cI:=(c.mono h.qk fun hf=>zLh hf (by rw[k4];decide)).2.2 _ k3
     exact(AV.jS (X:=X.out F) hG c h.Hx).vc hc cI
    |_=>exact h0.elim
  |_=>cases o<;>exact h0.elim
end
theorem zEG{P:Program}{E:VE}(hE:E.ok P)(hm:P.follows .mixedOrders=true){f:FuncId}{fn:Func}{c:Code}{h:H}{fs:FM}(hF:FnOk P f)(hf:P.funcs[f]?=some fn)(hb:fn.body=some c)(hc:okC fn.ntmps c=true)(hl:Nat.ble fs.ps.len fn.ntmps=true)
  (hs:∀x,Rp E c h fn.results.toList fs.ps fs.io fs.rs x=fs.sem x):fs.ok P f:=by
 refine⟨hF,fun O w hO bl vs x ha n y hy=>?_⟩
 rw[<-hs x]at hy;refine callsIn_wide.1 (callsIn_of_wp_marks (n:=0) hf hb trivial ?_);obtain⟨st,nS,eC⟩:∃st,st≠0/\∀b∈bl,O b≠st:=⟨1+(bl.map O).sum,by omega,fun b hb=>by have:=w8 (l:=bl.map O) (x:=O b) (List.mem_map.2 ⟨b,hb,rfl⟩);omega⟩
 let F:Frm:=⟨P,fn.ntmps,[],fun b=>w.heap.size<=b\/b∈bl,O,w,fun _ _=>False,0,bl,FrX.no st O w⟩
 let X:Cx:=⟨P,O,fun j=>match bl[j]? with|some b=>.pointer (some ⟨b,0,none⟩)|none=>.nilIface,nbx fs.io+1,fun j=>match bl[j]? with|some b=>O b|none=>0,fun b=>w.heap.size<=b\/b∈bl,Go.Lift.Fr w,0,0⟩
 have f9:Start P O w bl X (nbx fs.io+1):=⟨fun j b hj=>by simp[X,hj],fun b hb=>.inr hb,rfl,rfl,rfl⟩
 obtain⟨hbl,hblO,sV,hpw⟩:=ha.len;have fW:=kc vs.toArray fn.ntmps (by simp only[List.size_toArray];rw[sV];exact Nat.le_of_ble_eq_true hl)
 have fD:∀(j:Nat) v,vs[j]?=some v->Act.get { tmps:=vs.toArray++Array.replicate (fn.ntmps-vs.toArray.size) undef,defers:=[] } j=v:=fun j v hj=>kb (by simpa using hj)
 generalize ({ tmps:=vs.toArray++Array.replicate (fn.ntmps-vs.toArray.size) undef,defers:=[] }:Act)=a at fW fD |-;have fX:=N8 (a:=a) (i:=0) (j:=0) f9 (by omega) ha (fun k=>by rw[Nat.zero_add]) (fun j v hj=>by rw[Nat.zero_add];exact fD j v hj)
 have hι:∀k e,look (Jg fs.io fs.ps x 0 0).2 k=some e->∃b,bl[k]?=some b/\X.ι k=O b:=fun k e he=>by
  obtain⟨_,_,h2,_⟩:=fX.2 he;have:k<bl.length:=by omega
  exact⟨bl[k],by simp[this],(f9.U k bl[k] (by simp[this])).2⟩
 have hR:Rel F ⟨(Jg fs.io fs.ps x 0 0).1,(Jg fs.io fs.ps x 0 0).2,nbx fs.io+1,0⟩ a w:=by
  refine⟨X,rfl,rfl,rfl,rfl,rfl,hO,fW,⟨rfl,rfl,rfl,zLT _,fun _ _ _=>rfl,hO,fun _ _ _=>rfl,fun _ _ h=>h,fun b hb=>.inl hb⟩,fun t e he _=>(fX.1 he).2,fun k e he=>(fX.2 he).2.2.2,fun t e he=>(by rw[(fX.1 he).1];exact Nat.succ_pos _),fun k e he=>(by obtain⟨h1,_,h2,_⟩:=fX.2 he;exact⟨by rw[h1];exact Nat.succ_pos _,show k<nbx fs.io+1 by omega⟩),fun k k' e e' he he' _ _ fH=>?_,fun k e he _=>?_,Nat.zero_le _,Nat.succ_pos _,fun _ _ h=>h.elim,⟨show bl.length<=nbx fs.io+1 by omega,fun j b hj=>(f9.U j b hj).1⟩,Exx.no nS rfl⟩
  ·obtain⟨b,h1,h2⟩:=hι k e he
   obtain⟨b',h3,h4⟩:=hι k' e' he';rw[h2,h4]at fH;have hp:=List.pairwise_iff_getElem.1 hpw
   obtain⟨l1,h5⟩:=zLX.1 h1;obtain⟨l2,h6⟩:=zLX.1 h3;rcases Nat.lt_trichotomy k k' with gF|heq'|gF
   ·exact zLh fH.symm (by have:=hp k k' l1 l2 gF;rwa[h5,h6]at this)
   ·exact heq'
   ·exact zLh fH (by have:=hp k' k l2 l1 gF;rwa[h5,h6]at this)
  ·obtain⟨b,h1,h2⟩:=hι k e he
   rw[h2];exact⟨(hblO b (zLW h1)).1,eC b (zLW h1)⟩
 have xT:∀F' s' a' w',F.To F'->Rel F' s' a' w'->(rtM E fs.io fs.ps fs.rs fn.results.toList s').run n=some y->LeavesInM Fence.wide 0 P fn a'.tmps (fun e w'=>∃v rs,e=.returned v/\kP rs v/\fs.rs.args P O w' rs y.2/\ButL bl w w'/\D4 P O w' fs.io fs.ps bl y.1) a'.defers .returning w':=by
  intro F' s' a' w' hT h' hr;refine leaves hT rfl (fun _ _ h=>h) (zLT _) h' fun q n' ep' w' hX'=>?_
  obtain⟨X',hX'⟩:=hX';have hs:=hT.same
  have hP:X'.P=P:=hX'.P.trans hs.P;have hE':E.ok X'.P:=by rw[hP];exact hE
  unfold rtM at hr;split at hr
  ·rename_i m hm'
   split at hr
   ·rename_i y' x' t6 hy' hx'
    have e:=run_pure hr;subst e;obtain⟨vs',g1,g2,g3⟩:=Xk hE' hX' (Jc hm' t6);obtain⟨v,g4,g5⟩:=kZ g1;rw[hP]at g4;have hB:=hX'.base
    change Base F'.A F'.O0 F'.w0 _ _ at hB
    rw[hs.A,hs.O0,hs.w0]at hB;have xD:=uX hE'.G hX' hy' g2 fun i φ u hi hu=>⟨g3 i φ u hi hu,kS t6 φ (zLW hi)⟩
    change Y0 _ F'.O0 F'.w0.heap.size _ _ _ _ _ at xD
    rw[hP,hs.O0,hs.w0]at xD;refine⟨v,g4,v,vs',rfl,g5,XF (O:=O) (B:=w.heap.size) (fun b hb=>hO b hb) xD,⟨hB.os,hB.tape,hB.output,hB.size,fun b hb hn=>hB.block b hb fun hA=>hA.elim (fun h=>zLh h (Nat.not_le.2 hb)) hn⟩,?_⟩
    have hU:∀(j:Nat) b,bl[j]?=some b->X'.U j=.pointer (some ⟨b,0,none⟩):=by
     have:=hX'.bl.2
     change ∀(j:Nat) b,F'.bl[j]?=some b->_ at this
     rw[hs.bl]at this;exact this
    have:=VI (E:=E) hE'.G hX' hU (io:=fs.io) (ps:=fs.ps) (bl:=bl) (w0:=w) (vs:=vs) (x:=x) (j:=0) (by rw[hP];show MIn P F'.O0 w fs.io fs.ps bl vs x;rw[hs.O0];exact ha) (fun k=>by rw[Nat.zero_add]) hx'
    change D4 _ F'.O0 _ _ _ _ _ at this
    rwa[hP,hs.O0]at this
   ·cases hr
  ·cases hr
 exact Yl c (F:=F) hm (fun _ _ h=>h) hE hc (.inl ⟨rfl,rfl⟩) rfl hR (Inv.refl _) hy ⟨fun F' s' a' w' h0 h1 _ h2=>xT F' s' a' w' h0 h1 h2,fun i _ F' s' a' w' _ _ _ h2=>(nomatch h2),fun F' s' a' w' h0 h1 _ h2=>xT F' s' a' w' h0 h1 h2,fun F' s' a' _ w' _ _ _ h2=>(nomatch h2)⟩
def rtO(E:VE)(e:Ty)(T:TypeId)(l:List ResultVar)(s:S):Comp (List e.D):=match lH E s l with
 |some [φ]=>match Xs s.M φ with
  |some p=>match Nat.beq p.2.2.1 T,zEn p.2.2.2.2 (.sl e) with
   |true,some ys=>Comp.pure ys
   |_,_=>Comp.fail
  |none=>Comp.fail
 |_=>Comp.fail
def Rm(E:VE)(c:Code)(h:H)(l:List ResultVar)(e:Ty)(T:TypeId)(ps:Ty)(xs:List e.D)(z:ps.D):Comp (List e.D) :=
 den E c (List e.D) h ⟨(0,0,.ob 0)::Yd ps z 1,[(0,0,.sl false e T xs)],1,0⟩ (rtO E e T l) (fun _ _=>Comp.fail) (rtO E e T l)
theorem zEE{P:Program}{E:VE}(hE:E.ok P)(hm:P.follows .mixedOrders=true){f:FuncId}{fn:Func}{c:Code}{h:H}{fs:FO}(hF:FnOk P f)(hf:P.funcs[f]?=some fn)(hb:fn.body=some c)(hc:okC fn.ntmps c=true)(hl:Nat.ble (fs.ps.len+1) fn.ntmps=true)(xN:fs.ret=true)
  (hs:∀xs z,Rm E c h fn.results.toList fs.e fs.T fs.ps xs z=fs.sem xs z):fs.ok P f:=by
 refine⟨hF,fun O w hO u xs ha vs z hz n ys hy=>?_⟩
 rw[<-hs xs z]at hy;obtain⟨O',hB,hOw,sN⟩:=NQ hO ha;have hz':=fs.ps.wP P sN hz
 have sV:=Z2 hz;refine callsIn_wide.1 (callsIn_of_wp_marks (n:=0) hf hb trivial ?_);have fW:=kc (u::vs).toArray fn.ntmps (by simp only[List.size_toArray,zLZ];rw[sV];exact Nat.le_of_ble_eq_true hl)
 have fD:∀(j:Nat) v,(u::vs)[j]?=some v->Act.get { tmps:=(u::vs).toArray++Array.replicate (fn.ntmps-(u::vs).toArray.size) undef,defers:=[] } j=v:=fun j v hj=>kb (by simpa using hj)
 generalize ({ tmps:=(u::vs).toArray++Array.replicate (fn.ntmps-(u::vs).toArray.size) undef,defers:=[] }:Act)=a at fW fD |-
 let F:Frm:=⟨P,fn.ntmps,[],FrS w u,O,w,fun _ _=>False,0,[],FrX.no 2 O' w⟩
 let X:Cx:=⟨P,O',fun _=>u,1,fun _=>1,FrS w u,Go.Lift.Fr w,0,0⟩
 have fX:=fun {t e}=>Z0 (X:=X) (a:=a) (i:=1) rfl rfl hz' (fun j v hj=>by rw[Nat.add_comm];exact fD (j+1) v (by simpa using hj)) (u:=t) (e:=e)
 have hR:Rel F ⟨(0,0,.ob 0)::Yd fs.ps z 1,[(0,0,.sl false fs.e fs.T xs)],1,0⟩ a w:=by
  refine⟨X,rfl,rfl,rfl,rfl,rfl,hO,fW,hB,fun t e he _=>?_,fun k e he=>?_,fun t e he=>?_,fun k e he=>?_,fun k k' e e' he he' _ _ _=>?_,fun k e he _=>⟨Nat.one_ne_zero,show 1≠2 by decide⟩,Nat.zero_le _,Nat.zero_lt_one,fun _ _ h=>h.elim,⟨Nat.zero_le _,fun j b hj=>(nomatch hj)⟩,Exx.no (show 2≠0 by decide) rfl⟩
  ·rcases zD he with ⟨rfl,rfl⟩|⟨_,he⟩
   ·have hg:a.get 0=u:=fD 0 u rfl
    rw[hg];exact⟨rfl,Nat.zero_lt_one,ZG hOw⟩
   ·exact(fX he).2
  ·rcases zD he with ⟨rfl,rfl⟩|⟨_,he⟩
   ·exact hOw
   ·cases he
  ·rcases zD he with ⟨rfl,rfl⟩|⟨_,he⟩
   ·exact Nat.zero_lt_one
   ·rw[(fX he).1];exact Nat.zero_lt_one
  ·rcases zD he with ⟨rfl,rfl⟩|⟨_,he⟩
   ·exact⟨Nat.zero_lt_one,Nat.zero_lt_one⟩
   ·cases he
  ·rcases zD he with ⟨rfl,rfl⟩|⟨_,he⟩
   ·rcases zD he' with ⟨rfl,rfl⟩|⟨_,he'⟩
    ·rfl
    ·cases he'
   ·cases he
 have xT:∀F' s' a' w',F.To F'->Rel F' s' a' w'->(rtO E fs.e fs.T fn.results.toList s').run n=some ys->LeavesInM Fence.wide 0 P fn a'.tmps (AG (fs.e.gr P) fs.T O w u ys (zEp fs.ret u)) a'.defers .returning w':=by
  intro F' s' a' w' hT h' hr;refine leaves hT rfl (fun _ _ h=>h) (zLT _) h' fun q n' ep' w' hX'=>?_
  obtain⟨X',hX'⟩:=hX';have hs:=hT.same
  have hP:X'.P=P:=hX'.P.trans hs.P;have hE':E.ok X'.P:=by rw[hP];exact hE
  unfold rtO at hr;split at hr
  ·rename_i φ hm'
   split at hr
   ·rename_i p hp
    split at hr
    ·rename_i ys' hT2 sP
     have e:=run_pure hr;subst e;have t6:Zp [φ]=true:=by
      unfold Xs at hp;split at hp
      ·rfl
      ·cases hp
     obtain⟨vs',g1,g2,g3⟩:=Xk hE' hX' (Jc hm' t6);obtain⟨v,g4,g5⟩:=kZ g1;rw[hP]at g4;refine⟨v,g4,?_⟩
     match vs',g2 with
     | [v1],_ =>
      have hv:v=v1:=by
       rcases g5 with g5|g5
       ·cases g5
       ·exact g5
      subst hv;have k1:=g3 0 φ v rfl rfl
      obtain⟨e0,f1,f2,f3,f4⟩:=wy hX'.m k1 hp;obtain⟨ee,ee2⟩:=Ty.jL sP;rw[zLQ hT2]at f3;have f5:=BR ee ee2 f3
      rw[hP]at f5;have fC:=hX'.pos p.1 e0 f1 (by rw[f2];rfl)
      have hB:=hX'.base;have t8:=(hX'.okB p.2.1).sub
      change Base F'.A F'.O0 F'.w0 _ _ at hB
      change ∀g,_->F'.A g at t8
      rw[hs.A,hs.O0,hs.w0]at hB;rw[hs.A]at t8;refine U2 hB (zo.zHz f5 fun g hg=>t8 g hg) fC.1 ?_
      rw[xN];exact rfl
    ·cases hr
   ·cases hr
  ·cases hr
 exact Yl c (F:=F) hm (fun _ _ h=>h) hE hc (.inl ⟨rfl,rfl⟩) rfl hR (Inv.refl _) hy ⟨fun F' s' a' w' h0 h1 _ h2=>xT F' s' a' w' h0 h1 h2,fun i _ F' s' a' w' _ _ _ h2=>(nomatch h2),fun F' s' a' w' h0 h1 _ h2=>xT F' s' a' w' h0 h1 h2,fun F' s' a' _ w' _ _ _ h2=>(nomatch h2)⟩
def Rn(E:VE)(c:Code)(h:H)(l:List ResultVar)(ps rs:Ty)(rk:List (Option TypeId))(x:ps.D):Comp rs.D :=
 den E c rs.D h ⟨(0,0,.ex (.slice none 0 0))::Yd ps x 1,[],1,0⟩ (rtF E rk rs l) (fun _ _=>Comp.fail) (rtF E rk rs l)
theorem zEF{P:Program}{E:VE}(hE:E.ok P)(hm:P.follows .mixedOrders=true){f:FuncId}{fn:Func}{c:Code}{h:H}{fs:FS}(hF:FnOk P f)(hf:P.funcs[f]?=some fn)(hb:fn.body=some c)(hc:okC fn.ntmps c=true)(hl:Nat.ble (fs.ps.len+1) fn.ntmps=true)
  (hs:∀x,Rn E c h fn.results.toList fs.ps fs.rs fs.rk x=fs.sem x):fs.okN P f:=by
 refine⟨hF,fun O w hO vs x ha n y hy=>?_⟩
 rw[<-hs x]at hy;have fW:=kc (.slice none 0 0::vs).toArray fn.ntmps (by have:=Z2 ha;simp only[List.size_toArray,zLZ];rw[this];exact Nat.le_of_ble_eq_true hl)
 have fD:∀(j:Nat) v,(Value.slice none 0 0::vs)[j]?=some v->Act.get { tmps:=(Value.slice none 0 0::vs).toArray++Array.replicate (fn.ntmps-(Value.slice none 0 0::vs).toArray.size) undef,defers:=[] } j=v:=fun j v hj=>kb (by simpa using hj)
 refine callsIn_wide.1 (callsIn_of_wp_marks (n:=0) hf hb trivial ?_);generalize ({ tmps:=(Value.slice none 0 0::vs).toArray++Array.replicate (fn.ntmps-(Value.slice none 0 0::vs).toArray.size) undef,defers:=[] }:Act)=a at fW fD |-
 let F:Frm:=⟨P,fn.ntmps,[],Go.Lift.Fr w,O,w,fun _ _=>False,0,[],FrX.no 1 O w⟩
 let X:Cx:=⟨P,O,fun _=>.nilIface,1,fun k=>k,Go.Lift.Fr w,Go.Lift.Fr w,0,0⟩
 have hR:Rel F ⟨(0,0,.ex (.slice none 0 0))::Yd fs.ps x 1,[],1,0⟩ a w:=by
  have fX:=fun {u e}=>Z0 (X:=X) (a:=a) (i:=1) rfl rfl ha (fun j v hj=>by rw[Nat.add_comm];exact fD (j+1) v (by simpa using hj)) (u:=u) (e:=e)
  refine⟨X,rfl,rfl,rfl,rfl,rfl,hO,fW,Base.start hO,fun t e he _=>(by rcases zD he with ⟨rfl,rfl⟩|⟨_,he⟩;exact fD 0 _ (by simp);exact(fX he).2),fun k e he=>(nomatch he),fun t e he=>(by rcases zD he with ⟨rfl,rfl⟩|⟨_,he⟩;exact Nat.zero_lt_one;rw[(fX he).1];exact Nat.zero_lt_one),fun k e he=>(nomatch he),fun k k' e e' he=>(nomatch he),fun k e he=>(nomatch he),Nat.zero_le _,Nat.zero_lt_one,fun _ _ h=>h.elim,⟨Nat.zero_le _,fun j b hj=>(nomatch hj)⟩,Exx.no Nat.one_ne_zero rfl⟩
 have xT:∀F' s' a' w',F.To F'->Rel F' s' a' w'->(rtF E fs.rk fs.rs fn.results.toList s').run n=some y->LeavesInM Fence.wide 0 P fn a'.tmps (fun e w'=>∃v,e=.returned v/\Ext w w'/\∃rs,kP rs v/\Y0 P O w.heap.size w' fs.rk fs.rs rs y) a'.defers .returning w':=by
  intro F' s' a' w' hT h' hr;refine leaves hT rfl (fun _ _ h=>h) (zLT _) h' fun q n' ep' w' hX'=>?_
  obtain⟨X',hX'⟩:=hX';have hs:=hT.same
  have hP:X'.P=P:=hX'.P.trans hs.P;have hE':E.ok X'.P:=by rw[hP];exact hE
  unfold rtF at hr;split at hr
  ·rename_i m hm'
   split at hr
   ·rename_i y' t6 hy'
    have e:=run_pure hr;subst e;obtain⟨vs',g1,g2,g3⟩:=Xk hE' hX' (Jc hm' t6);obtain⟨v,g4,g5⟩:=kZ g1;rw[hP]at g4;refine⟨v,g4,v,rfl,?_,vs',g5,?_⟩
    ·have:=hX'.base
     change Base F'.A F'.O0 F'.w0 _ _ at this
     rw[hs.A,hs.O0,hs.w0]at this;exact this.ext
    ·have:=uX hE'.G hX' hy' g2 fun i φ u hi hu=>⟨g3 i φ u hi hu,kS t6 φ (zLW hi)⟩
     change Y0 _ F'.O0 F'.w0.heap.size _ _ _ _ _ at this
     rwa[hP,hs.O0,hs.w0]at this
   ·cases hr
  ·cases hr
 exact Yl c (F:=F) hm (fun _ _ h=>h) hE hc (.inl ⟨rfl,rfl⟩) rfl hR (Inv.refl _) hy ⟨fun F' s' a' w' h0 h1 _ h2=>xT F' s' a' w' h0 h1 h2,fun i _ F' s' a' w' _ _ _ h2=>(nomatch h2),fun F' s' a' w' h0 h1 _ h2=>xT F' s' a' w' h0 h1 h2,fun F' s' a' _ w' _ _ _ h2=>(nomatch h2)⟩
end Go.Den
end
noncomputable section
namespace Go.Den
open Go Go.RowKit Go.Eng Go.Lift
variable {α β γ δ σ ε τ:Type}
def tell(ys:List τ)(c:Comp (List τ×β)):Comp (List τ×β):=c.bind fun p=>Comp.pure (ys++p.1,p.2)
theorem BF{ys zs:List τ}{c:Comp (List τ×β)}{n:Nat}{y:β}(h:(tell ys c).run n=some (zs,y)):∃zs',c.run n=some (zs',y)/\zs=ys++zs':=by
 obtain⟨p,h1,h2⟩:=run_bind h;have:=run_pure h2
 cases this
 exact⟨p.1,h1,rfl⟩
def kL(body:σ->Comp (List τ×Comp.Step σ ε))(n:Nat):Nat->σ->Option (List τ×ε)
 |0,_=>none
 |k+1,s=>match (body s).run n with
  |none=>none
  |some (ys,.next s')=>match kL body n k s' with
   |some p=>some (ys++p.1,p.2)
   |none=>none
  |some (ys,.done e)=>some (ys,e)
theorem wa{body:σ->Comp (List τ×Comp.Step σ ε)}{n m:Nat}(xM:n<=m):∀ {k l:Nat} {s:σ} {e:List τ×ε},k<=l->kL body n k s=some e->kL body m l s=some e:=by
 intro k
 induction k with
 |zero=>intro l s e _ h;cases h
 |succ k ih =>
  intro l s e bP h;obtain⟨l,rfl⟩:∃l',l=l'+1:=⟨l-1,by omega⟩
  simp only[kL]at h |-
  cases hb:(body s).run n with
  |none=>rw[hb]at h;cases h
  |some x =>
   rw[(body s).mono xM hb];rw[hb]at h;obtain⟨ys,st⟩:=x
   cases st with
   |next s' =>
    simp only at h |-
    cases hl:kL body n k s' with
    |none=>rw[hl]at h;cases h
    |some p=>rw[hl]at h;rw[ih (by omega) hl];exact h
   |done e'=>exact h
def YC(body:σ->Comp (List τ×Comp.Step σ ε))(s:σ):Comp (List τ×ε):=⟨fun n=>kL body n n s,fun xM h=>wa xM xM h⟩
theorem Ag{body:σ->Comp (List τ×Comp.Step σ ε)}{s:σ}{n m:Nat}{ys:List τ}{e:ε}(h:kL body n m s=some (ys,e)) :
  ∃m',m'<m/\∃zs st,(body s).run n=some (zs,st)/\(∀s',st=.next s'->∃zs',kL body n m' s'=some (zs',e)/\ys=zs++zs')/\(∀e',st=.done e'->e'=e/\ys=zs):=by
 cases m with
 |zero=>cases h
 |succ k =>
  simp only[kL]at h
  cases hb:(body s).run n with
  |none=>rw[hb]at h;cases h
  |some x =>
   rw[hb]at h;obtain⟨zs,st⟩:=x;refine⟨k,by omega,zs,st,rfl,fun s' hs=>?_,fun e' he=>?_⟩
   ·subst hs
    simp only at h
    cases hl:kL body n k s' with
    |none=>rw[hl]at h;cases h
    |some p=>rw[hl]at h;cases h;exact⟨p.1,rfl,rfl⟩
   ·subst he;cases h;exact⟨rfl,rfl⟩
def Hi(n:Nat):MS->MS
 | []=>[]
 |e::M=>(match e.2.2 with
  |.sl true t T xs=>(e.1,n,.fs t xs)
  |.mp true a b xs=>(e.1,n,.fm a b xs)
  |.fs .. | .fb .. | .fm ..=>e
  |_=>(e.1,n,.dead))::Hi n M
theorem YT:∀ {n:Nat} {M:MS} {k:Nat} {e:Nat×MV},look (Hi n M) k=some e->(look M k=some e/\e.2.own=false/\look (frz M) k=some e)\/(e.1=n/\e.2.own=false/\∃m,look (frz M) k=some (m,e.2))
 |n,[],k,e,h=>by cases h
 |n,f::M,k,e,h=>by
  obtain⟨k0,st,m⟩:=f;have rest:∀ {x:Nat×MV},look ((k0,x)::Hi n M) k=some e->k0≠k->look (Hi n M) k=some e:=fun {x} h hn=>by
   rcases zD h with ⟨h1,_⟩|⟨_,h2⟩
   ·exact zLh h1 hn
   ·exact h2
  by_cases hk:k0=k
  ·subst hk
   cases m with
   |sl nw t T xs =>
    cases nw with
    |true =>
     rcases zD h with ⟨_,h2⟩|⟨h1,_⟩
     ·subst h2;exact .inr ⟨rfl,rfl,st,by simp[frz,look,zU,Z6]⟩
     ·exact zLh rfl h1
    |false =>
     rcases zD h with ⟨_,h2⟩|⟨h1,_⟩
     ·subst h2;exact .inr ⟨rfl,rfl,st,by simp[frz,look,zU,Z6]⟩
     ·exact zLh rfl h1
   |fs t xs =>
    rcases zD h with ⟨_,h2⟩|⟨h1,_⟩
    ·subst h2;exact .inl ⟨by simp[look,zU],rfl,by simp[frz,look,zU,Z6]⟩
    ·exact zLh rfl h1
   |fb t x =>
    rcases zD h with ⟨_,h2⟩|⟨h1,_⟩
    ·subst h2;exact .inl ⟨by simp[look,zU],rfl,by simp[frz,look,zU,Z6]⟩
    ·exact zLh rfl h1
   |mp nw a b xs =>
    cases nw with
    |true =>
     rcases zD h with ⟨_,h2⟩|⟨h1,_⟩
     ·subst h2;exact .inr ⟨rfl,rfl,st,by simp[frz,look,zU,Z6]⟩
     ·exact zLh rfl h1
    |false =>
     rcases zD h with ⟨_,h2⟩|⟨h1,_⟩
     ·subst h2;exact .inr ⟨rfl,rfl,st,by simp[frz,look,zU,Z6]⟩
     ·exact zLh rfl h1
   |fm a b xs =>
    rcases zD h with ⟨_,h2⟩|⟨h1,_⟩
    ·subst h2;exact .inl ⟨by simp[look,zU],rfl,by simp[frz,look,zU,Z6]⟩
    ·exact zLh rfl h1
   |bx nw c T =>
    rcases zD h with ⟨_,h2⟩|⟨h1,_⟩
    ·subst h2;exact .inr ⟨rfl,rfl,st,by simp[frz,look,zU,Z6]⟩
    ·exact zLh rfl h1
   |fg f =>
    rcases zD h with ⟨_,h2⟩|⟨h1,_⟩
    ·subst h2;exact .inr ⟨rfl,rfl,st,by simp[frz,look,zU,Z6]⟩
    ·exact zLh rfl h1
   |dead =>
    rcases zD h with ⟨_,h2⟩|⟨h1,_⟩
    ·subst h2;exact .inr ⟨rfl,rfl,st,by simp[frz,look,zU,Z6]⟩
    ·exact zLh rfl h1
  ·have hb:Nat.beq k0 k=false:=by rw[zU];simpa using hk
   have h':look (Hi n M) k=some e:=by
    simp only[Hi]at h
    cases m with
    |sl nw t T xs=>cases nw<;>exact rest h hk
    |mp nw a b xs=>cases nw<;>exact rest h hk
    |_=>exact rest h hk
   rcases YT h' with ⟨g1,g2,g3⟩|⟨g1,g2,m',g3⟩
   ·exact .inl ⟨by simp only[look,hb];exact g1,g2,by simp only[frz,look,hb];exact g3⟩
   ·exact .inr ⟨g1,g2,m',by simp only[frz,look,hb];exact g3⟩
theorem MV.zHW{X X':Cx}{w w':World}{k:Nat}(hX:X.le w X' w')(hk:k<X.n)(m:MV)(h1:m.own=false)(h:m.holds X w k):m.holds X' w' k:=by
 cases m with
 |sl nw t T xs=>cases h1
 |bx nw c T=>cases h1
 |fs t xs =>
  show (rSl _).v _ _ _ _
  rw[hX.U k hk,hX.P];exact GR.y7 _ h hX.k
 |fb t x =>
  show (KI _).v _ _ _ _
  rw[hX.U k hk,hX.P];exact GR.y7 _ h hX.k
 |fg f =>
  intro t x hx;rw[hX.U k hk,hX.P];exact GR.y7 _ (h t x hx) hX.k
 |mp nw a b xs=>cases h1
 |fm a b xs =>
  show ((Ty.mp a b).gr X'.P).v _ _ _ _
  rw[hX.U k hk,hX.P];exact GR.y7 _ h hX.k
 |dead=>trivial
def S.yl(s:S)(d:Option Tmp)(b:Bool):S:={ L:=(match d with|some d=>(d,s.n,.rd .bool b)::s.L|none=>s.L),M:=Hi s.n s.M,n:=s.n+1,ep:=s.n }
theorem Inv.yl(s:S)(d:Option Tmp)(b:Bool):Inv s (s.yl d b):=by
 refine⟨zLc _,?_,fun k e he hl=>?_⟩
 ·cases d with
  |none=>exact ya
  |some d=>exact vZ ya
 ·rcases YT he with ⟨g1,_⟩|⟨g1,_⟩
  ·exact g1
  ·omega
abbrev Frm.reb(F:Frm)(O:zR)(w:World):Frm:={ F with O0:=O,w0:=w,A:=Go.Lift.Fr w,x:={ F.x with sO:=O,sw:=w,sb:=w.heap.size } }
structure GenI(P:Program)(L:Nat)(a:Ho α)(xs:List α)(J:List α->zR->World->Prop)(Jx:zR->World->Prop):Prop where
 ext:∀pre O1 w1 w2,J pre O1 w1->Ext w1 w2->J pre O1 w2
 extx:∀O1 w1 w2,Jx O1 w1->Ext w1 w2->Jx O1 w2
 ok:∀pre O1 w1,J pre O1 w1->OkO O1 w1
 okx:∀O1 w1,Jx O1 w1->OkO O1 w1
 y:∀pre d post O1 w1 vs,xs=pre++d::post->J pre O1 w1->a O1 w1 vs d->zIC P L vs.toArray w1 fun b w2=>∃O2,zb 0 O1 w1 O2 w2/\match b with
  |true=>J (pre++[d]) O2 w2
  |false=>Jx O2 w2
structure GenF(F:Frm):Prop where
 D:F.D=[]
 Lh:∀t φ,¬F.Lh t φ
 bl:F.bl=[]
 fe:F.fe=0
 st:F.x.st≠0
 sys:∀b o,¬F.x.sys b o
 kv:∀v φ,¬F.x.kv v φ
 rd:F.x.rd=none
 nr:F.x.nr=true
section
variable {F:Frm} {E:VE} {t:Ty} {xs:List t.D} {J:List t.D->zR->World->Prop} {Jx:zR->World->Prop}
theorem Ql(hF:GenF F){O1 O2:zR}{w1 w w2:World}{s:S}{a:Act}(h:Rel (F.reb O1 w1) s a w)(hk:zb 0 O1 w O2 w2)(hO2:OkO O2 w2){d:Option Tmp}(hd:F.dst d)(b:Bool):Rel (F.reb O2 w2) (s.yl d b) (a.put d (.bool b)) w2:=by
 obtain⟨X,hX⟩:=h;have tP:=hX.qk
 let X2:Cx:={ X with O:=O2,A:=Go.Lift.Fr w2,F:=Go.Lift.Fr w2,n:=s.n+1,ep:=s.n }
 have b8:(X.out (F.reb O1 w1)).le w X2 w2:=⟨rfl,hk,fun _ _=>rfl,by show X.n<=s.n+1;rw[hX.n];exact zLc _,rfl⟩
 have old:∀t e,look s.L t=some e->e.2.zg=false->e.2.holds X2 w2 (a.get t):=fun t e he hf=>e.2.le hf b8 (e.2.le hf tP (hX.l t e he (by simp[fresh,hf])))
 have fY:∀ {e:Nat×AV},fresh s.n e=true->e.1<s.n->e.2.zg=false:=fun {e} hf hl=>by
  cases fY:e.2.zg with
  |false=>rfl
  |true =>
   simp only[fresh,fY,Bool.not_true,Bool.false_or]at hf;rw[je]at hf;have hf':s.n<=e.1:=of_decide_eq_true hf
   omega
 have hMo:=hX.Hx;have aK:∀t e,look (s.yl d b).L t=some e->(d=some t/\e=(s.n,.rd .bool b))\/(d≠some t/\look s.L t=some e):=fun t e he=>by
  cases d with
  |none=>exact .inr ⟨by simp,he⟩
  |some d =>
   rcases zD he with ⟨h1,h2⟩|⟨h1,h2⟩
   ·exact .inl ⟨by rw[h1],h2.symm⟩
   ·exact .inr ⟨by simpa using h1,h2⟩
 refine⟨X2,hX.P,rfl,rfl,rfl,rfl,hO2,ZH hX.fit _ _,Base.start hO2,fun t e he hf=>?_,fun k e he=>?_,fun t e he=>?_,fun k e he=>?_,fun k k' e e' he he' ho=>?_,fun k e he ho=>?_,zLc _,by show F.fe<s.n+1;rw[hF.fe];exact Nat.succ_pos _,fun t φ hp=>zLh hp (hF.Lh t φ),⟨by show F.bl.length<=_;rw[hF.bl];exact Nat.zero_le _,fun j b hj=>by rw[show (F.reb O2 w2).bl=[] from hF.bl]at hj;cases hj⟩,
  ⟨hF.st,fun b o hs=>zLh hs (hF.sys b o),fun v φ hv=>zLh hv (hF.kv v φ),zb.refl _ _ _,hX.ex.L⟩⟩
 ·rcases aK t e he with ⟨h1,h2⟩|⟨h1,h2⟩
  ·subst h2
   subst h1;rw[yV hX.fit (hd t rfl).1];exact j6.2 rfl
  ·rw[jN h1]
   exact old t e h2 (fY hf (hX.ln t e h2))
 ·rcases YT he with ⟨_,g2,g3⟩|⟨_,g2,m',g3⟩
  ·obtain⟨m,g4,_⟩:=JC g3
   exact MV.zHW b8 (by show k<X.n;rw[hX.n];exact(hX.mn k _ g4).2) _ g2 (hMo k e g3)
  ·obtain⟨m,g4,_⟩:=JC g3
   exact MV.zHW b8 (by show k<X.n;rw[hX.n];exact(hX.mn k _ g4).2) e.2 g2 (hMo k (m',e.2) g3)
 ·rcases aK t e he with ⟨_,h2⟩|⟨_,h2⟩
  ·rw[h2];exact zLd _
  ·exact Nat.lt_succ_of_lt (hX.ln t e h2)
 ·rcases YT he with ⟨g1,_⟩|⟨g1,_,m',g3⟩
  ·have:=hX.mn k e g1;exact⟨Nat.lt_succ_of_lt this.1,Nat.lt_succ_of_lt this.2⟩
  ·obtain⟨m,g4,_⟩:=JC g3
   exact⟨by rw[g1];exact zLd _,Nat.lt_succ_of_lt (hX.mn k _ g4).2⟩
 ·rcases YT he with ⟨_,g2,_⟩|⟨_,g2,_⟩<;>(rw[ho]at g2;cases g2)
 ·rcases YT he with ⟨_,g2,_⟩|⟨_,g2,_⟩<;>(rw[ho]at g2;cases g2)
def Qm(s:S)(o:Oper):Option (List AV):=match o.op with
 |.call c=>match c.callee with
  |.value x=>match rdO s.ep s.L [] [] x with
   |some .yl=>jB (rdO s.ep s.L [] []) c.args.toList
   |_=>none
  |_=>none
 |_=>none
def nD(E:VE)(t:Ty)(wr:List Nat)(s:S)(o:Oper)(z:S->Comp Unit)(k:S->Comp (List t.D×β)):Comp (List t.D×β):=match Qm s o with
 |some l=>match Zp l,Xf (l.map (fun φ=>φ.asT E.G (frz s.M))) t with
  |true,some x=>(z (s.yl o.dst false)).bind fun _=>tell [x] (k (s.yl o.dst true))
  |_,_=>Comp.fail
 |none=>step E wr s o k
def YH(E:VE)(t:Ty)(wr:List Nat)(all:List Oper)(z:S->Comp Unit)(k:S->Comp (List t.D×β)):List Oper->S->Comp (List t.D×β)
 | [],s=>k s
 |o::os,s=>match o.guard with
  |none=>nD E t wr s o (Zv E wr all z os) (YH E t wr all z k os)
  |some g=>match nT all g.1 with
   |none=>Comp.fail
   |some u=>match rdO s.ep s.L [] [] (.tmp u) with
    |none=>Comp.fail
    |some φ=>match exG φ with
     |some b=>match p8 b g.2 with
      |true=>nD E t wr s o (Zv E wr all z os) (YH E t wr all z k os)
      |false=>YH E t wr all z k os (s.put o.dst (.ex undef))
     |none=>match φ.bool? with
      |none=>Comp.fail
      |some b=>if gB b g.2=true then nD E t wr (s.put (some u) (.ex (.bool g.2))) o (Zv E wr all z os) (YH E t wr all z k os) else YH E t wr all z k os ((s.put (some u) (.ex (.bool (ntB g.2)))).put o.dst (.ex undef))
structure Stp where
 k:S->Comp Unit
 ex:Nat->S->Comp Unit
 rt:S->Comp Unit
def AV.cb:AV->Option Bool
 |.rd .bool b=>some b
 |.ex (.bool b)=>some b
 |_=>none
theorem WU{X:Cx}{w:World}{v:Value}{o:Option AV}{b:Bool}(h:o.bind AV.cb=some b)(hv:∀φ,o=some φ->φ.holds X w v):v=.bool b:=by
 cases o with
 |none=>cases h
 |some φ =>
  have k:=hv φ rfl;simp only[zLP]at h;unfold AV.cb at h;split at h
  ·cases h;exact j6.1 k
  ·cases h;exact k
  ·cases h
def JJ(E:VE)(t:Ty):Code->(β:Type)->H->S->(S->Comp (List t.D×β))->(Nat->S->Comp (List t.D×β))->(S->Comp (List t.D×β))->Stp->Comp (List t.D×β)
 |.skip,_,_,s,k,_,_,_=>k s
 |.label _,_,_,s,k,_,_,_=>k s
 |.region _ ops draw,_,h,s,k,_,_,z=>match h with
  |.f l h'=>match h' with
   |.y=>match draw with
    |false=>YH E t (wrS ops.toList) ops.toList z.k k ops.toList (s.Z6 E (qz s l))
    |true=>Comp.fail
   |h'=>Me E ops draw h' (s.Z6 E (qz s l)) k fun _=>Comp.fail
  |.y=>match draw with
   |false=>YH E t (wrS ops.toList) ops.toList z.k k ops.toList s
   |true=>Comp.fail
  |h=>Me E ops draw h s k fun _=>Comp.fail
 |.seq a b,β,h,s,k,ex,rt,z=>JJ E t a β h.l1 s (fun s'=>JJ E t b β h.l2 s' k ex rt z) ex rt ⟨fun s'=>den E b Unit h.l2 s' z.k (exF z.ex) z.rt,z.ex,z.rt⟩
 |.cond c x y,β,h,s,k,ex,rt,z=>match (rdO s.ep s.L [] [] c).bind AV.cb with
  |none=>Comp.fail
  |some b=>match h with
   |.j sh h1 h2=>jn (fun x=>k (sh.put s x)) fun j=>if b=true then JJ E t x β h1 s (fun s'=>goJ E.G sh s s' j) ex rt z else JJ E t y β h2 s (fun s'=>goJ E.G sh s s' j) ex rt z
   |h=>if b=true then JJ E t x β h.l1 s k ex rt z else JJ E t y β h.l2 s k ex rt z
 |.block id c,β,h,s,k,ex,rt,z=>match h with
  |.jb sh h1=>jn (fun x=>k (sh.put s x)) fun j=>JJ E t c β h1 s (fun s'=>goJ E.G sh s s' j) (fun i s'=>match Nat.beq i id with|true=>goJ E.G sh s s' j|false=>ex i s') rt ⟨z.k,fun i s'=>match Nat.beq i id with|true=>z.k s'|false=>z.ex i s',z.rt⟩
  |h=>JJ E t c β h.l1 s k (fun i s'=>match Nat.beq i id with|true=>k s'|false=>ex i s') rt ⟨z.k,fun i s'=>match Nat.beq i id with|true=>z.k s'|false=>z.ex i s',z.rt⟩
 |.loop c,β,h,s,k,ex,rt,z=>match h with
  |.l sh l h1=>match sh.get E.G s s with
   |none=>Comp.fail
   |some x0=>(YC (fun x=>JJ E t c (Comp.Step sh.D (ED l)) h1 (sh.put s x) (fun s'=>(J1 E.G sh s s').bind fun st=>Comp.pure ([],st)) (fun i s'=>(ZP E.G s l (some i) s').bind fun st=>Comp.pure ([],st)) (fun s'=>(ZP E.G s l none s').bind fun st=>Comp.pure ([],st)) ⟨fun _=>Comp.fail,z.ex,z.rt⟩) x0).bind fun p=>tell p.1 (Hf s ex rt l p.2)
  |_=>Comp.fail
 |.scope c,β,h,s,k,ex,rt,z=>JJ E t c β h.l1 s k ex rt z
 |.exit i,_,_,s,_,ex,_,_=>ex i s
 |.ret,_,_,s,_,_,rt,_=>rt s
 |_,_,_,_,_,_,_,_=>Comp.fail
structure WaysY(F:Frm)(J:List t.D->zR->World->Prop)(T:List t.D)(s0:S)(nf:Nat){β:Type}(y:β)(k:S->Comp (List t.D×β))(ex:Nat->S->Comp (List t.D×β))(rt:S->Comp (List t.D×β))(Q:Exit->Act->World->Prop):Prop where
 k:∀O1 w1 acc s' a' w' ys,J acc O1 w1->Rel (F.reb O1 w1) s' a' w'->Inv s0 s'->(k s').run nf=some (ys,y)->acc++ys=T->Q .normal a' w'
 ex:∀i O1 w1 acc s' a' w' ys,J acc O1 w1->Rel (F.reb O1 w1) s' a' w'->Inv s0 s'->(ex i s').run nf=some (ys,y)->acc++ys=T->Q (.exit i) a' w'
 rt:∀O1 w1 acc s' a' w' ys,J acc O1 w1->Rel (F.reb O1 w1) s' a' w'->Inv s0 s'->(rt s').run nf=some (ys,y)->acc++ys=T->Q .ret a' w'
structure WaysX(F:Frm)(Jx:zR->World->Prop)(s0:S)(nf:Nat)(z:Stp)(Q:Exit->Act->World->Prop):Prop where
 k:∀O1 w1 s' a' w',Jx O1 w1->Rel (F.reb O1 w1) s' a' w'->Inv s0 s'->(z.k s').run nf=some ()->Q .normal a' w'
 ex:∀i O1 w1 s' a' w',Jx O1 w1->Rel (F.reb O1 w1) s' a' w'->Inv s0 s'->(z.ex i s').run nf=some ()->Q (.exit i) a' w'
 rt:∀O1 w1 s' a' w',Jx O1 w1->Rel (F.reb O1 w1) s' a' w'->Inv s0 s'->(z.rt s').run nf=some ()->Q .ret a' w'
theorem WaysX.inv{F:Frm}{Jx:zR->World->Prop}{s0 s1:S}{nf:Nat}{z:Stp}{Q:Exit->Act->World->Prop}(h:WaysX F Jx s0 nf z Q)(hi:Inv s0 s1):WaysX F Jx s1 nf z Q :=
 ⟨fun O1 w1 s' a' w' h1 h2 h3=>h.k O1 w1 s' a' w' h1 h2 (hi.trans h3),fun i O1 w1 s' a' w' h1 h2 h3=>h.ex i O1 w1 s' a' w' h1 h2 (hi.trans h3),fun O1 w1 s' a' w' h1 h2 h3=>h.rt O1 w1 s' a' w' h1 h2 (hi.trans h3)⟩
theorem M6(hF:GenF F)(hE:E.ok F.P)(hG:GenI F.P F.x.Lp (t.args F.P) xs J Jx)(wr:List Nat){o:Oper}(ho:(∀c,o.op≠.defer c)/\F.dst o.dst){nf:Nat}{y:β}{Q:Exit->Act->World->Prop}{s:S}{a:Act}{w:World}{O1:zR}{w1:World}{acc ys T rest:List t.D}(hT:T++rest=xs){z:S->Comp Unit}{k:S->Comp (List t.D×β)}{K:Act->World->Prop}
  (hJ:J acc O1 w1) (h:Rel (F.reb O1 w1) s a w) (hr:(nD E t wr s o z k).run nf=some (ys,y)) (sF:acc++ys=T)
  (hK:∀O2 w2 acc' s' v w' ys',J acc' O2 w2->Rel (F.reb O2 w2) s' (a.put o.dst v) w'->Inv s s'->(k s').run nf=some (ys',y)->acc'++ys'=T->K (a.put o.dst v) w')
  (hZ:∀O2 w2 s' v w',Jx O2 w2->Rel (F.reb O2 w2) s' (a.put o.dst v) w'->Inv s s'->(z s').run nf=some ()->K (a.put o.dst v) w'):F.W Q o a w K:=by
 unfold nD at hr;split at hr
 ·rename_i l hl
  split at hr
  ·rename_i x t6 hx
   obtain⟨u,hu,hr⟩:=run_bind hr;obtain⟨ys',hr',sP⟩:=BF hr;obtain⟨X,hX⟩:=h;obtain⟨d,op,T,pos,aft,g⟩:=o;unfold Qm at hl;split at hl
   case h_2=>cases hl
   rename_i c xV;simp only at xV;subst xV;obtain⟨cal,cx,ts⟩:=c;split at hl
   case h_2=>cases hl
   rename_i f a8;simp only at a8;subst a8;split at hl
   case h_2=>cases hl
   rename_i hf;rw[<-hX.ep]at hf hl;have hfv:a.eval f=.func (.yield F.x.Lp) #[] #[]:=by
    have:=hX.rd #[f] f _ (by simp) hf
    rw[show a.eval f=_ from this,hX.ex.L]
   have kA:=jT hl;have fU:t.args X.P O1 w (cx.toList.map a.eval) x:=by
    refine kO (O:=(X.out (F.reb O1 w1)).O) hx (by simp[kA]) fun i f v hf hv t y hy=>?_
    rw[List.getElem?_map,Option.map_eq_some_iff]at hf hv;obtain⟨ψ,g1,rfl⟩:=hf;obtain⟨q,g2,rfl⟩:=hv;obtain⟨q',g3,g4⟩:=ZW hl i ψ g1;rw[g2]at g3;cases g3;have hψ:=hX.rd #[q] q ψ (by simp) g4
    have hnfψ:=kS t6 ψ (zLW g1);exact AV.Z1 (X:=X.out (F.reb O1 w1)) (by show FOk X.P E.G;rw[hX.P];exact hE.G) hX.Hx hy (ψ.le hnfψ hX.qk hψ)
   have hP:X.P=F.P:=hX.P;rw[hP]at fU;have hJw:=hG.ext acc O1 w1 w hJ hX.base.ext
   have hxs':xs=acc++x::(ys'++rest):=by rw[<-hT,<-sF,sP];simp
   obtain⟨fn,tm,iH,bd,q1,q2⟩:=hG.y acc x _ O1 w _ hxs' hJw fU;refine⟨fun _ _=>trivial,?_⟩
   rw[show (fw F.x.rd).round=none from hF.rd,Oper.semAt_none]
   have fI:(execOp a.eval ⟨d,.call ⟨.value f,cx,ts⟩,T,pos,aft,g⟩).run F.P w=.ok (.round F.x.Lp fn tm iH bd) w:=by
    have e:(cx.map a.eval)=(cx.toList.map a.eval).toArray:=by rw[<-Array.toList_map]
    simp[execOp,resolve,hfv,Deferred.ofValue,invoke,e,q1]
   rw[fI];have hfw:fw F.x.rd=Fence.wide:=by rw[hF.rd];rfl
   rw[hfw];refine⟨fun h=>by simp[Fence.wide]at h,RoundIn.mono q2 fun e w2 he=>?_⟩
   obtain⟨b,rfl,O2,hk,hb⟩:=he
   cases b with
   |true =>
    exact hK O2 w2 _ _ _ w2 ys' hb (Ql hF ⟨X,hX⟩ hk (hG.ok _ _ _ hb) ho.2 true) (Inv.yl _ _ _) hr' (by rw[<-sF,sP];simp)
   |false =>
    exact hZ O2 w2 _ _ w2 hb (Ql hF ⟨X,hX⟩ hk (hG.okx _ _ hb) ho.2 false) (Inv.yl _ _ _) hu
  ·cases hr
 ·exact jo ho.1 (Ki (F:=F.reb O1 w1) hE h wr o ho.2 nf _ hr K Q fun s' v w' g1 g2 g3=>hK O1 w1 acc s' v w' ys hJ g1 g2 g3 sF)
theorem K3(hF:GenF F)(hE:E.ok F.P)(hG:GenI F.P F.x.Lp (t.args F.P) xs J Jx)(wr:List Nat){all:List Oper}{nf:Nat}{y:β}{T rest:List t.D}(hT:T++rest=xs){Q:Exit->Act->World->Prop}{s0:S}{z:S->Comp Unit}{k:S->Comp (List t.D×β)}
  (hK:∀O2 w2 acc s' a' w' ys,J acc O2 w2->Rel (F.reb O2 w2) s' a' w'->Inv s0 s'->(k s').run nf=some (ys,y)->acc++ys=T->Q .normal a' w')
  (hZ:∀O2 w2 s' a' w',Jx O2 w2->Rel (F.reb O2 w2) s' a' w'->Inv s0 s'->(z s').run nf=some ()->Q .normal a' w'):∀ {os:List Oper} {s:S} {a:Act} {w:World} {O1:zR} {w1:World} {acc ys:List t.D},
  J acc O1 w1->Rel (F.reb O1 w1) s a w->Inv s0 s->(YH E t wr all z k os s).run nf=some (ys,y)->acc++ys=T->(∀o∈os,(∀c,o.op≠.defer c)/\F.dst o.dst)->vp (F.W Q) all.toArray (Q .normal) os a w
 | [],s,a,w,O1,w1,acc,ys,hJ,h,hi,hr,sF,_=>hK O1 w1 acc s a w ys hJ h hi hr sF
 |o::os,s,a,w,O1,w1,acc,ys,hJ,h,hi,hr,sF,ho=>by
  have h1:=ho o (by simp)
  have ho':∀o∈os,(∀c,o.op≠.defer c)/\F.dst o.dst:=fun o' ho'=>ho o' (by simp[ho'])
  have act:∀ {s:S},Rel (F.reb O1 w1) s a w->Inv s0 s->(nD E t wr s o (Zv E wr all z os) (YH E t wr all z k os)).run nf=some (ys,y)->Region.wanted o (yielded all.toArray a.tmps)=true->vp (F.W Q) all.toArray (Q .normal) (o::os) a w:=fun {s} h hi hr hw=>by
   simp only[vp,hw,if_true];refine M6 hF hE hG wr h1 hT hJ h hr sF (fun O2 w2 acc' s' v w' ys' g1 g2 g3 g4 g5=>?_) fun O2 w2 s' v w' g1 g2 g3 g4=>?_
   ·exact K3 hF hE hG wr hT hK hZ g1 g2 (hi.trans g3) g4 g5 ho'
   ·exact XM (F:=F.reb O2 w2) hE wr g2 (hi.trans g3) g4 ho' fun s2 a2 w3 e1 e2 e3=>hZ O2 w2 s2 a2 w3 g1 e1 e2 e3
  have off:∀ {s:S},Rel (F.reb O1 w1) s a w->Inv s0 s->(YH E t wr all z k os (s.put o.dst (.ex undef))).run nf=some (ys,y)->Region.wanted o (yielded all.toArray a.tmps)=false->vp (F.W Q) all.toArray (Q .normal) (o::os) a w:=fun {s} h hi hr hw=>by
   simp only[vp,hw,Bool.false_eq_true,if_false];exact K3 hF hE hG wr hT hK hZ hJ (h.skip h1.2) (hi.trans (Inv.put _ _ _)) hr sF ho'
  simp only[YH]at hr;split at hr
  ·rename_i hg
   exact act h hi hr (by simp[Region.wanted,hg])
  ·rename_i g hg
   have sI:Region.wanted o (yielded all.toArray a.tmps)=(yielded all.toArray a.tmps g.1 == some g.2):=by simp[Region.wanted,hg]
   split at hr
   ·cases hr
   ·rename_i u ht
    split at hr
    ·cases hr
    ·rename_i φ hφ
     obtain⟨X,hX⟩:=h;rw[<-hX.ep]at hφ;have hv:φ.holds X w (a.get u):=hX.rd #[.tmp u] (.tmp u) φ (by simp) hφ
     split at hr
     ·rename_i b hb
      have hy:yielded all.toArray a.tmps g.1=b:=by
       cases b with
       |none=>rw[B7 hb]at hv;exact Ji ht hv
       |some b=>rw[B6 hb]at hv;exact YD ht hv
      rw[hy]at sI;split at hr
      ·rename_i hw
       refine act ⟨X,hX⟩ hi hr ?_;rw[sI];unfold p8 at hw;split at hw<;>first|simp_all|cases hw
      ·rename_i hw
       refine off ⟨X,hX⟩ hi hr ?_;rw[sI]
       cases b with
       |none=>rfl
       |some b =>
        generalize g.2=v at hw;cases b<;>cases v<;>first|rfl|(simp[p8]at hw)
     ·split at hr
      ·cases hr
      ·rename_i b hb
       have nB:a.get u=.bool b:=by rw[AV.ZV hb]at hv;exact j6.1 hv
       have hy:=YD ht nB;rw[hy]at sI;split at hr
       ·rename_i dJ
        have e:=Ri.1 dJ;refine act (Rel.Xp hX (φ:=.ex (.bool g.2)) fun X' _=>(by rw[nB,e];exact rfl)) (hi.trans (Inv.put _ _ _)) hr ?_
        rw[sI,e];simp
       ·rename_i dJ
        have e:=RW dJ;refine off (Rel.Xp hX (φ:=.ex (.bool (ntB g.2))) fun X' _=>(by rw[nB,e];exact rfl)) (hi.trans (Inv.put _ _ _)) hr ?_
        rw[sI,e];cases g.2<;>rfl
theorem BG{c:Comp σ}{n:Nat}{ys:List τ}{y:σ}(h:(c.bind fun st=>Comp.pure (([]:List τ),st)).run n=some (ys,y)):ys=[]/\c.run n=some y:=by
 obtain⟨x,h1,h2⟩:=run_bind h;have:=run_pure h2
 cases this
 exact⟨rfl,h1⟩
theorem V9(hF:GenF F)(hm:F.P.follows .mixedOrders=true)(hE:E.ok F.P)(hG:GenI F.P F.x.Lp (t.args F.P) xs J Jx):∀(c:Code),okC F.N c=true->kg c=true->∀ {β:Type} {h:H} {s0 s:S} {a:Act} {w:World} {k:S->Comp (List t.D×β)} {ex:Nat->S->Comp (List t.D×β)} {rt:S->Comp (List t.D×β)} {z:Stp} {nf:Nat} {y:β} {Q:Exit->Act->World->Prop} {O1:zR} {w1:World} {acc ys T rest:List t.D},T++rest=xs ->
  J acc O1 w1->Rel (F.reb O1 w1) s a w->Inv s0 s->(JJ E t c β h s k ex rt z).run nf=some (ys,y)->acc++ys=T->WaysY F J T s0 nf y k ex rt Q->WaysX F Jx s0 nf z Q->F.wp c Q a w:=by
 have fE:∀(O1:zR) (w1:World) t φ,¬(F.reb O1 w1).Lh t φ:=fun _ _=>hF.Lh
 have hB6:∀ {c:Code},okC F.N c=true->kg c=true->∀ {h:H} {s0 s:S} {a:Act} {w:World} {z:Stp} {nf:Nat} {Q:Exit->Act->World->Prop} {O1:zR} {w1:World},Jx O1 w1->Rel (F.reb O1 w1) s a w->Inv s0 s->(den E c Unit h s z.k (exF z.ex) z.rt).run nf=some ()->WaysX F Jx s0 nf z Q->F.wp c Q a w:=by
  intro c fA hn h s0 s a w z nf Q O1 w1 hJ hR hi hr hW;have bK:(F.reb O1 w1).x.nr=true:=hF.nr
  exact Yl c (F:=F.reb O1 w1) hm (fE _ _) hE fA (.inr hn) rfl hR hi hr ⟨fun F' s' a' w' g0 g1 g2 g3=>(by rw[g0.nr bK]at g1;exact hW.k O1 w1 s' a' w' hJ g1 g2 g3),fun i fC F' s' a' w' g0 g1 g2 g3=>(by rw[g0.nr bK]at g1;exact hW.ex i O1 w1 s' a' w' hJ g1 g2 (by rwa[Rs fC]at g3)),fun F' s' a' w' g0 g1 g2 g3=>(by rw[g0.nr bK]at g1;exact hW.rt O1 w1 s' a' w' hJ g1 g2 g3),fun F' s' a' _ w' _ _ _ g3=>(Rt g3).elim⟩
 have iL:∀ {id:Nat} {ops:Array Oper},Xb F.N ops.toList=true->∀ {β:Type} {s0 s:S} {a:Act} {w:World} {k:S->Comp (List t.D×β)} {zk:S->Comp Unit} {nf:Nat} {y:β} {Q:Exit->Act->World->Prop} {O1:zR} {w1:World} {acc ys T rest:List t.D},T++rest=xs->J acc O1 w1->Rel (F.reb O1 w1) s a w->Inv s0 s->(YH E t (wrS ops.toList) ops.toList zk k ops.toList s).run nf=some (ys,y)->acc++ys=T ->
   (∀O2 w2 acc s' a' w' ys,J acc O2 w2->Rel (F.reb O2 w2) s' a' w'->Inv s0 s'->(k s').run nf=some (ys,y)->acc++ys=T->Q .normal a' w')->(∀O2 w2 s' a' w',Jx O2 w2->Rel (F.reb O2 w2) s' a' w'->Inv s0 s'->(zk s').run nf=some ()->Q .normal a' w')->F.wp (.region id ops false) Q a w:=by
  intro id ops fA β s0 s a w k zk nf y Q O1 w1 acc ys T rest hT hJ hR hi hr sF hK hZ;have key:vp (F.W Q) ops.toList.toArray (Q .normal) ops.toList a w:=K3 hF hE hG (wrS ops.toList) hT hK hZ hJ hR hi hr sF fun o ho=>⟨Kn fA o ho,fun t ht=>?_⟩
  ·refine Jd (fun h=>nomatch h) ?_
   show Y2 (F.W Q) ops (Q .normal) (List.range ops.size) a w
   rw[List.range_eq_range',<-Array.length_toList,kF ops.toList 0 (by simp)]
   simpa using key
  ·obtain⟨j,hj⟩:=List.mem_iff_getElem?.1 ho
   exact⟨((zV (Xm fA) hj).2.1 t ht).1,fun φ=>hF.Lh t φ⟩
 intro c
 induction c with
 |skip=>intro _ _ β h s0 s a w k ex rt z nf y Q O1 w1 acc ys T rest hT hJ hR hi hr sF hW hX;exact wpIn_skip (hW.k O1 w1 acc s a w ys hJ hR hi hr sF)
 |label l=>intro _ _ β h s0 s a w k ex rt z nf y Q O1 w1 acc ys T rest hT hJ hR hi hr sF hW hX;exact wpIn_label (hW.k O1 w1 acc s a w ys hJ hR hi hr sF)
 |exit i=>intro _ _ β h s0 s a w k ex rt z nf y Q O1 w1 acc ys T rest hT hJ hR hi hr sF hW hX;exact wpIn_exit (hW.ex i O1 w1 acc s a w ys hJ hR hi hr sF)
 |ret=>intro _ _ β h s0 s a w k ex rt z nf y Q O1 w1 acc ys T rest hT hJ hR hi hr sF hW hX;exact wpIn_ret (hW.rt O1 w1 acc s a w ys hJ hR hi hr sF)
 |region id ops draw =>
  intro fA _ β h s0 s a w k ex rt z nf y Q O1 w1 acc ys T rest hT hJ hR hi hr sF hW hX;simp only[JJ]at hr;simp only[okC,zLR]at fA;have hN:=uy fA.2
  have fA:=fA.1;split at hr
  ·rename_i l h'
   have hR':=Rel.Z6 (F:=F.reb O1 w1) (E:=E) hE hR (qz s l);have hi':=hi.trans (Inv.Z6 (E:=E) s (qz s l))
   split at hr
   ·split at hr
    ·exact iL fA hT hJ hR' hi' hr sF hW.k hX.k
    ·cases hr
   ·exact ub (F:=F.reb O1 w1) (fE _ _) hE hm (zLT _) hN fA hR' hi' hr (fun s' a' w' g1 g2 g3=>hW.k O1 w1 acc s' a' w' ys hJ g1 g2 g3 sF) fun s' a' _ w' _ _ g3=>(nomatch g3)
  ·split at hr
   ·exact iL fA hT hJ hR hi hr sF hW.k hX.k
   ·cases hr
  ·exact ub (F:=F.reb O1 w1) (fE _ _) hE hm (zLT _) hN fA hR hi hr (fun s' a' w' g1 g2 g3=>hW.k O1 w1 acc s' a' w' ys hJ g1 g2 g3 sF) fun s' a' _ w' _ _ g3=>(nomatch g3)
 |seq x v ihx ihv =>
  intro fA hn β h s0 s a w k ex rt z nf y Q O1 w1 acc ys T rest hT hJ hR hi hr sF hW hX;simp only[okC,zLR]at fA;simp only[kg,zLR]at hn;simp only[JJ]at hr;refine wpIn_seq (ihx fA.1 hn.1 hT hJ hR hi hr sF ⟨fun O2 w2 acc' s' a' w' ys' g0 g1 g2 g3 g4=>?_,hW.ex,hW.rt⟩ ⟨fun O2 w2 s' a' w' g0 g1 g2 g3=>?_,hX.ex,hX.rt⟩)
  ·exact ihv fA.2 hn.2 hT g0 g1 g2 g3 g4 hW hX
  ·exact hB6 fA.2 hn.2 g0 g1 g2 g3 hX
 |scope x ih =>
  intro fA hn β h s0 s a w k ex rt z nf y Q O1 w1 acc ys T rest hT hJ hR hi hr sF hW hX;simp only[JJ]at hr;exact tE (ih fA hn hT hJ hR hi hr sF ⟨hW.k,hW.ex,hW.rt⟩ ⟨hX.k,hX.ex,hX.rt⟩)
 |cond c x e ihx ihe =>
  intro fA hn β h s0 s a w k ex rt z nf y Q O1 w1 acc ys T rest hT hJ hR hi hr sF hW hX;simp only[okC,zLR]at fA;simp only[kg,zLR]at hn;simp only[JJ]at hr;split at hr
  ·cases hr
  ·rename_i b hb
   have hc:a.eval c=.bool b:=by
    obtain⟨X,hX⟩:=hR;rw[<-hX.ep]at hb;exact WU hb fun φ h1=>hX.rd #[c] c φ (by simp) h1
   split at hr
   ·rename_i sh h1 h2
    dsimp only [jn]at hr;have hW':WaysY F J T s nf y (fun s'=>goJ E.G sh s s' (fun x=>k (sh.put s x))) ex rt Q:=by
     refine⟨fun O2 w2 acc' s' a' w' ys' g0 g1 g2 g3 g4=>?_,fun i O2 w2 acc' s' a' w' ys' g0 g1 g2 g3 g4=>hW.ex i O2 w2 acc' s' a' w' ys' g0 g1 (hi.trans g2) g3 g4,fun O2 w2 acc' s' a' w' ys' g0 g1 g2 g3 g4=>hW.rt O2 w2 acc' s' a' w' ys' g0 g1 (hi.trans g2) g3 g4⟩
     obtain⟨x,q1,q2,q3⟩:=qm (F:=F.reb O2 w2) (F0:=F.reb O1 w1) (fE _ _) hE ⟨rfl,rfl,rfl⟩ hR g1 g2 g3;exact hW.k O2 w2 acc' _ _ _ ys' g0 q1 (hi.trans q2) q3 g4
    refine wpIn_cond_split hc (fun aB=>?_) (fun eB=>?_)
    ·rw[zLr aB]at hr;exact ihx fA.1 hn.1 hT hJ hR (Inv.refl s) hr sF hW' (hX.inv hi)
    ·rw[zLs (by rw[eB];simp)]at hr;exact ihe fA.2 hn.2 hT hJ hR (Inv.refl s) hr sF hW' (hX.inv hi)
   ·refine wpIn_cond_split hc (fun aB=>?_) (fun eB=>?_)
    ·rw[zLr aB]at hr;exact ihx fA.1 hn.1 hT hJ hR hi hr sF hW hX
    ·rw[zLs (by rw[eB];simp)]at hr;exact ihe fA.2 hn.2 hT hJ hR hi hr sF hW hX
 |block id x ih =>
  intro fA hn β h s0 s a w k ex rt z nf y Q O1 w1 acc ys T rest hT hJ hR hi hr sF hW hX;simp only[JJ]at hr;refine wpIn_block ?_;have hX':WaysX F Jx s0 nf ⟨z.k,fun i s'=>match Nat.beq i id with|true=>z.k s'|false=>z.ex i s',z.rt⟩ (Exit.inBlock id Q):=by
   refine⟨hX.k,fun i O2 w2 s' a' w' g0 g1 g2 g3=>?_,hX.rt⟩
   show (if i=id then Q .normal a' w' else Q (.exit i) a' w')
   cases hb:Nat.beq i id with
   |true=>simp only[hb]at g3;rw[zLr (zLQ hb)];exact hX.k O2 w2 s' a' w' g0 g1 g2 g3
   |false =>
    simp only[hb]at g3;rw[zU]at hb;rw[zLs (by simpa using hb)];exact hX.ex i O2 w2 s' a' w' g0 g1 g2 g3
  have fA:=(show okC F.N x=true by simp only[okC,zLR]at fA;exact fA.1)
  split at hr
  ·rename_i sh h1
   dsimp only [jn]at hr;have hk:∀O2 w2 acc' s' a' w' ys',J acc' O2 w2->Rel (F.reb O2 w2) s' a' w'->Inv s s'->(goJ E.G sh s s' (fun x=>k (sh.put s x))).run nf=some (ys',y)->acc'++ys'=T->Q .normal a' w':=by
    intro O2 w2 acc' s' a' w' ys' g0 g1 g2 g3 g4;obtain⟨x,q1,q2,q3⟩:=qm (F:=F.reb O2 w2) (F0:=F.reb O1 w1) (fE _ _) hE ⟨rfl,rfl,rfl⟩ hR g1 g2 g3;exact hW.k O2 w2 acc' _ _ _ ys' g0 q1 (hi.trans q2) q3 g4
   refine ih fA hn hT hJ hR (Inv.refl s) hr sF ⟨hk,fun i O2 w2 acc' s' a' w' ys' g0 g1 g2 g3 g4=>?_,fun O2 w2 acc' s' a' w' ys' g0 g1 g2 g3 g4=>hW.rt O2 w2 acc' s' a' w' ys' g0 g1 (hi.trans g2) g3 g4⟩ (hX'.inv hi)
   show (if i=id then Q .normal a' w' else Q (.exit i) a' w')
   cases hb:Nat.beq i id with
   |true=>rw[hb]at g3;rw[zLr (zLQ hb)];exact hk O2 w2 acc' s' a' w' ys' g0 g1 g2 g3 g4
   |false =>
    rw[hb]at g3;rw[zU]at hb;rw[zLs (by simpa using hb)];exact hW.ex i O2 w2 acc' s' a' w' ys' g0 g1 (hi.trans g2) g3 g4
  ·refine ih fA hn hT hJ hR hi hr sF ⟨hW.k,fun i O2 w2 acc' s' a' w' ys' g0 g1 g2 g3 g4=>?_,hW.rt⟩ hX'
   show (if i=id then Q .normal a' w' else Q (.exit i) a' w')
   cases hb:Nat.beq i id with
   |true=>rw[hb]at g3;rw[zLr (zLQ hb)];exact hW.k O2 w2 acc' s' a' w' ys' g0 g1 g2 g3 g4
   |false =>
    rw[hb]at g3;rw[zU]at hb;rw[zLs (by simpa using hb)];exact hW.ex i O2 w2 acc' s' a' w' ys' g0 g1 g2 g3 g4
 |loop c ih =>
  intro fA hn β h s0 s a w k ex rt z nf y Q O1 w1 acc ys T rest hT hJ hR hi hr sF hW hX;simp only[JJ]at hr;split at hr
  ·rename_i sh l h1
   split at hr
   ·cases hr
   ·rename_i x0 cL
    obtain⟨p,hp,hr⟩:=run_bind hr;obtain⟨ys0,e⟩:=p;obtain⟨zs,hr,sP⟩:=BF hr;simp only at hr sP;obtain⟨g1,g2⟩:=YO (F:=F.reb O1 w1) (fE _ _) hE (Frm.KR _) hR hR (Inv.refl s) cL
    generalize hB:(fun x=>JJ E t c (Comp.Step sh.D (ED l)) h1 (sh.put s x) (fun s'=>(J1 E.G sh s s').bind fun st=>Comp.pure ([],st)) (fun i s'=>(ZP E.G s l (some i) s').bind fun st=>Comp.pure ([],st)) (fun s'=>(ZP E.G s l none s').bind fun st=>Comp.pure ([],st)) ⟨fun _=>Comp.fail,z.ex,z.rt⟩)=B at *
    refine rT (fun m a' w'=>∃O2 w2 acc' x ys',J acc' O2 w2/\Rel (F.reb O2 w2) (sh.put s x) a' w'/\Inv s (sh.put s x)/\kL B nf m x=some (ys',e)/\acc'++(ys'++zs)=T) (fun m a' w' hI=>?_) ⟨O1,w1,acc,x0,ys0,hJ,g1,g2,hp,by rw[<-sF,sP]⟩
    obtain⟨O2,w2,acc',x,ys',q0,q1,q2,q3,q4⟩:=hI;obtain⟨m',gF,us,st,f9,hnx,hdn⟩:=Ag q3;rw[<-hB]at f9
    have dC:∀(o:Option Nat) O3 w3 xE s' a3 w' vs,J xE O3 w3->Rel (F.reb O3 w3) s' a3 w'->Inv s s'->((ZP (σ:=sh.D) E.G s l o s').bind fun st=>Comp.pure (([]:List t.D),st)).run nf=some (vs,st)->xE++vs=acc'++us->∃s2,Rel (F.reb O3 w3) s2 a3 w'/\Inv s s2/\(match o with|some i=>ex i s2|none=>rt s2).run nf=some (zs,y)/\xE++zs=T:=by
     intro o O3 w3 xE s' a3 w' vs f0 f1 f2 f3 f4;obtain⟨rfl,f5⟩:=BG (c:=ZP (σ:=sh.D) E.G s l o s') f3;unfold ZP at f5;split at f5
     ·rename_i v hv
      have f9:=run_pure f5;obtain⟨he,bX⟩:=hdn v f9.symm;subst he;obtain⟨s2,r1,r2,r3⟩:=uk (F:=F.reb O3 w3) (F0:=F.reb O1 w1) (fE _ _) hE ⟨rfl,rfl,rfl⟩ hR f1 f2 hv hr;refine⟨s2,r1,r2,r3,?_⟩;rw[zLx]at f4;rw[f4,<-q4,bX,zLl]
     ·cases f5
    have hT':∃rest',(acc'++us)++rest'=xs:=by
     cases st with
     |next s' =>
      obtain⟨zs',_,h2⟩:=hnx s' rfl;exact⟨zs'++zs++rest,by rw[<-hT,<-q4,h2];simp⟩
     |done e' =>
      obtain⟨_,h2⟩:=hdn e' rfl;exact⟨zs++rest,by rw[<-hT,<-q4,h2];simp⟩
    obtain⟨rest',hT'⟩:=hT';refine ih fA hn hT' q0 q1 q2 f9 rfl ⟨fun O3 w3 xE s' a3 w' vs f0 f1 f2 f3 f4=>?_,fun i O3 w3 xE s' a3 w' vs f0 f1 f2 f3 f4=>?_,fun O3 w3 xE s' a3 w' vs f0 f1 f2 f3 f4=>?_⟩ ⟨fun _ _ _ _ _ _ _ _ f=>(nomatch f),(hX.inv hi).ex,(hX.inv hi).rt⟩
    ·obtain⟨rfl,f5⟩:=BG (c:=J1 E.G sh s s') f3
     unfold J1 at f5;split at f5
     ·rename_i v hv
      have f9:=run_pure f5;obtain⟨zs',k1,k2⟩:=hnx v f9.symm;obtain⟨r1,r2⟩:=YO (F:=F.reb O3 w3) (F0:=F.reb O1 w1) (fE _ _) hE ⟨rfl,rfl,rfl⟩ hR f1 f2 hv;refine⟨m',gF,O3,w3,xE,v,zs',f0,r1,r2,k1,?_⟩;rw[zLx]at f4;rw[f4,<-q4,k2];simp
     ·cases f5
    ·obtain⟨s2,r1,r2,r3,r4⟩:=dC (some i) O3 w3 xE s' a3 w' vs f0 f1 f2 f3 f4
     exact hW.ex i O3 w3 xE s2 a3 w' zs f0 r1 (hi.trans r2) r3 r4
    ·obtain⟨s2,r1,r2,r3,r4⟩:=dC none O3 w3 xE s' a3 w' vs f0 f1 f2 f3 f4
     exact hW.rt O3 w3 xE s2 a3 w' zs f0 r1 (hi.trans r2) r3 r4
  ·cases hr
 |goto l=>intro _ _ β h s0 s a w k ex rt z nf y Q O1 w1 acc ys T rest hT hJ hR hi hr;cases hr
 |refuse l=>intro _ _ β h s0 s a w k ex rt z nf y Q O1 w1 acc ys T rest hT hJ hR hi hr;cases hr
 |rangeFunc f ps pa bd _ _=>intro _ hn;cases hn
end
def Rl(E:VE)(c:Code)(h:H)(ps t:Ty)(x:ps.D):Comp (List t.D) :=
 (JJ E t c Unit h ⟨(0,0,.yl)::Yd ps x 1,[],1,0⟩ (fun _=>Comp.pure ([],())) (fun _ _=>Comp.fail) (fun _=>Comp.pure ([],())) ⟨fun _=>Comp.pure (),fun _ _=>Comp.fail,fun _=>Comp.pure ()⟩).bind fun p=>Comp.pure p.1
theorem zED{P:Program}{E:VE}(hE:E.ok P)(hm:P.follows .mixedOrders=true){f:FuncId}{fn:Func}{c:Code}{h:H}{fs:GS}(hF:FnOk P f)(hf:P.funcs[f]?=some fn)(hb:fn.body=some c)(hc:(okC fn.ntmps c && kg c)=true)(xD:fn.results.size=0)(hl:Nat.ble (fs.ps.len+1) fn.ntmps=true)
  (hs:∀x,Rl E c h fs.ps fs.t x=fs.sem x):fs.ok P f:=by
 rw[zLR]at hc;refine⟨hF,fun O w hO us x ha n xs hy L J Jx hR=>?_⟩
 rw[<-hs x]at hy;obtain⟨⟨ys,u⟩,hy2,hp⟩:=run_bind hy;have:=run_pure hp
 simp only at this;subst this;have sV:=Z2 ha
 refine calls_of_wp hf hb ?_;have fW:=kc (Value.func (.yield L) #[] #[]::us).toArray fn.ntmps (by simp only[List.size_toArray,zLZ];rw[sV];exact Nat.le_of_ble_eq_true hl)
 have fD:∀(j:Nat) v,(Value.func (.yield L) #[] #[]::us)[j]?=some v->Act.get { tmps:=(Value.func (.yield L) #[] #[]::us).toArray++Array.replicate (fn.ntmps-(Value.func (.yield L) #[] #[]::us).toArray.size) undef,defers:=[] } j=v:=fun j v hj=>kb (by simpa using hj)
 generalize ({ tmps:=(Value.func (.yield L) #[] #[]::us).toArray++Array.replicate (fn.ntmps-(Value.func (.yield L) #[] #[]::us).toArray.size) undef,defers:=[] }:Act)=a at fW fD |-
 let F:Frm:=⟨P,fn.ntmps,[],Go.Lift.Fr w,O,w,fun _ _=>False,0,[],{ FrX.no 1 O w with Lp:=L,nr:=true }⟩
 let X:Cx:=⟨P,O,fun _=>.nilIface,1,fun k=>k,Go.Lift.Fr w,Go.Lift.Fr w,0,L⟩
 have hGF:GenF F:=⟨rfl,fun _ _ h=>h,rfl,rfl,Nat.one_ne_zero,fun _ _ h=>h,fun _ _ h=>h,rfl,rfl⟩
 have hG:GenI P L (fs.t.args P) ys J Jx:=⟨hR.ext,hR.extx,hR.ok,hR.okx,hR.y⟩;have iZ:Rel (F.reb O w) ⟨(0,0,.yl)::Yd fs.ps x 1,[],1,0⟩ a w:=by
  have fX:=fun {t e}=>Z0 (X:=X) (a:=a) (i:=1) rfl rfl ha (fun j v hj=>by rw[Nat.add_comm];exact fD (j+1) v (by simpa using hj)) (u:=t) (e:=e)
  refine⟨X,rfl,rfl,rfl,rfl,rfl,hO,fW,Base.start hO,fun t e he _=>(by
   rcases zD he with ⟨rfl,rfl⟩|⟨_,he⟩
   ·exact fD 0 _ rfl
   ·exact(fX he).2),fun k e he=>(nomatch he),fun t e he=>(by
   rcases zD he with ⟨rfl,rfl⟩|⟨_,he⟩
   ·exact Nat.zero_lt_one
   ·rw[(fX he).1];exact Nat.zero_lt_one),fun k e he=>(nomatch he),fun k k' e e' he=>(nomatch he),fun k e he=>(nomatch he),Nat.zero_le _,Nat.zero_lt_one,fun _ _ h=>h.elim,⟨Nat.zero_le _,fun j b hj=>(nomatch hj)⟩,⟨Nat.one_ne_zero,fun _ _ h=>h.elim,fun _ _ h=>h.elim,zb.refl _ _ _,rfl⟩⟩
 have xN:∀(a':Act) (w':World),a'.defers=[]->((∃O'',J ys O'' w')\/∃O'',Jx O'' w')->bodyPost P fn (fun e w''=>e=.returned (.tuple #[])/\((∃O'',J ys O'' w'')\/∃O'',Jx O'' w'')) .normal a' w':=fun a' w' hd h=>by
  have hr:fn.results=#[]:=Array.eq_empty_of_size_eq_zero xD;exact⟨hd,.tuple #[],by simp[results,hr],rfl,h⟩
 refine(wpIn_wide (n:=0)).1 ?_
 refine V9 (F:=F) (xs:=ys) (T:=ys) (rest:=[]) (acc:=[]) hGF hm hE hG c hc.1 hc.2 (by simp) hR.z iZ (Inv.refl _) hy2 rfl ⟨fun O1 w1 acc s' a' w' zs h1 h2 h3 h4 h5=>?_,fun i O1 w1 acc s' a' w' zs h1 h2 h3 h4=>(nomatch h4),fun O1 w1 acc s' a' w' zs h1 h2 h3 h4 h5=>?_⟩ ⟨fun O1 w1 s' a' w' h1 h2 h3 h4=>?_,fun i O1 w1 s' a' w' h1 h2 h3 h4=>(nomatch h4),fun O1 w1 s' a' w' h1 h2 h3 h4=>?_⟩
 ·have:=run_pure h4
  cases this
  obtain⟨X',hX'⟩:=h2;rw[zLx]at h5;subst h5;exact xN a' w' hX'.fit.defers (.inl ⟨O1,hR.ext _ _ _ _ h1 hX'.base.ext⟩)
 ·have:=run_pure h4
  cases this
  obtain⟨X',hX'⟩:=h2;rw[zLx]at h5;subst h5;exact xN a' w' hX'.fit.defers (.inl ⟨O1,hR.ext _ _ _ _ h1 hX'.base.ext⟩)
 ·obtain⟨X',hX'⟩:=h2
  exact xN a' w' hX'.fit.defers (.inr ⟨O1,hR.extx _ _ _ h1 hX'.base.ext⟩)
 ·obtain⟨X',hX'⟩:=h2
  exact xN a' w' hX'.fit.defers (.inr ⟨O1,hR.extx _ _ _ h1 hX'.base.ext⟩)
end Go.Den
end
noncomputable section
namespace Go.Den
open Go Go.RowKit Go.Eng Go.Lift
variable {α β γ δ:Type}
def rng:Nat->Nat->List Nat
 |0,_=>[]
 |m+1,j=>j::rng m (j+1)
def initK(f:FuncId)(all:List Nat)(q:Nat):(cs:List CQ)->CR cs->CB cs->Nat->Nat->LS×MS
 | [],_,_,_,_=>([],[])
 |.r t T::l,x,y,i,j=>((i,0,.bx j 0)::(initK f all q l x.2 y (i+1) (j+1)).1,(j,0,.bx false (.rd t x.1) T)::(initK f all q l x.2 y (i+1) (j+1)).2)
 |.p t T::l,x,y,i,j=>((i,0,.bx j 0)::(initK f all q l x y.2 (i+1) (j+1)).1,(j,0,.bx false (.rd t y.1) T)::(initK f all q l x y.2 (i+1) (j+1)).2)
 |.o t T' T::l,x,y,i,j=>((i,0,.bx j 0)::(initK f all q l x y.2 (i+1) (j+1)).1,(j,0,.bx false (.ob q) T)::(q,0,.sl false t T' y.1)::(initK f all q l x y.2 (i+1) (j+1)).2)
 |.s T::l,x,y,i,j=>((i,0,.bx j 0)::(initK f all q l x y (i+1) (j+1)).1,(j,0,.bx false (.cl f .un (qv all)) T)::(initK f all q l x y (i+1) (j+1)).2)
def JY:List CQ->List Nat->MS->Nat->Bool
 |.r _ _::l,k::ks,M,n=>(match look M k with
  |some e=>Nat.blt e.1 n
  |none=>false) && JY l ks M n
 |_::l,_::ks,M,n=>JY l ks M n
 |_,_,_,_=>true
def rtK(E:VE)(f:FuncId)(fs:FK)(s:S):Comp (Sum fs.zt.D (CB fs.cs)):=match gA E.G f (rng fs.cs.length 0) s.M fs.cs (rng fs.cs.length 0) with
 |some p=>match Nat.ble p.2.2.length 1 && JY fs.cs (rng fs.cs.length 0) s.M (fs.cs.length+2) with
  |true=>Comp.pure (.inr p.2.1)
  |false=>Comp.fail
 |none=>Comp.fail
def pnK(E:VE)(fs:FK)(s:S):Comp (Sum fs.zt.D (CB fs.cs)):=match rdO s.ep s.L [] [] (.tmp 0) with
 |some φ=>match φ.asT E.G [] fs.zt with
  |some z=>Comp.pure (.inl z)
  |none=>Comp.fail
 |none=>Comp.fail
def Rq(E:VE)(f:FuncId)(c:Code)(h:H)(fs:FK)(x:fs.ps.D)(r:CR fs.cs)(y:CB fs.cs):Comp (Sum fs.zt.D (CB fs.cs)) :=
 den E c (Sum fs.zt.D (CB fs.cs)) h ⟨Yd fs.ps x 0++(initK f (rng fs.cs.length 0) fs.cs.length fs.cs r y fs.ps.len 0).1,(initK f (rng fs.cs.length 0) fs.cs.length fs.cs r y fs.ps.len 0).2,fs.cs.length+2,0⟩ (rtK E f fs)
  (fun i s=>match Nat.beq i PL with|true=>pnK E fs s|false=>Comp.fail) (rtK E f fs)
theorem Cnt.len{P:Program}{f:FuncId}{us:List Value}{O:zR}{w:World}{G:Nat->Prop}:∀ {l:List CQ} {x:CR l} {y:CB l} {bl ts σs:List Nat} {vs:List Value},Cnt P f us O w G l x y bl ts σs vs->bl.length=l.length/\ts.length=l.length/\vs.length=σs.length
 | [],x,y,bl,ts,σs,vs,h=>by obtain⟨rfl,rfl,rfl,rfl⟩:=h;exact⟨rfl,rfl,rfl⟩
 |.r t T::l,x,y,bl,ts,σs,vs,h=>by
  obtain⟨b,bl',τ,ts',cs,rfl,rfl,_,_,_,h⟩:=h;obtain⟨h1,h2,h3⟩:=h.len;exact⟨by simp[h1],by simp[h2],h3⟩
 |.p t T::l,x,y,bl,ts,σs,vs,h=>by
  obtain⟨b,bl',τ,ts',cs,rfl,rfl,_,_,_,h⟩:=h;obtain⟨h1,h2,h3⟩:=h.len;exact⟨by simp[h1],by simp[h2],h3⟩
 |.o t T' T::l,x,y,bl,ts,σs,vs,h=>by
  obtain⟨b,bl',τ,ts',σ,σs',u,vs',rfl,rfl,rfl,rfl,_,_,_,_,h⟩:=h;obtain⟨h1,h2,h3⟩:=h.len;exact⟨by simp[h1],by simp[h2],by simp[h3]⟩
 |.s T::l,x,y,bl,ts,σs,vs,h=>by
  obtain⟨b,bl',τ,ts',rfl,rfl,_,_,h⟩:=h;obtain⟨h1,h2,h3⟩:=h.len;exact⟨by simp[h1],by simp[h2],h3⟩
theorem Cnt.mem{P:Program}{f:FuncId}{us:List Value}{O:zR}{w:World}{G:Nat->Prop}:∀ {l:List CQ} {x:CR l} {y:CB l} {bl ts σs:List Nat} {vs:List Value},Cnt P f us O w G l x y bl ts σs vs->(∀b∈bl,b<w.heap.size)/\ts=bl.map O
 | [],x,y,bl,ts,σs,vs,h=>by obtain⟨rfl,rfl,rfl,rfl⟩:=h;exact⟨by simp,rfl⟩
 |.r t T::l,x,y,bl,ts,σs,vs,h=>by
  obtain⟨b,bl',τ,ts',cs,rfl,rfl,h1,h2,_,h⟩:=h;obtain⟨h3,h4⟩:=h.mem;refine⟨fun c hc=>?_,by simp[h2,h4]⟩
  rcases zLV.1 hc with rfl|hc
  ·exact h1.lt
  ·exact h3 c hc
 |.p t T::l,x,y,bl,ts,σs,vs,h=>by
  obtain⟨b,bl',τ,ts',cs,rfl,rfl,h1,h2,_,h⟩:=h;obtain⟨h3,h4⟩:=h.mem;refine⟨fun c hc=>?_,by simp[h2,h4]⟩
  rcases zLV.1 hc with rfl|hc
  ·exact h1.lt
  ·exact h3 c hc
 |.o t T' T::l,x,y,bl,ts,σs,vs,h=>by
  obtain⟨b,bl',τ,ts',σ,σs',u,vs',rfl,rfl,rfl,rfl,_,h1,h2,_,h⟩:=h;obtain⟨h3,h4⟩:=h.mem;refine⟨fun c hc=>?_,by simp[h2,h4]⟩
  rcases zLV.1 hc with rfl|hc
  ·exact h1.lt
  ·exact h3 c hc
 |.s T::l,x,y,bl,ts,σs,vs,h=>by
  obtain⟨b,bl',τ,ts',rfl,rfl,h1,h2,h⟩:=h;obtain⟨h3,h4⟩:=h.mem;refine⟨fun c hc=>?_,by simp[h2,h4]⟩
  rcases zLV.1 hc with rfl|hc
  ·exact h1.lt
  ·exact h3 c hc
theorem Cnt.Cf{P:Program}{f:FuncId}{us:List Value}{O O':zR}{w:World}{G G':Nat->Prop}(hk:zb 0 O w O' w):∀ {l:List CQ} {x:CR l} {y:CB l} {bl ts σs ts' σs':List Nat} {vs:List Value},Cnt P f us O w G l x y bl ts σs vs->ts'=bl.map O'->σs'.length=σs.length ->
  (∀(i:Nat) u σ',vs[i]?=some u->σs'[i]?=some σ'->∀g,u.ownBlock=some g->G g->O' g=σ'/\G' g)->Cnt P f us O' w G' l x y bl ts' σs' vs
 | [],x,y,bl,ts,σs,ts',σs',vs,h,h1,h2,h3=>by
  obtain⟨rfl,rfl,rfl,rfl⟩:=h;exact⟨rfl,h1,List.length_eq_zero_iff.1 h2,rfl⟩
 |.r t T::l,x,y,bl,ts,σs,ts',σs',vs,h,h1,h2,h3=>by
  obtain⟨b,bl',τ,n7,cs,rfl,rfl,g1,g2,g3,h⟩:=h;subst h1;exact⟨b,bl',O' b,_,cs,rfl,rfl,g1,rfl,GR.mono _ hk g3,Cnt.Cf hk h rfl h2 h3⟩
 |.p t T::l,x,y,bl,ts,σs,ts',σs',vs,h,h1,h2,h3=>by
  obtain⟨b,bl',τ,n7,cs,rfl,rfl,g1,g2,g3,h⟩:=h;subst h1;exact⟨b,bl',O' b,_,cs,rfl,rfl,g1,rfl,GR.mono _ hk g3,Cnt.Cf hk h rfl h2 h3⟩
 |.o t T' T::l,x,y,bl,ts,σs,ts',σs',vs,h,h1,h2,h3=>by
  obtain⟨b,bl',τ,n7,σ,σs0,u,vs',rfl,rfl,rfl,rfl,g0,g1,g2,g3,h⟩:=h;subst h1
  cases σs' with
  |nil=>simp at h2
  |cons σ' σs' =>
   refine⟨b,bl',O' b,_,σ',σs',u,vs',rfl,rfl,rfl,rfl,g0,g1,rfl,?_,Cnt.Cf hk h rfl (by simpa using h2) fun i u' σ2 hu hσ=>h3 (i+1) u' σ2 (by simpa using hu) (by simpa using hσ)⟩
   obtain⟨ws,k1,k2,k3⟩:=g3;have bU:=fun g hg=>h3 0 u σ' rfl rfl g hg (k3 g hg).2
   exact⟨ws,k1,k2.mono hk,bU⟩
 |.s T::l,x,y,bl,ts,σs,ts',σs',vs,h,h1,h2,h3=>by
  obtain⟨b,bl',τ,n7,rfl,rfl,g1,g2,h⟩:=h;subst h1;exact⟨b,bl',O' b,_,rfl,rfl,g1,rfl,Cnt.Cf hk h rfl h2 h3⟩
def nO:List CQ->Nat
 | []=>0
 |.o ..::l=>nO l+1
 |_::l=>nO l
theorem Cnt.nO{P:Program}{f:FuncId}{us:List Value}{O:zR}{w:World}{G:Nat->Prop}:∀ {l:List CQ} {x:CR l} {y:CB l} {bl ts σs:List Nat} {vs:List Value},Cnt P f us O w G l x y bl ts σs vs->σs.length=nO l/\∀u∈vs,∀g,u.ownBlock=some g->(O g∈σs/\G g)/\g<w.heap.size
 | [],x,y,bl,ts,σs,vs,h=>by obtain⟨rfl,rfl,rfl,rfl⟩:=h;exact⟨rfl,by simp⟩
 |.r t T::l,x,y,bl,ts,σs,vs,h=>by
  obtain⟨b,bl',τ,ts',cs,rfl,rfl,h1,h2,_,h⟩:=h;exact h.nO
 |.p t T::l,x,y,bl,ts,σs,vs,h=>by
  obtain⟨b,bl',τ,ts',cs,rfl,rfl,h1,h2,_,h⟩:=h;exact h.nO
 |.o t T' T::l,x,y,bl,ts,σs,vs,h=>by
  obtain⟨b,bl',τ,ts',σ,σs',u,vs',rfl,rfl,rfl,rfl,_,h1,h2,hO,h⟩:=h;obtain⟨h3,h4⟩:=h.nO;refine⟨by simp[Den.nO,h3],fun v hv g hg=>?_⟩
  rcases zLV.1 hv with rfl|hv
  ·exact⟨⟨by rw[hO.tagged g hg];simp,(hO.ge g hg).1⟩,(hO.ge g hg).2⟩
  ·exact⟨⟨by simp[(h4 v hv g hg).1.1],(h4 v hv g hg).1.2⟩,(h4 v hv g hg).2⟩
 |.s T::l,x,y,bl,ts,σs,vs,h=>by
  obtain⟨b,bl',τ,ts',rfl,rfl,h1,h2,h⟩:=h;exact h.nO
theorem Gs:∀ {m j k:Nat},k∈rng m j↔j<=k/\k<j+m
 |0,j,k=>by simp[rng]
 |m+1,j,k=>by simp only[rng,zLV,Gs (m:=m)];omega
theorem HS{X:Cx}:∀ {m j:Nat} {bl:List Nat},BKs X (rng m j) bl->bl.length=m/\∀(r:Nat) b,bl[r]?=some b->X.U (j+r)=.pointer (some ⟨b,0,none⟩)
 |0,j,[],_=>⟨rfl,fun r b h=>by simp at h⟩
 |0,j,_::_,h=>h.elim
 |m+1,j,[],h=>h.elim
 |m+1,j,c::bl,h=>by
  obtain⟨h1,h2⟩:=HS h.2;refine⟨by simp[h1],fun r b hr=>?_⟩
  cases r with
  |zero=>simp at hr;subst hr;exact h.1
  |succ r=>rw[show j+(r+1)=j+1+r by omega];exact h2 r b (by simpa using hr)
theorem mI{α:Type}{g:Nat->α}:∀ {m j:Nat} {l:List α},l.length=m->(∀(r:Nat) v,l[r]?=some v->g (j+r)=v)->(rng m j).map g=l
 |0,j,[],_,_=>rfl
 |m+1,j,v::l,hl,h=>by
  rw[rng,List.map_cons,show g j=v from h 0 v rfl,mI (l:=l) (by simpa using hl) fun r u hr=>by rw[show j+1+r=j+(r+1) by omega];exact h (r+1) u (by simpa using hr)]
theorem Kp{f:FuncId}{all:List Nat}{q:Nat}:∀ {l:List CQ} {x:CR l} {y:CB l} {i j t:Nat} {e:Nat×AV},look (initK f all q l x y i j).1 t=some e->∃r,r<l.length/\t=i+r/\e=(0,.bx (j+r) 0)
 | [],x,y,i,j,t,e,h=>nomatch h
 |.r T t'::l,x,y,i,j,t,e,h=>by
  rcases zD h with ⟨h1,h2⟩|⟨_,h2⟩
  ·exact⟨0,by simp,h1.symm,h2.symm⟩
  ·obtain⟨r,g1,g2,g3⟩:=Kp h2;exact⟨r+1,by simp[g1],by omega,by rw[g3,show j+1+r=j+(r+1) by omega]⟩
 |.p T t'::l,x,y,i,j,t,e,h=>by
  rcases zD h with ⟨h1,h2⟩|⟨_,h2⟩
  ·exact⟨0,by simp,h1.symm,h2.symm⟩
  ·obtain⟨r,g1,g2,g3⟩:=Kp h2;exact⟨r+1,by simp[g1],by omega,by rw[g3,show j+1+r=j+(r+1) by omega]⟩
 |.o T t' t2::l,x,y,i,j,t,e,h=>by
  rcases zD h with ⟨h1,h2⟩|⟨_,h2⟩
  ·exact⟨0,by simp,h1.symm,h2.symm⟩
  ·obtain⟨r,g1,g2,g3⟩:=Kp h2;exact⟨r+1,by simp[g1],by omega,by rw[g3,show j+1+r=j+(r+1) by omega]⟩
 |.s T::l,x,y,i,j,t,e,h=>by
  rcases zD h with ⟨h1,h2⟩|⟨_,h2⟩
  ·exact⟨0,by simp,h1.symm,h2.symm⟩
  ·obtain⟨r,g1,g2,g3⟩:=Kp h2;exact⟨r+1,by simp[g1],by omega,by rw[g3,show j+1+r=j+(r+1) by omega]⟩
theorem Ko{P:Program}{f:FuncId}{us:List Value}{all:List Nat}{q:Nat}{O:zR}{w:World}{G:Nat->Prop}{X:Cx}(hP:X.P=P)(hO:X.O=O)(hq:q<X.n)(sX:((qv all).sem X w).l us)(hG:∀g,G g->X.A g):∀ {l:List CQ} {x:CR l} {y:CB l} {i j:Nat} {bl ts σs:List Nat} {vs:List Value},Cnt P f us O w G l x y bl ts σs vs->σs.length<=1 ->
  (∀(r:Nat) b,bl[r]?=some b->X.U (j+r)=.pointer (some ⟨b,0,none⟩))->(∀(r:Nat) τ,ts[r]?=some τ->X.ι (j+r)=τ)->(∀u,vs.head?=some u->X.U q=u)->(∀σ,σs.head?=some σ->X.ι q=σ)->(∀b∈bl,X.A b) ->
  ∀ {k:Nat} {e:Nat×MV},look (initK f all q l x y i j).2 k=some e->(e.1=0/\e.2.own=true)/\e.2.holds X w k/\((∃r,r<l.length/\k=j+r)\/(k=q/\σs≠[]))
 | [],x,y,i,j,bl,ts,σs,vs,h,h1,h2,h3,h4,h5,h6,k,e,he=>nomatch he
 |.r t T::l,x,y,i,j,bl,ts,σs,vs,h,h1,h2,h3,h4,h5,h6,k,e,he=>by
  obtain⟨b,bl',τ,n7,cs,rfl,rfl,g1,g2,g3,h⟩:=h;rcases zD he with ⟨e1,e2⟩|⟨_,e2⟩
  ·subst e1 e2
   refine⟨⟨rfl,rfl⟩,⟨b,cs,h2 0 b rfl,⟨g1,h6 b (by simp),by rw[hO,g2];exact(h3 0 τ rfl).symm⟩,?_,rfl⟩,.inl ⟨0,by simp,rfl⟩⟩
   show (t.gr X.P).rel X.O w _ _
   rw[hP,hO];exact g3
  ·obtain⟨k1,k2,k3⟩:=Ko hP hO hq sX hG h h1 (fun r b hr=>by rw[show j+1+r=j+(r+1) by omega];exact h2 (r+1) b (by simpa using hr)) (fun r b hr=>by rw[show j+1+r=j+(r+1) by omega];exact h3 (r+1) b (by simpa using hr)) h4 h5 (fun b hb=>h6 b (by simp[hb])) e2
   exact⟨k1,k2,k3.imp (fun ⟨r,a1,a2⟩=>⟨r+1,by simp[a1],by omega⟩) id⟩
 |.p t T::l,x,y,i,j,bl,ts,σs,vs,h,h1,h2,h3,h4,h5,h6,k,e,he=>by
  obtain⟨b,bl',τ,n7,cs,rfl,rfl,g1,g2,g3,h⟩:=h;rcases zD he with ⟨e1,e2⟩|⟨_,e2⟩
  ·subst e1 e2
   refine⟨⟨rfl,rfl⟩,⟨b,cs,h2 0 b rfl,⟨g1,h6 b (by simp),by rw[hO,g2];exact(h3 0 τ rfl).symm⟩,?_,rfl⟩,.inl ⟨0,by simp,rfl⟩⟩
   show (t.gr X.P).rel X.O w _ _
   rw[hP,hO];exact g3
  ·obtain⟨k1,k2,k3⟩:=Ko hP hO hq sX hG h h1 (fun r b hr=>by rw[show j+1+r=j+(r+1) by omega];exact h2 (r+1) b (by simpa using hr)) (fun r b hr=>by rw[show j+1+r=j+(r+1) by omega];exact h3 (r+1) b (by simpa using hr)) h4 h5 (fun b hb=>h6 b (by simp[hb])) e2
   exact⟨k1,k2,k3.imp (fun ⟨r,a1,a2⟩=>⟨r+1,by simp[a1],by omega⟩) id⟩
 |.o t T' T::l,x,y,i,j,bl,ts,σs,vs,h,h1,h2,h3,h4,h5,h6,k,e,he=>by
  obtain⟨b,bl',τ,n7,σ,σs0,u,vs',rfl,rfl,rfl,rfl,g0,g1,g2,g3,h⟩:=h;have n8:σs0=[]:=by cases σs0 with|nil=>rfl|cons _ _=>simp at h1
  subst n8;have hUq:=h4 u rfl
  rcases zD he with ⟨e1,e2⟩|⟨_,e2⟩
  ·subst e1 e2
   refine⟨⟨rfl,rfl⟩,⟨b,#[u],h2 0 b rfl,⟨g1,h6 b (by simp),by rw[hO,g2];exact(h3 0 τ rfl).symm⟩,⟨u,rfl,g0,hUq.symm,hq,g0⟩,rfl⟩,.inl ⟨0,by simp,rfl⟩⟩
  ·rcases zD e2 with ⟨e3,e4⟩|⟨_,e4⟩
   ·subst e3 e4
    refine⟨⟨rfl,rfl⟩,?_,.inr ⟨rfl,by simp⟩⟩
    show zo _ _ _ _ _ _ _ _
    rw[hUq,h5 σ rfl,hP,hO];exact zo.zHz g3 fun g hg=>hG g hg
   ·have sV:vs'=[]:=by have:=h.len.2.2;simpa using this
    subst sV;obtain⟨k1,k2,k3⟩:=Ko hP hO hq sX hG h (by simp) (fun r b hr=>by rw[show j+1+r=j+(r+1) by omega];exact h2 (r+1) b (by simpa using hr)) (fun r b hr=>by rw[show j+1+r=j+(r+1) by omega];exact h3 (r+1) b (by simpa using hr)) (fun u hu=>by simp at hu) (fun u hu=>by simp at hu) (fun b hb=>h6 b (by simp[hb])) e4
    exact⟨k1,k2,k3.imp (fun ⟨r,a1,a2⟩=>⟨r+1,by simp[a1],by omega⟩) fun h=>zLh rfl h.2⟩
 |.s T::l,x,y,i,j,bl,ts,σs,vs,h,h1,h2,h3,h4,h5,h6,k,e,he=>by
  obtain⟨b,bl',τ,n7,rfl,rfl,g1,g2,h⟩:=h;rcases zD he with ⟨e1,e2⟩|⟨_,e2⟩
  ·subst e1 e2
   refine⟨⟨rfl,rfl⟩,⟨b,_,h2 0 b rfl,⟨g1,h6 b (by simp),by rw[hO,g2];exact(h3 0 τ rfl).symm⟩,⟨_,rfl,rfl,[],_,rfl,sX,rfl⟩,?_⟩,.inl ⟨0,by simp,rfl⟩⟩
   show (false || (qv all).zg)=false;rw[tj];rfl
  ·obtain⟨k1,k2,k3⟩:=Ko hP hO hq sX hG h h1 (fun r b hr=>by rw[show j+1+r=j+(r+1) by omega];exact h2 (r+1) b (by simpa using hr)) (fun r b hr=>by rw[show j+1+r=j+(r+1) by omega];exact h3 (r+1) b (by simpa using hr)) h4 h5 (fun b hb=>h6 b (by simp[hb])) e2
   exact⟨k1,k2,k3.imp (fun ⟨r,a1,a2⟩=>⟨r+1,by simp[a1],by omega⟩) id⟩
theorem WL{f:FuncId}{all alls:List Nat}{q n:Nat}{G:FE}{M M0:MS}(fX:∀k e,look M k=some e->e.1<n->look M0 k=some e):∀ {l:List CQ} {x x':CR l} {y y':CB l} {qs:List (Option Nat)} {i j:Nat},(∀k e,j<=k->k≠q->look M0 k=some e->look (initK f all q l x y i j).2 k=some e)->j+l.length<=q->gA G f alls M l (rng l.length j)=some (x',y',qs)->JY l (rng l.length j) M n=true->x'=x:=by
 intro l
 induction l with
 |nil=>intro x x' y y' qs i j _ _ _ _;rfl
 |cons c l ih =>
  intro x x' y y' qs i j h0 hq hi hf;simp only[zLZ]at hq
  cases c with
  |r t T =>
   simp only[zLZ,rng,gA]at hi;simp only[zLZ,rng,JY,zLR]at hf;split at hi
   ·rename_i st nw t' x1 T' hk
    split at hi
    ·rename_i x0 p hT hc hp
     cases hi
     rw[hk]at hf;have h1:=h0 j _ (zLT _) (by omega) (fX j _ hk (by have:=hf.1;dsimp only at this;rw[zX]at this;simpa using this))
     simp only[initK,look,Nat.beq_refl,cond_true,zLo,Prod.mk.injEq,MV.bx.injEq,AV.rd.injEq]at h1;obtain⟨_,_,⟨h2,h3⟩,_⟩:=h1;obtain⟨e1,e2⟩:=Ty.jL hc;have hx:x0=x.1:=by
      subst e1;have h3:=eq_of_heq h3
      rw[<-e2,h3];rfl
     have cP:p.1=x.2:=ih (x:=x.2) (i:=i+1) (j:=j+1) (fun k e oA aD cQ=>by
      have:=h0 k e (by omega) aD cQ
      rcases zD this with ⟨g1,_⟩|⟨_,g2⟩
      ·omega
      ·exact g2) (by omega) hp hf.2
     exact Prod.ext hx cP
    ·cases hi
   ·cases hi
  |p t T =>
   simp only[zLZ,rng,gA]at hi;simp only[zLZ,rng,JY]at hf;split at hi
   ·split at hi
    ·rename_i x0 p hT hc hp
     cases hi
     exact ih (x:=x) (y:=y.2) (i:=i+1) (j:=j+1) (fun k e oA aD cQ=>by
      have:=h0 k e (by omega) aD cQ
      rcases zD this with ⟨g1,_⟩|⟨_,g2⟩
      ·omega
      ·exact g2) (by omega) hp hf
    ·cases hi
   ·cases hi
  |s T =>
   simp only[zLZ,rng,gA]at hi;simp only[zLZ,rng,JY]at hf;split at hi
   ·split at hi
    ·rename_i p hT hc hp
     cases hi
     exact ih (x:=x) (y:=y) (i:=i+1) (j:=j+1) (fun k e oA aD cQ=>by
      have:=h0 k e (by omega) aD cQ
      rcases zD this with ⟨g1,_⟩|⟨_,g2⟩
      ·omega
      ·exact g2) (by omega) hp hf
    ·cases hi
   ·cases hi
  |o t T' T =>
   simp only[zLZ,rng,gA]at hi;simp only[zLZ,rng,JY]at hf;have key:∀k e,j+1<=k->k≠q->look M0 k=some e->look (initK f all q l x y.2 (i+1) (j+1)).2 k=some e:=fun k e oA aD cQ=>by
    have:=h0 k e (by omega) aD cQ
    rcases zD this with ⟨g1,_⟩|⟨_,g2⟩
    ·omega
    ·rcases zD g2 with ⟨g1,_⟩|⟨_,g2⟩
     ·omega
     ·exact g2
   split at hi
   ·split at hi
    ·split at hi
     ·rename_i xs p hT1 hx hp
      cases hi
      exact ih (x:=x) (y:=y.2) (i:=i+1) (j:=j+1) key (by omega) hp hf
     ·cases hi
    ·split at hi
     ·rename_i p hn hp
      cases hi
      exact ih (x:=x) (y:=y.2) (i:=i+1) (j:=j+1) key (by omega) hp hf
     ·cases hi
    ·cases hi
   ·cases hi
theorem zEH{P:Program}{E:VE}(hE:E.ok P)(hm:P.follows .mixedOrders=true){f:FuncId}{fn:Func}{c:Code}{h:H}{fs:FK}(hF:FnOk P f)(hf:P.funcs[f]?=some fn)(hb:fn.body=some c)(hc:okC fn.ntmps c=true)(bK:kg c=true)(xD:fn.results=#[])(hl:Nat.ble (fs.ps.len+fs.cs.length) fn.ntmps=true)(hN:Nat.blt 0 fn.ntmps=true)(hZ:fs.zT=E.Z)
  (hs:∀x c' y,Rq E f c h fs x c' y=fs.sem x c' y):fs.ok P f:=by
 refine⟨hF,fun O w hO vs x cr y bl ts σs ss G ha hC sA h0 hGG hσ n r hr=>?_⟩
 rw[<-hs x cr y]at hr;obtain⟨sY,sZ,hC7⟩:=hC.len;obtain⟨hblt,htsO⟩:=hC.mem;have iM:=Z2 ha
 have fT:=Nat.le_of_ble_eq_true hl;have fW:=kc (vs++Ku bl).toArray fn.ntmps (by simp only[List.size_toArray,zLS,List.length_map,iM,sY];exact fT)
 have fD:∀(j:Nat) v,(vs++Ku bl)[j]?=some v->Act.get { tmps:=(vs++Ku bl).toArray++Array.replicate (fn.ntmps-(vs++Ku bl).toArray.size) undef,defers:=[] } j=v:=fun j v hj=>kb (by simpa using hj)
 refine callsIn_wide.1 (callsIn_of_wp_marks (n:=0) hf hb trivial ?_);generalize ({ tmps:=(vs++Ku bl).toArray++Array.replicate (fn.ntmps-(vs++Ku bl).toArray.size) undef,defers:=[] }:Act)=a at fW fD |-
 let m:=fs.cs.length
 let all:=rng m 0
 let A:Nat->Prop:=fun b=>(b∈bl\/G b)\/w.heap.size<=b
 let U:Nat->Value:=fun k=>if k<m then .pointer (some ⟨bl.getD k 0,0,none⟩) else ss.headD .nilIface
 let ι:Nat->Nat:=fun k=>if k<m then ts.getD k 0 else σs.headD 0
 let s0:S:=⟨Yd fs.ps x 0++(initK f all m fs.cs cr y fs.ps.len 0).1,(initK f all m fs.cs cr y fs.ps.len 0).2,m+2,0⟩
 let X:Cx:=⟨P,O,U,m+2,ι,A,Go.Lift.Fr w,0,0⟩
 obtain⟨st,⟨nS,_⟩,f9⟩:=ZD ι s0.M 0
 let F:Frm:=⟨P,fn.ntmps,[],A,O,w,fun _ _=>False,0,bl,{ FrX.no st O w with nr:=true }⟩
 have hU:∀(r:Nat) b,bl[r]?=some b->U r=.pointer (some ⟨b,0,none⟩):=fun r b hr=>by
  have gF:r<m:=by have:=(zLX.1 hr).1;rw[sY]at this;exact this
  show (if r<m then _ else _)=_
  rw[zLr gF,zLk,hr];rfl
 have hι:∀(r:Nat) τ,ts[r]?=some τ->ι r=τ:=fun r τ hr=>by
  have gF:r<m:=by have:=(zLX.1 hr).1;rw[sZ]at this;exact this
  show (if r<m then _ else _)=_
  rw[zLr gF,zLk,hr];rfl
 have hUm:∀u,ss.head?=some u->U m=u:=fun u hu=>by
  show (if m<m then _ else ss.headD .nilIface)=u
  rw[zLs (Nat.lt_irrefl m)];cases ss with|nil=>cases hu|cons v ss=>simpa using hu
 have hιm:∀σ,σs.head?=some σ->ι m=σ:=fun u hu=>by
  show (if m<m then _ else σs.headD 0)=u
  rw[zLs (Nat.lt_irrefl m)];cases σs with|nil=>cases hu|cons v ss=>simpa using hu
 have hptr:∀k∈all,k<X.n/\∃b,X.U k=.pointer (some ⟨b,0,none⟩):=fun k hk=>by
  have:=Gs.1 hk;have gF:k<bl.length:=by rw[sY];show k<m;omega
  exact⟨by show k<m+2;omega,_,hU k _ (zLv gF)⟩
 have bX:all.map X.U=Ku bl:=mI (by simp[m,sY]) fun r v hr=>by
  rw[List.getElem?_map,Option.map_eq_some_iff]at hr;obtain⟨b,hb,rfl⟩:=hr;rw[Nat.zero_add];exact hU r b hb
 have sX:((qv all).sem X w).l (Ku bl):=by rw[<-bX];exact qX hptr
 have hM:=fun {k e}=>Ko (X:=X) (q:=m) (all:=all) (i:=fs.ps.len) (j:=0) rfl rfl (by show m<m+2;omega) sX (fun g hg=>.inl (.inr hg)) hC hσ (fun r b hr=>by rw[Nat.zero_add];exact hU r b hr) (fun r b hr=>by rw[Nat.zero_add];exact hι r b hr) hUm hιm (fun b hb=>.inl (.inl hb)) (k:=k) (e:=e)
 have bM:∀ {k e},look s0.M k=some e->(∃t,(ts++σs)[k]?=some t/\ι k=t)/\k<m+1:=fun {k e} he=>by
  obtain⟨_,_,h3⟩:=hM he;rcases h3 with ⟨r,h4,h5⟩|⟨h4,h5⟩
  ·have h5:k=r:=by omega
   subst h5;have gF:k<ts.length:=by rw[sZ];exact h4
   exact⟨⟨_,by rw[zLf gF];exact zLv gF,hι k _ (zLv gF)⟩,by show k<fs.cs.length+1;omega⟩
  ·subst h4
   cases σs with
   |nil=>exact zLh rfl h5
   |cons σ σs=>exact⟨⟨σ,by rw[zLg (by rw[sZ];exact zLT _),sZ];simp[m],hιm σ rfl⟩,zLd _⟩
 have hL:∀ {t e},look s0.L t=some e->e.1=0/\e.2.holds X w (a.get t):=fun {t e} he=>by
  rcases vw he with h1|⟨_,h1⟩
  ·exact Z0 (X:=X) (a:=a) (i:=0) rfl rfl ha (fun j v hj=>by rw[Nat.zero_add];exact fD j v (by rw[zLf (zLX.1 hj).1];exact hj)) h1
  ·obtain⟨q,h2,h3,h4⟩:=Kp h1
   subst h3 h4;have gF:q<bl.length:=by rw[sY];exact h2
   have hg:=fD (fs.ps.len+q) (.pointer (some ⟨bl[q],0,none⟩)) (by rw[zLg (by omega),iM,Nat.add_sub_cancel_left];simp[gF])
   refine⟨rfl,by show 0+q<m+2;have:q<m:=h2;omega,bl[q],?_,?_⟩
   ·rw[Nat.zero_add];exact hU q _ (zLv gF)
   ·rw[hg]
 have hX0:RelX F s0 a w X:=by
  refine⟨rfl,rfl,rfl,rfl,rfl,hO,fW,⟨rfl,rfl,rfl,zLT _,fun _ _ _=>rfl,hO,fun _ _ _=>rfl,fun _ _ h=>h,fun b hb=>.inr hb⟩,fun t e he _=>(hL he).2,fun k e he=>(hM he).2.1,fun t e he=>by rw[(hL he).1];exact Nat.succ_pos _,fun k e he=>⟨by rw[(hM he).1.1];exact Nat.succ_pos _,by have:=(bM he).2;show k<m+2;omega⟩,fun k k' e e' he he' _ _ fH=>?_,fun k e he _=>⟨fun hz=>?_,f9 k e he⟩,Nat.zero_le _,Nat.succ_pos _,fun _ _ h=>h.elim,⟨by show bl.length<=m+2;rw[sY];show m<=m+2;omega,fun j b hj=>hU j b hj⟩,?_⟩
  ·obtain⟨⟨t,a1,a2⟩,_⟩:=bM he
   obtain⟨⟨t',b1,b2⟩,_⟩:=bM he';have fH:ι k=ι k':=fH
   rw[a2,b2]at fH;subst fH;exact(List.getElem?_inj (zLX.1 a1).1 sA).1 (a1.trans b1.symm)
  ·obtain⟨⟨t,a1,a2⟩,_⟩:=bM he
   have hz:ι k=0:=hz;rw[a2]at hz;exact h0 (hz ▸ zLW a1)
  ·exact⟨nS,fun _ _ h=>h.elim,fun _ _ h=>h.elim,zb.refl _ _ _,rfl⟩
 have hWA:∀b,b<w.heap.size->¬(b∈bl\/G b)->¬A b:=fun b hb hn hA=>hA.elim hn fun h=>zLh hb (Nat.not_lt.2 h)
 have hWnz:∀b,(b∈bl\/G b)->O b≠0:=fun b hW hz=>by
  rcases hW with hW|hW
  ·exact h0 (by rw[<-hz,htsO];simp only[zLa];exact .inl (List.mem_map.2 ⟨b,hW,rfl⟩))
  ·exact h0 (by rw[<-hz];simp only[zLa];exact .inr (hGG b hW).2)
 -- tags at the end
 have sH:∀ {X':Cx} {w':World} (g0:Option Nat) (σ:Nat),Base A O w X'.O w'->(∀g,g0=some g->X'.O g≠0/\g<w'.heap.size)->∃O'':zR,zb 0 X'.O w' O'' w'/\KeepK (fun b=>b∈bl\/G b) O w O'' w'/\(∀b,b<w.heap.size->O'' b=O b)/\∀g,g0=some g->w.heap.size<=g->O'' g=σ:=by
  intro X' w' g0 σ hB oB;refine⟨fun b=>if b<w.heap.size then O b else if g0=some b then σ else X'.O b,⟨zLT _,fun b hb hz=>⟨?_,rfl⟩⟩,⟨hB.os,hB.tape,hB.output,hB.size,fun b hb hn=>hB.block b hb (hWA b hb hn),fun b hb _=>zLr hb,fun b hb hW=>?_,fun b hb=>?_⟩,fun b hb=>zLr hb,fun g hg sT=>?_⟩
  ·show (if b<w.heap.size then O b else if g0=some b then σ else X'.O b)=0
   split
   ·exact hB.zero b hb hz
   ·rw[zLs fun e=>(oB b e).1 hz];exact hz
  ·show (if b<w.heap.size then O b else _)≠0
   rw[zLr hb];exact hWnz b hW
  ·have sT:=hB.size
   show (if b<w.heap.size then O b else if g0=some b then σ else X'.O b)=0
   rw[zLs (by omega),zLs fun e=>by have:=(oB b e).2;omega]
   exact hB.ok b hb
  ·show (if g<w.heap.size then O g else if g0=some g then σ else X'.O g)=σ
   rw[zLs (by omega),zLr hg]
 have xT:∀F' s' a' w',F.To F'->Rel F' s' a' w'->Inv s0 s'->(rtK E f fs s').run n=some r->LeavesInM Fence.wide 0 P fn a'.tmps (fs.post P f cr O w bl ts σs G r) a'.defers .returning w':=by
  intro F' s' a' w' hT h' hi hr;have aN:=hT.nr rfl
  subst aN;refine leaves (.refl F) rfl (fun _ _ h=>h) (zLT _) h' fun q n' ep' w2 hX'=>?_
  obtain⟨X',hX'⟩:=hX';have hP:X'.P=P:=hX'.P
  have hE':E.ok X'.P:=by rw[hP];exact hE
  unfold rtK at hr;split at hr
  ·rename_i p hp
   split at hr
   ·rename_i eH
    rw[zLR]at eH;have e:=run_pure hr
    subst e;have hfk:=eH.2
    have eH:=Nat.le_of_ble_eq_true eH.1;obtain⟨i1,i2,bl2,ss2,i3,i4⟩:=KZ (fr:=0) hE'.G hX'.m hp;obtain⟨tC,aT⟩:=HS i3;have hbl2:bl2=bl:=by
     refine List.ext_getElem? fun r=>?_
     by_cases hr:r<m
     ·have e1:bl2[r]?=some bl2[r]:=zLv (by omega)
      have e2:bl[r]?=some bl[r]:=zLv (by rw[sY];exact hr)
      have q1:=aT r _ e1;have q2:=hX'.bl.2 r _ e2
      rw[Nat.zero_add,q2]at q1;simp only[Value.pointer.injEq,zLo,Addr.mk.injEq,and_true]at q1;rw[e1,e2,q1]
     ·rw[List.getElem?_eq_none (by omega),List.getElem?_eq_none (by rw[sY];exact Nat.le_of_not_lt hr)]
    subst hbl2;have hus':(rng m 0).map X'.U=Ku bl2:=mI (by simp[tC];rfl) fun r v hr=>by
     rw[List.getElem?_map,Option.map_eq_some_iff]at hr;obtain⟨b,hb,rfl⟩:=hr;exact aT r b hb
    have hC':=i4 (lP X' p.2.2) fun g hg=>hg
    have bB:p.1=cr:=WL (f:=f) (all:=all) (q:=m) (x:=cr) (y:=y) (i:=fs.ps.len) (j:=0) hi.m (fun k e _ _ h=>h) (by show 0+m<=m;omega) hp hfk
    rw[bB]at hC';rw[hus',hP]at hC';obtain⟨n1,n2⟩:=hC'.nO;have n3:=hC.nO.1
    have bN:Base A O w X'.O w2:=hX'.base
    -- its slice
    have xK:∀g,lP X' p.2.2 g->A g/\X'.O g≠0/\g ∉ bl2:=fun g hg=>by
     obtain⟨j,hj,hg⟩:=hg;obtain⟨st',nw,t,T',xs',hl'⟩:=i2 j hj;have hOj:=hX'.m j _ hl'
     change zo (X'.ι j) (t.gr X'.P) T' (X'.B nw) X'.O w2 (X'.U j) xs' at hOj
     refine⟨(hX'.okB nw).sub _ (hOj.ge g hg).1,by rw[hOj.tagged g hg];exact(hX'.pos j _ hl' rfl).1,fun hm=>?_⟩
     obtain⟨k,oA,aD⟩:=i3.mem g hm;obtain⟨st2,nw2,c2,T2,cQ⟩:=i1 k oA;obtain⟨b',cs',k1,k2,k3,k4⟩:=hX'.m k _ cQ;rw[aD]at k1;simp only[Value.pointer.injEq,zLo,Addr.mk.injEq,and_true]at k1;subst k1;have:=hX'.inj j k _ _ hl' cQ rfl rfl ((hOj.tagged g hg).symm.trans k2.tag)
     subst this;rw[hl']at cQ;cases cQ
    have hss:∀u∈ss2,∀g,u.ownBlock=some g->lP X' p.2.2 g/\g<w2.heap.size:=fun u hu g hg=>⟨(n2 u hu g hg).1.2,(n2 u hu g hg).2⟩
    obtain⟨O'',q1,q2,q3,q4⟩:=sH (X':=X') (w':=w2) (ss2.head?.bind Value.ownBlock) (σs.headD 0) bN fun g hg=>by
     cases ss2 with
     |nil=>cases hg
     |cons u ss2=>exact⟨(xK g (hss u (by simp) g hg).1).2.1,(hss u (by simp) g hg).2⟩
    refine⟨_,by simp[results,xD];rfl,O'',q2,⟨_,rfl⟩,ss2,Cnt.Cf q1 hC' ?_ (by rw[n1,n3]) fun i u σ' hu hσ' g hg hQ=>?_⟩
    ·rw[htsO];exact List.map_congr_left fun b hb=>(q3 b (hblt b hb)).symm
    ·have hi:i=0:=by have:=(zLX.1 hσ').1;omega
     subst hi;obtain⟨h1,h2,h3⟩:=xK g hQ;have hσh:σs.headD 0=σ':=by cases σs with|nil=>simp at hσ'|cons _ _=>simpa using hσ'
     by_cases gF:g<w.heap.size
     ·have hGg:G g:=by
       rcases h1 with (h1|h1)|h1
       ·exact zLh h1 h3
       ·exact h1
       ·omega
      refine⟨?_,.inr hGg⟩;rw[q3 g gF];have sK:=(hGG g hGg).2
      cases σs with
      |nil=>cases sK
      |cons σ σs =>
       cases σs with
       |nil=>simp at sK hσ';rw[sK,hσ']
       |cons _ _=>simp at hσ
     ·refine⟨?_,.inl (Nat.le_of_not_lt gF)⟩
      rw[q4 g ?_ (Nat.le_of_not_lt gF),hσh]
      cases ss2 with
      |nil=>simp at hu
      |cons v ss2=>simp at hu;subst hu;exact hg
   ·cases hr
  ·cases hr
 refine Yl c (F:=F) hm (fun _ _ h=>h) hE hc (.inr bK) rfl ⟨X,hX0⟩ (Inv.refl _) hr ⟨fun F' s' a' w' h0 h1 hi h2=>xT F' s' a' w' h0 h1 hi h2,fun i fC F' s' a' w' _ _ _ h2=>?_,fun F' s' a' w' h0 h1 hi h2=>xT F' s' a' w' h0 h1 hi h2,fun F' s' a'' v0 w' hT h1 _ h2=>?_⟩
 ·rw[show Nat.beq i PL=false by rw[zU];exact zLt fC]at h2;cases h2
 ·have aN:=hT.nr rfl
  subst aN;obtain⟨X',hX'⟩:=h1;have hP:X'.P=P:=hX'.P
  rw[Nat.beq_refl]at h2
  change (pnK E fs s').run n=some r at h2
  unfold pnK at h2;split at h2
  ·rename_i φ oR
   split at h2
   ·rename_i z hz
    have e:=run_pure h2;subst e;have hdd:a''.defers=[]:=(Act.put_defers a'' (some 0) v0).symm.trans hX'.fit.defers
    show LeavesInM Fence.wide 0 P fn a''.tmps _ a''.defers (.panicking _) w'
    rw[hdd];rw[<-hX'.ep]at oR;have hv:=hX'.rd #[.tmp 0] (.tmp 0) _ (by simp) oR
    change φ.holds X' w' ((a''.put (some 0) v0).get 0) at hv
    rw[yV (wK hX'.fit) (uy hN)]at hv;obtain⟨O'',q1,q2,_,_⟩:=sH (X':=X') (w':=w') none 0 hX'.base fun g hg=>nomatch hg
    refine⟨O'',q2,v0,?_,?_⟩
    ·rw[hZ]
    ·have hE':E.ok X'.P:=by rw[hP];exact hE
     have:=GR.y7 _ (AV.Z1 hE'.G (M:=[]) (fun k e he=>nomatch he) hz hv) q1
     rwa[hP]at this
   ·cases h2
  ·cases h2
def cl:Code->Code
 |.seq a _=>a
 |c=>c
def cr:Code->Code
 |.seq _ b=>b
 |c=>c
def opsOf:Code->List Oper
 |.region _ ops _=>ops.toList
 |_=>[]
structure RecG(P:Program)(g:FuncId)(gn:Func)(R0 rest:Code)(m se so:Nat)(T:TypeId)(zt:Ty):Prop where
 fn:P.funcs[g]?=some gn
 ok:FnOk P g
 body:gn.body=some (.seq R0 rest)
 res:gn.results=#[]
 sl:m<=se/\m<=so/\se≠so
 pan:∀(caps:List Value),caps.length=m->∀(c₀:Frame) cs w v,(∃O w z,(zt.gr P).v O w v z)->c₀.mode=.panicking [{ v:=.iface T v,recovered:=false }]->∀Q:Exit->Act->List Frame->World->Prop,
  (∀a1 w1,Ext w w1->a1.fitD gn.ntmps []->(∀(i:Nat) u,caps[i]?=some u->a1.get i=u)->a1.get se=v->a1.get so=.bool true->Q .normal a1 ({ c₀ with mode:=.panicking [{ v:=.iface T v,recovered:=true }] }::cs) w1) ->
  R0.wpSIn Fence.wide 0 P Q { tmps:=caps.toArray++Array.replicate (gn.ntmps-caps.toArray.size) undef,defers:=[] } (c₀::cs) w
 ret:∀(caps:List Value),caps.length=m->∀(c₀:Frame) cs w,c₀.mode=.returning->∀Q:Exit->Act->List Frame->World->Prop,
  (∀a1 w1,Ext w w1->a1.fitD gn.ntmps []->(∀(i:Nat) u,caps[i]?=some u->a1.get i=u)->a1.get so=.bool false->Q .normal a1 (c₀::cs) w1) ->
  R0.wpSIn Fence.wide 0 P Q { tmps:=caps.toArray++Array.replicate (gn.ntmps-caps.toArray.size) undef,defers:=[] } (c₀::cs) w
def Hl(n:Nat):List Nat->Nat->LS
 | [],_=>[]
 |k::l,i=>(i,n,.bx k 0)::Hl n l (i+1)
theorem pU{n:Nat}:∀ {l:List Nat} {i t:Nat} {e:Nat×AV},look (Hl n l i) t=some e->∃r k,l[r]?=some k/\t=i+r/\e=(n,.bx k 0)
 | [],_,_,_,h=>nomatch h
 |k::l,i,t,e,h=>by
  rcases zD h with ⟨h1,h2⟩|⟨_,h2⟩
  ·exact⟨0,k,rfl,h1.symm,h2.symm⟩
  ·obtain⟨r,k',g1,g2,g3⟩:=pU h2;exact⟨r+1,k',g1,by omega,g3⟩
def AA(E:VE)(rest:Code)(hG:H)(se so:Nat)(ks:List Nat)(s:S)(e:AV)(ok:Bool)(k:S->Comp β):Comp β :=
 den E rest β hG ⟨Hl s.n ks 0++[(se,s.n,e),(so,s.n,.rd .bool ok)],s.M,s.n+1,s.ep⟩ (fun s2=>k (s2.back (JV s.n s.L)).tick) (fun _ _=>Comp.fail) (fun s2=>k (s2.back (JV s.n s.L)).tick)
def zEs(T:TypeId)(v:Value):Bool->FrameMode
 |true=>.panicking [{ v:=.iface T v,recovered:=false }]
 |false=>.returning
section
variable {F:Frm} {E:VE}
theorem QV{g:FuncId}{gn:Func}{R0 rest:Code}{m se so:Nat}{T:TypeId}{zt:Ty}{P:Program}(hP:F.P=P)(hg:RecG P g gn R0 rest m se so T zt)(hm:P.follows .mixedOrders=true)(hE:E.ok P)(fA:okC gn.ntmps rest=true)(bK:kg rest=true)(fE:∀t φ,¬F.Lh t φ)(sB:F.x.sb=F.w0.heap.size)(xC:F.x.rd=none)(hxn:F.x.nr=true)
  {ks:List Nat} {us:List Value} (bV:ks.length=m) (bX:us.length=m) (sX:∀(i k:Nat) u,ks[i]?=some k->us[i]?=some u->F.x.kv u (.bx k 0)) (hD:F.D=[{ target:=.fn (.func g) us.toArray,args:=#[] }])
  {fn:Func} {R:Ending->World->Prop} {s:S} {a:Act} {w:World} (hR:Rel F s a w) {e:AV} {ok:Bool} {v:Value} (he:ok=true->e.zg=false/\(∃O w z,(zt.gr P).v O w v z)/\∃X,RelX F s a w X/\e.holds X w v) (hft:ok=false->e=.top) {hG:H} {k:S->Comp β} {nf:Nat} {y:β} (hr:(AA E rest hG se so ks s e ok k).run nf=some y)
  (hk:∀s' w',Rel F s' a w'->(k s').run nf=some y->∃v,(results fn a.tmps).run P w'=.ok v w'/\R (.returned v) w') :
  LeavesInM Fence.wide 0 P fn a.tmps R a.defers (zEs T v ok) w:=by
 subst hP
 -- what is known in all
 obtain⟨X,hX,heX⟩:∃X,RelX F s a w X/\(ok=true->e.holds X w v):=by
  cases ok with
  |true=>obtain⟨_,_,X,h1,h2⟩:=he rfl;exact⟨X,h1,fun _=>h2⟩
  |false=>obtain⟨X,h1⟩:=hR;exact⟨X,h1,fun h=>nomatch h⟩
 have hef:e.zg=false:=by
  cases ok with
  |true=>exact(he rfl).1
  |false=>rw[hft rfl];rfl
 rw[show a.defers=F.D from hX.fit.defers,hD]
 obtain⟨gn',k1,k2,k3⟩:=hg.ok.h;have hinv:(invoke (Target.fn (.func g) us.toArray) #[]).run F.P w=.ok (.enter g us.toArray) w:=by
  simp only[invoke,callFunc,run_program,Sem.run_bind,Sem.run_pure,Result.andThen,k1];simp[k2,k3]
 let L1:=JV s.n s.L
 have hL1:∀t e,look L1 t=some e->e.2.zg=false:=fun t e he=>(gP he).1
 let kv1:Value->AV->Prop:=fun u φ=>F.x.kv u φ\/∃t e,look L1 t=some e/\u=a.get t/\φ=e.2
 let F1:Frm:={ F with N:=gn.ntmps,D:=[],x:={ F.x with kv:=kv1 } }
 have hXn:∀t e,look L1 t=some e->e.2.holds X w (a.get t):=fun t e he=>by
  rcases(gP he).2 with h1|h1
  ·exact hX.l t e h1 (by simp[fresh,(gP he).1])
  ·rw[h1];trivial
 -- behind its first region
 have xA:∀(a1:Act) (w1:World) (cs':List Frame) (c₀:Frame) (cs:List Frame) (u':FrameMode),Ext w w1->a1.fitD gn.ntmps []->(∀(i:Nat) u,us[i]?=some u->a1.get i=u)->(ok=true->a1.get se=v)->a1.get so=.bool ok->cs'={ c₀ with mode:=u' }::cs->settle u'=.returning ->
   rest.wpSIn Fence.wide 0 F.P (bodyPostS F.P gn c₀ cs fun e u w=>match e with
    |.returned _=>LeavesInM Fence.wide 0 F.P fn a.tmps R [] (settle u) w
    |.panicked chain=>LeavesInM Fence.wide 0 F.P fn a.tmps R [] (raised u chain) w
    |.outgrown=>R .outgrown w) a1 cs' w1:=by
  intro a1 w1 cs' c₀ cs u' pV fW hB7 hse hso tW cV;subst tW;have aC:=hX.ext pV
  have fT:X.le w X w1:=X.le_ext pV
  let X2:Cx:={ X with n:=s.n+1 }
  have b8:X.le w X2 w1:=⟨rfl,zb.ext pV,fun _ _=>rfl,by rw[hX.n];exact zLc _,rfl⟩
  have hle3:X.le w1 X2 w1:=⟨rfl,zb.refl _ _ _,fun _ _=>rfl,by rw[hX.n];exact zLc _,rfl⟩
  have hex:Exx F1.x X2 w1:=⟨aC.ex.st,aC.ex.sys,fun u φ hu=>by
   rcases hu with hu|⟨t,e,he,rfl,rfl⟩
   ·have h1:=aC.ex.kv u φ hu
    exact⟨h1.1,φ.le h1.1 hle3 h1.2⟩
   ·exact⟨hL1 t e he,e.2.le (hL1 t e he) b8 (hXn t e he)⟩,aC.ex.since,aC.ex.L⟩
  have hL2:∀t e',look (Hl s.n ks 0++[(se,s.n,e),(so,s.n,.rd .bool ok)]) t=some e'->e'.1=s.n/\e'.2.holds X2 w1 (a1.get t):=fun t e' he'=>by
   rcases vw he' with h1|⟨_,h1⟩
   ·obtain⟨r,k,q1,q2,q3⟩:=pU h1
    subst q2 q3;have gF:r<us.length:=by rw[bX,<-bV];exact(zLX.1 q1).1
    have hu:=zLv gF;have hb:=(hex.kv _ _ (.inl (sX r k _ q1 hu))).2
    refine⟨rfl,?_⟩;rw[Nat.zero_add,hB7 r _ hu];exact hb
   ·rcases zD h1 with ⟨q1,q2⟩|⟨_,h2⟩
    ·subst q1 q2
     refine⟨rfl,?_⟩
     cases ok with
     |true=>show e.holds X2 w1 (a1.get se);rw[hse rfl];exact e.le hef b8 (heX rfl)
     |false=>show e.holds X2 w1 _;rw[hft rfl];trivial
    ·rcases zD h2 with ⟨q1,q2⟩|⟨_,h3⟩
     ·subst q1 q2
      refine⟨rfl,?_⟩;rw[hso];exact j6.2 rfl
     ·cases h3
  have aM:RelX { F with x:=F.x } ⟨s.L,s.M,s.n+1,s.ep⟩ a w1 X2:=aC.go aC.fit rfl rfl rfl (fun _ _=>zb.refl _ _ _) (fun _ _=>rfl) rfl aC.ep (zLc _) (Nat.le_succ_of_le aC.epn) aC.base (fun hf=>⟨hf,Ext.refl _⟩) (fun _ _ _=>rfl) (fun t e he=>.inr ⟨he,rfl,fun _ hf=>⟨hf,Ext.refl _⟩⟩) (fun k e he=>.inr ⟨he,rfl,fun _=>zb.refl _ _ _⟩) aC.inj aC.pos
  have hB8:RelX F1 ⟨Hl s.n ks 0++[(se,s.n,e),(so,s.n,.rd .bool ok)],s.M,s.n+1,s.ep⟩ a1 w1 X2 :=
   aM.conv (F':=F1) (L':=Hl s.n ks 0++[(se,s.n,e),(so,s.n,.rd .bool ok)]) rfl rfl rfl rfl fE rfl rfl rfl fW (fun t e he _=>(hL2 t e he).2) (fun t e he=>by rw[(hL2 t e he).1];exact zLd _) hex
  have hfin:∀F2 s2 a2 w2,F1.To F2->Rel F2 s2 a2 w2->Inv ⟨Hl s.n ks 0++[(se,s.n,e),(so,s.n,.rd .bool ok)],s.M,s.n+1,s.ep⟩ s2->(k (s2.back (JV s.n s.L)).tick).run nf=some y->a2.defers=[]/\∃v,(results gn a2.tmps).run F.P w2=.ok v w2/\LeavesInM Fence.wide 0 F.P fn a.tmps R [] (settle u') w2:=by
   intro F2 s2 a2 w2 hT ⟨Xc,b7⟩ hi aD;have aN:=hT.nr hxn
   subst aN;refine⟨b7.fit.defers,_,by simp[results,hg.res];rfl,?_⟩
   rw[cV];have dL:RelX F (s2.back L1) a w2 Xc:=by
    refine b7.conv (F':=F) (L':=L1) rfl rfl rfl rfl fE rfl rfl rfl hX.fit (fun t e he _=>?_) (fun t e he=>?_) ⟨b7.ex.st,b7.ex.sys,fun u φ hu=>b7.ex.kv u φ (.inl hu),b7.ex.since,b7.ex.L⟩
    ·exact(b7.ex.kv _ _ (.inr ⟨t,e,he,rfl,rfl⟩)).2
    ·have gF:e.1<s.n+1:=by
      rcases(gP he).2 with h1|h1
      ·exact Nat.lt_succ_of_lt (hX.ln t e h1)
      ·rw[h1];exact zLd _
     exact zLe gF hi.le
   have eQ:RelX F (s2.back L1).tick a w2 { Xc with n:=s2.n+1,ep:=s2.n }:=by
    refine dL.go dL.fit rfl rfl rfl (fun _ _=>zb.refl _ _ _) (fun _ _=>rfl) rfl rfl (zLc _) (zLc _) dL.base (fun hf=>zLh (hf:s2.n<=F.fe) (Nat.not_le.2 dL.fe)) (fun _ _ _=>rfl) (fun t e he=>.inr ⟨he,rfl,fun fY _=>?_⟩) (fun k e he=>.inr ⟨he,rfl,fun _=>zb.refl _ _ _⟩) dL.inj dL.pos
    rw[hL1 t e he]at fY;cases fY
   exact hk _ _ ⟨_,eQ⟩ aD
  have hden:rest.wpIn Fence.wide 0 F.P (fun e a' w'=>bodyPostS F.P gn c₀ cs (fun e u w=>match e with
    |.returned _=>LeavesInM Fence.wide 0 F.P fn a.tmps R [] (settle u) w
    |.panicked chain=>LeavesInM Fence.wide 0 F.P fn a.tmps R [] (raised u chain) w
    |.outgrown=>R .outgrown w) e a' ({ c₀ with mode:=u' }::cs) w') a1 w1:=by
   have hd:=Yl rest (F:=F1) (Q:=fun e a' w'=>bodyPostS F.P gn c₀ cs (fun e u w=>match e with
    |.returned _=>LeavesInM Fence.wide 0 F.P fn a.tmps R [] (settle u) w
    |.panicked chain=>LeavesInM Fence.wide 0 F.P fn a.tmps R [] (raised u chain) w
    |.outgrown=>R .outgrown w) e a' ({ c₀ with mode:=u' }::cs) w') hm fE hE fA (.inr bK) sB ⟨X2,hB8⟩ (Inv.refl _) hr ⟨fun F2 s2 a2 w2 h0 h1 h2 h3=>?_,fun i fC F2 s2 a2 w2 _ _ _ h3=>(nomatch h3),fun F2 s2 a2 w2 h0 h1 h2 h3=>?_,fun F2 s2 a2 _ w2 _ _ _ h3=>(nomatch h3)⟩
   ·unfold Frm.wp at hd
    change rest.wpIn (fw F.x.rd) 0 F.P _ a1 w1 at hd
    rw[xC]at hd;exact hd
   ·obtain⟨q1,v',q2,q3⟩:=hfin F2 s2 a2 w2 h0 h1 h2 h3
    exact⟨q1,u',rfl,v',q2,q3⟩
   ·obtain⟨q1,v',q2,q3⟩:=hfin F2 s2 a2 w2 h0 h1 h2 h3
    exact⟨q1,u',rfl,v',q2,q3⟩
  exact wpSIn_of_wpIn rfl hden
 cases ok with
 |true =>
  refine⟨by simp[zEs],.inr ⟨fun h=>by simp[Fence.wide]at h,.func g,us.toArray,g,us.toArray,rfl,hinv,fun _ _=>trivial,?_⟩⟩
  refine callsDIn_of_wpSIn (n:=0) hg.fn hg.body trivial fun c₀ cs hu=>?_
  refine wpSIn_seq (hg.pan us bX c₀ cs w v (he rfl).2.1 hu _ fun a1 w1 q1 q2 q3 q4 q5=>?_)
  exact xA a1 w1 _ c₀ cs _ q1 q2 q3 (fun _=>q4) q5 rfl rfl
 |false =>
  refine⟨by simp[zEs],.inr ⟨fun h=>by simp[Fence.wide]at h,.func g,us.toArray,g,us.toArray,rfl,hinv,fun _ _=>trivial,?_⟩⟩
  refine callsDIn_of_wpSIn (n:=0) hg.fn hg.body trivial fun c₀ cs hu=>?_
  refine wpSIn_seq (hg.ret us bX c₀ cs w hu _ fun a1 w1 q1 q2 q3 q5=>?_)
  refine xA a1 w1 _ c₀ cs .returning q1 q2 q3 (fun h=>nomatch h) q5 ?_ rfl
  have hu:c₀.mode=.returning:=hu;rw[<-hu]
end
theorem RelX.zFZ{F:Frm}{s:S}{a:Act}{w:World}{X:Cx}{d:Nat}{v:Value}(h:RelX F s (a.put (some d) v) w X)(fE:∀t φ,¬F.Lh t φ):RelX F (s.put (some d) .top) a w { X with n:=s.n+1 }:=by
 refine h.go (wK h.fit) rfl rfl rfl (fun _ _=>zb.refl _ _ _) (fun _ _=>rfl) rfl h.ep (zLc _) (Nat.le_succ_of_le h.epn) h.base (fun hf=>⟨hf,Ext.refl _⟩) (fun t φ hp=>zLh hp (fE t φ)) (fun u e he=>?_) (fun k e he=>.inr ⟨he,rfl,fun _=>zb.refl _ _ _⟩) h.inj h.pos
 rcases zD he with ⟨h1,h2⟩|⟨h1,h2⟩
 ·subst h1 h2;exact .inl ⟨zLd _,fun _=>trivial⟩
 ·exact .inr ⟨h2,(vi h1 v).symm,fun fY hf=>⟨hf,Ext.refl _⟩⟩
def dfD(E:VE)(g:FuncId)(m:Nat)(ops:List Oper)(s:S)(k:List Nat->S->Comp β):Comp β:=match ops with
 | [o,p]=>match p.op with
  |.defer c=>match c.callee with
   |.value x=>match c.args.toList,o.guard.isNone && (p.guard.isNone && (p.dst.isNone && Cq [o])) with
    | [],true=>step E (wrS ops) s o fun s1=>match rdO s1.ep s1.L [] [] x with
     |some (.cl f a b)=>match Nat.beq f g && W5 a,nQ b with
      |true,some ks=>match Nat.beq ks.length m with
       |true=>k ks s1
       |false=>Comp.fail
      |_,_=>Comp.fail
     |_=>Comp.fail
    |_,_=>Comp.fail
   |_=>Comp.fail
  |_=>Comp.fail
 |_=>Comp.fail
def exR(E:VE)(zt:Ty)(rest:Code)(hG:H)(se so:Nat)(ks:List Nat)(k:S->Comp β)(i:Nat)(s:S):Comp β:=match Nat.beq i PL with
 |true=>match rdO s.ep s.L [] [] (.tmp 0) with
  |some φ=>match φ.asT E.G [] zt with
   |some z=>AA E rest hG se so ks (s.put (some 0) .top) (.rd zt z) true k
   |none=>Comp.fail
  |none=>Comp.fail
 |false=>Comp.fail
def Rk(E:VE)(A B:Code)(dops:List Oper)(C:Code)(hA hB hC:H)(rest:Code)(hG:H)(g:FuncId)(m se so:Nat)(zt:Ty)(l:List ResultVar)(ps rs:Ty)(rk:List (Option TypeId))(x:ps.D):Comp rs.D :=
 den E A rs.D hA ⟨Yd ps x 0,[],1,0⟩ (fun s=>den E B rs.D hB s (fun s=>dfD E g m dops s fun ks s=>den E C rs.D hC s (fun s=>AA E rest hG se so ks s .top false (rtF E rk rs l)) (exR E zt rest hG se so ks (rtF E rk rs l)) (fun s=>AA E rest hG se so ks s .top false (rtF E rk rs l)))
  (fun _ _=>Comp.fail) (rtF E rk rs l)) (fun _ _=>Comp.fail) (rtF E rk rs l)
theorem zEC{P:Program}{E:VE}(hE:E.ok P)(hm:P.follows .mixedOrders=true){f:FuncId}{fn:Func}{A B C:Code}{id:Nat}{dops:List Oper}{hA hB hC:H}{fs:FS}(hF:FnOk P f)(hf:P.funcs[f]?=some fn)(hb:fn.body=some (.seq A (.seq B (.seq (.region id dops.toArray false) C))))
  (hcA:okC fn.ntmps A=true) (hcB:okC fn.ntmps B=true) (hcC:okC fn.ntmps C=true) (bK:(kg A && (kg B && kg C))=true) (hdd:zw fn.ntmps dops=true) (hl:Nat.ble fs.ps.len fn.ntmps=true) (hN:Nat.blt 0 fn.ntmps=true)
  {g:FuncId} {gn:Func} {R0 rest:Code} {m se so:Nat} {zt:Ty} (hg:RecG P g gn R0 rest m se so E.Z zt) {hG:H} (hcG:okC gn.ntmps rest=true) (hnG:kg rest=true)
  (hs:∀x,Rk E A B dops C hA hB hC rest hG g m se so zt fn.results.toList fs.ps fs.rs fs.rk x=fs.sem x):fs.ok P f:=by
 refine⟨hF,fun O w hO vs x ha n y hy=>?_⟩
 rw[<-hs x]at hy;simp only[zLR]at bK;have fW:=kc vs.toArray fn.ntmps (by have:=Z2 ha;simp only[List.size_toArray];rw[this];exact Nat.le_of_ble_eq_true hl)
 have fD:∀(j:Nat) v,vs[j]?=some v->Act.get { tmps:=vs.toArray++Array.replicate (fn.ntmps-vs.toArray.size) undef,defers:=[] } j=v:=fun j v hj=>kb (by simpa using hj)
 refine callsIn_wide.1 (callsIn_of_wp_marks (n:=0) hf hb trivial ?_);generalize ({ tmps:=vs.toArray++Array.replicate (fn.ntmps-vs.toArray.size) undef,defers:=[] }:Act)=a at fW fD |-
 let F:Frm:=⟨P,fn.ntmps,[],Go.Lift.Fr w,O,w,fun _ _=>False,0,[],{ FrX.no 1 O w with nr:=true }⟩
 let X:Cx:=⟨P,O,fun _=>.nilIface,1,fun k=>k,Go.Lift.Fr w,Go.Lift.Fr w,0,0⟩
 have hR:Rel F ⟨Yd fs.ps x 0,[],1,0⟩ a w:=by
  have fX:=fun {u e}=>Z0 (X:=X) (a:=a) (i:=0) rfl rfl ha (fun j v hj=>by rw[Nat.zero_add];exact fD j v hj) (u:=u) (e:=e)
  refine⟨X,rfl,rfl,rfl,rfl,rfl,hO,fW,Base.start hO,fun t e he _=>(fX he).2,fun k e he=>(nomatch he),fun t e he=>(by rw[(fX he).1];exact Nat.zero_lt_one),fun k e he=>(nomatch he),fun k k' e e' he=>(nomatch he),fun k e he=>(nomatch he),Nat.zero_le _,Nat.zero_lt_one,fun _ _ h=>h.elim,⟨Nat.zero_le _,fun j b hj=>(nomatch hj)⟩,⟨Nat.one_ne_zero,fun _ _ h=>h.elim,fun _ _ h=>h.elim,zb.refl _ _ _,rfl⟩⟩
 -- the results
 have xD:∀ {F':Frm},F'.P=P->F'.A=Go.Lift.Fr w->F'.O0=O->F'.w0=w->∀s' a' w',Rel F' s' a' w'->(rtF E fs.rk fs.rs fn.results.toList s').run n=some y->∃v,(results fn a'.tmps).run P w'=.ok v w'/\∃v',Ending.returned v=.returned v'/\Ext w w'/\∃rs,kP rs v'/\Y0 P O w.heap.size w' fs.rk fs.rs rs y:=by
  intro F' e1 e2 e3 e4 s' a' w' ⟨X',hX'⟩ hr;have hP:X'.P=P:=hX'.P.trans e1
  have hE':E.ok X'.P:=by rw[hP];exact hE
  unfold rtF at hr;split at hr
  ·rename_i m' hm'
   split at hr
   ·rename_i y' t6 hy'
    have e:=run_pure hr;subst e;obtain⟨vs',g1,g2,g3⟩:=Xk hE' hX' hm';obtain⟨v,g4,g5⟩:=kZ g1;rw[hP]at g4;refine⟨v,g4,v,rfl,?_,vs',g5,?_⟩
    ·have:=hX'.base
     rw[e2,e3,e4]at this;exact this.ext
    ·have:=uX hE'.G hX' hy' g2 fun i φ u hi hu=>⟨g3 i φ u hi hu,kS t6 φ (zLW hi)⟩
     rwa[hP,e3,e4]at this
   ·cases hr
  ·cases hr
 have xT:∀F' s' a' w',F.To F'->Rel F' s' a' w'->(rtF E fs.rk fs.rs fn.results.toList s').run n=some y->LeavesInM Fence.wide 0 P fn a'.tmps (fun e w'=>∃v,e=.returned v/\Ext w w'/\∃rs,kP rs v/\Y0 P O w.heap.size w' fs.rk fs.rs rs y) a'.defers .returning w':=by
  intro F' s' a' w' hT h' hr;have aN:=hT.nr rfl
  subst aN;have:=xD rfl rfl rfl rfl s' a' w' h' hr
  obtain⟨X',hX'⟩:=h';rw[show a'.defers=[] from hX'.fit.defers]
  exact this
 refine wpIn_seq ?_;refine Yl A (F:=F) hm (fun _ _ h=>h) hE hcA (.inr bK.1) rfl hR (Inv.refl _) hy ⟨fun F' s1 a1 w1 h0 h1 _ h2=>?_,fun i _ F' s' a' w' _ _ _ h2=>(nomatch h2),fun F' s' a' w' h0 h1 _ h2=>xT F' s' a' w' h0 h1 h2,fun F' s' a' _ w' _ _ _ h2=>(nomatch h2)⟩
 have aN:=h0.nr rfl;subst aN;show Code.wpIn Fence.wide 0 P (.seq B _) _ a1 w1
 refine wpIn_seq ?_;refine Yl B (F:=F) hm (fun _ _ h=>h) hE hcB (.inr bK.2.1) rfl h1 (Inv.refl _) h2 ⟨fun F' s2 a2 w2 h0 h1 _ h2=>?_,fun i _ F' s' a' w' _ _ _ h2=>(nomatch h2),fun F' s' a' w' h0 h1 _ h2=>xT F' s' a' w' h0 h1 h2,fun F' s' a' _ w' _ _ _ h2=>(nomatch h2)⟩
 have aN:=h0.nr rfl;subst aN;show Code.wpIn Fence.wide 0 P (.seq _ C) _ a2 w2
 refine wpIn_seq ?_;obtain⟨o,p,rfl⟩:∃o p,dops=[o,p]:=by
  unfold dfD at h2;split at h2
  ·exact⟨_,_,rfl⟩
  ·cases h2
 simp only[dfD]at h2;split at h2
 ·rename_i c xV
  split at h2
  ·rename_i xf a8
   split at h2
   ·rename_i fU xF
    simp only[zLR]at xF;have sA:=qO xF.2.2.2 o (by simp)
    have cF:o.guard=none:=by have:=xF.1;cases h:o.guard with|none=>rfl|some _=>rw[h]at this;cases this
    have hpg:p.guard=none:=by have:=xF.2.1;cases h:p.guard with|none=>rfl|some _=>rw[h]at this;cases this
    have hpd:p.dst=none:=by have:=xF.2.2.1;cases h:p.dst with|none=>rfl|some _=>rw[h]at this;cases this
    have fZ:F.dst o.dst:=fun t ht=>⟨((zV hdd (show ([o,p]:List Oper)[0]?=some o from rfl)).2.1 t ht).1,fun φ h=>h⟩
    show F.wp (.region id _ false) _ a2 w2
    refine Jd (fun h=>nomatch h) ?_
    show Y2 (F.W _) _ _ (List.range 2) a2 w2
    rw[List.range_eq_range'];show Y2 (F.W _) _ _ (List.range' 0 ([o,p]:List Oper).length) a2 w2
    rw[kF [o,p] 0 (by simp)]
    simp only[vp,Region.wanted,cF,hpg,if_true];refine jo sA (Ki hE h1 _ _ fZ n y h2 _ _ fun s3 v w3 k1 k2 k3=>?_)
    split at k3
    ·rename_i f' ca cb hφ
     split at k3
     ·rename_i ks hfa bV
      rw[zLR]at hfa;split at k3
      ·rename_i kA
       obtain⟨X3,aM⟩:=k1;rw[<-aM.ep]at hφ;have hP3:X3.P=P:=aM.P
       have aR:=aM.rd #[xf] xf _ (by simp) hφ
       obtain⟨vs3,us,c1,c2,c3⟩:=aR;have eS:=mW hfa.2
       subst eS;have hvs3:vs3=[]:=c1
       subst hvs3;have hcb:=qN bV
       subst hcb;obtain⟨c4,c5⟩:=AC c2;have hfg:=zLQ hfa.1
       subst hfg;have hks3:ks.length=m:=zLQ kA
       have oC:c.args=#[]:=Array.ext' (by simpa using fU)
       have fI:(execOp (a2.put o.dst v).eval p).run P w3=.ok (.defer { target:=.fn (.func f') us.toArray,args:=#[] }) w3:=by
        simp[execOp,xV,resolve,a8,c3,Deferred.ofValue,oC]
       let dfr:Deferred:={ target:=.fn (.func f') us.toArray,args:=#[] }
       let F2:Frm:={ F with D:=[dfr],x:={ F.x with kv:=fun u φ=>∃(i k:Nat),ks[i]?=some k/\us[i]?=some u/\φ=.bx k 0 } }
       have oD:us.length=m:=by rw[c4,List.length_map,hks3]
       let a4:Act:={ tmps:=(a2.put o.dst v).tmps,defers:=dfr::(a2.put o.dst v).defers }
       have hR4:Rel F2 s3 a4 w3:=by
        refine⟨X3,aM.conv (F':=F2) (L':=s3.L) rfl rfl rfl rfl (fun _ _ h=>h) rfl rfl rfl ⟨aM.fit.size,by show dfr::_=[dfr];rw[show (a2.put o.dst v).defers=[] from aM.fit.defers]⟩ aM.l aM.ln ⟨aM.ex.st,aM.ex.sys,fun u φ hu=>?_,aM.ex.since,aM.ex.L⟩⟩
        obtain⟨i,k,q1,q2,rfl⟩:=hu;refine⟨rfl,?_⟩;obtain⟨q3,b,q4⟩:=c5 k (zLW q1);rw[c4,List.getElem?_map,q1]at q2;simp only[Option.map_some,zLo]at q2;exact⟨q3,b,q4,q2.symm.trans q4⟩
       refine⟨fun _ _=>trivial,?_⟩
       show Oper.uponIn (fw none) 0 P p _ _ _ ((execOp (a2.put o.dst v).eval p).run P w3)
       rw[fI];show Code.wpIn Fence.wide 0 P C _ (Act.put { tmps:=(a2.put o.dst v).tmps,defers:=dfr::(a2.put o.dst v).defers } p.dst undef) w3
       rw[hpd];show Code.wpIn Fence.wide 0 P C _ a4 w3
       have bC:=fun {s':S} {a':Act} {w':World} (hR':Rel F2 s' a' w') (e:AV) (ok:Bool) (v':Value)=>QV (F:=F2) (P:=P) (E:=E) (fn:=fn) (R:=fun e w'=>∃v,e=.returned v/\Ext w w'/\∃rs,kP rs v/\Y0 P O w.heap.size w' fs.rk fs.rs rs y) rfl hg hm hE hcG hnG (fun _ _ h=>h) rfl rfl rfl hks3 oD (fun i k u q1 q2=>⟨i,k,q1,q2,rfl⟩) rfl hR' (e:=e) (ok:=ok) (v:=v') (hG:=hG) (k:=rtF E fs.rk fs.rs fn.results.toList) (nf:=n) (y:=y)
       refine Yl C (F:=F2) hm (fun _ _ h=>h) hE hcC (.inr bK.2.2) rfl hR4 (Inv.refl _) k3 ⟨fun F' s5 a5 w5 t0 t1 _ t2=>?_,fun i fC F' s5 a5 w5 t0 t1 _ t2=>?_,fun F' s5 a5 w5 t0 t1 _ t2=>?_,fun F' s5 a5 v5 w5 t0 t1 _ t2=>?_⟩
       ·have aN:=t0.nr rfl
        subst aN;exact bC t1 .top false undef (fun h=>nomatch h) (fun _=>rfl) t2 fun s' w' q1 q2=>xD rfl rfl rfl rfl s' a5 w' q1 q2
       ·unfold exR at t2
        rw[show Nat.beq i PL=false by rw[zU];exact zLt fC]at t2
        cases t2
       ·have aN:=t0.nr rfl
        subst aN;exact bC t1 .top false undef (fun h=>nomatch h) (fun _=>rfl) t2 fun s' w' q1 q2=>xD rfl rfl rfl rfl s' a5 w' q1 q2
       ·have aN:=t0.nr rfl
        subst aN;unfold exR at t2;rw[Nat.beq_refl]at t2;dsimp only at t2;split at t2
        ·rename_i φ hφ5
         split at t2
         ·rename_i z hz
          obtain⟨X5,aU⟩:=t1;have hX6:=aU.zFZ (fun _ _ h=>h)
          rw[<-aU.ep]at hφ5;have hv5:=aU.rd #[.tmp 0] (.tmp 0) _ (by simp) hφ5
          change φ.holds X5 w5 ((a5.put (some 0) v5).get 0) at hv5
          rw[yV (wK aU.fit) (uy hN)]at hv5;have fT:X5.le w5 { X5 with n:=s5.n+1 } w5:=⟨rfl,zb.refl _ _ _,fun _ _=>rfl,by rw[aU.n];exact zLc _,rfl⟩
          have hP5:X5.P=P:=aU.P;have hE5:E.ok X5.P:=by rw[hP5];exact hE
          have hz5:=AV.Z1 hE5.G (M:=[]) (fun k e he=>nomatch he) hz hv5
          exact bC ⟨_,hX6⟩ (.rd zt z) true v5 (fun _=>⟨rfl,⟨_,_,z,by rw[<-hP5];exact hz5⟩,_,hX6,hz5⟩) (fun h=>nomatch h) t2 fun s' w' q1 q2=>xD rfl rfl rfl rfl s' a5 w' q1 q2
         ·cases t2
        ·cases t2
      ·cases k3
     ·cases k3
    ·cases k3
   ·cases h2
  ·cases h2
 ·cases h2
def asQ(k:Knd)(φ:AV):Option AV:=match k,Kw φ with
 |.pr _ (.pr _ _),some (.pr (.ag a) .un)=>some a
 |_,o=>o
theorem E2{k:Knd}{φ ψ:AV}(h:asQ k φ=some ψ):Kw φ=some ψ\/Kw φ=some (.pr (.ag ψ) .un):=by
 unfold asQ at h;split at h
 ·rename_i e;cases h;exact .inr e
 ·exact .inl h
def Knd.ks(M:MS):Knd->AV->List (Option Nat)
 |.o ..,φ=>match Xs M φ with
  |some p=>[some p.1]
  |none=>[none]
 |.pr a b,φ=>match φ with
  |.pr φ1 φ2=>a.ks M φ1++b.ks M φ2
  |_=>[]
 |.ag l,φ=>match asQ l φ with
  |some φ=>l.ks M φ
  |none=>[]
 |_,_=>[]
def D2(ks:List (Option Nat)):MS->MS
 | []=>[]
 |e::M=>(e.1,e.2.1,match vf e.1 (yM ks) with
  |true=>.dead
  |false=>Z6 e.2.2)::D2 ks M
theorem pO{ks:List (Option Nat)}:∀ {M:MS} {k:Nat} {e:Nat×MV},look (D2 ks M) k=some e->∃m,look M k=some (e.1,m)/\((e.2=.dead)\/(e.2=Z6 m/\some k ∉ ks))
 | [],k,e,h=>by cases h
 |f::M,k,e,h=>by
  obtain⟨k0,st,m⟩:=f;simp only[D2,look]at h |-
  cases hb:Nat.beq k0 k with
  |true =>
   rw[hb]at h;have hk:=zLQ hb
   subst hk
   cases hm:vf k0 (yM ks) with
   |true=>rw[hm]at h;cases h;exact⟨m,rfl,.inl rfl⟩
   |false =>
    rw[hm]at h;cases h;exact⟨m,rfl,.inr ⟨rfl,fun hi=>by rw[kX.2 (YS.2 hi)]at hm;cases hm⟩⟩
  |false=>rw[hb]at h;exact pO h
def Knd.rt(G:FE)(M M':MS):(k:Knd)->AV->Option k.D
 |.v t,φ=>φ.asT G M' t
 |.o _ t T,φ=>match Xs M φ with
  |some p=>match p.2.1 && Nat.beq p.2.2.1 T,zEn p.2.2.2.2 (.sl t) with
   |true,some x=>some x
   |_,_=>none
  |none=>match Yk φ with
   |true=>some ([]:List t.D)
   |false=>none
 |.un,φ=>match φ with
  |.un=>some ()
  |_=>none
 |.pr a b,φ=>match φ with
  |.pr φ1 φ2=>match a.rt G M M' φ1,b.rt G M M' φ2 with
   |some x,some y=>some (x,y)
   |_,_=>none
  |_=>none
 |.ag l,φ=>match asQ l φ with
  |some φ=>l.rt G M M' φ
  |none=>none
 |.m ..,_=>none
 |.bv ..,_=>none
def Knd.rtL(G:FE)(M M':MS):(k:Knd)->List AV->Option k.D
 |.pr a b,l=>match l with
  |φ::l=>match a.rt G M M' φ,b.rtL G M M' l with
   |some x,some y=>some (x,y)
   |_,_=>none
  | []=>none
 |.un,l=>match l with
  | []=>some ()
  |_=>none
 |_,_=>none
def Knd.ksL(M:MS):Knd->List AV->List (Option Nat)
 |.pr a b,l=>match l with
  |φ::l=>a.ks M φ++b.ksL M l
  | []=>[]
 |_,_=>[]
def uOf(X:Cx):Option Nat->Value
 |some k=>X.U k
 |none=>.slice none 0 0
section
variable {F:Frm} {s:S} {a:Act} {w:World} {X:Cx} {E:VE}
def Cx.outJ(X:Cx)(F:Frm)(us:List Value):Cx:={ X with O:=uA F.O0 us }
theorem Qr{O:zR}{us:List Value}{b:Nat}(h:O b=0)(hn:∀u∈us,u.ownBlock≠some b):uA O us b=0:=by
 unfold uA;rw[zLs]
 ·exact h
 ·rw[List.any_eq_true]
  rintro⟨u,hu,he⟩;exact hn u hu (by simpa using he)
def Cd(X:Cx)(s:S)(ks:List (Option Nat)):Prop:=∀k,some k∈ks->∃st t T xs,look s.M k=some (st,.sl true t T xs)
theorem uf(h:RelX F s a w X){ks:List (Option Nat)}(hk:Cd X s ks){u:Value}(hu:u∈ks.map (uOf X)){g:Nat}(hg:u.ownBlock=some g):∃k e,some k∈ks/\look s.M k=some e/\e.2.own=true/\X.O g=X.ι k/\X.ι k≠0:=by
 obtain⟨o,ho,rfl⟩:=List.mem_map.1 hu
 cases o with
 |none=>cases hg
 |some k =>
  obtain⟨st,t,T,xs,hl⟩:=hk k ho;have hO:=h.m k _ hl
  change zo (X.ι k) (t.gr X.P) T (X.B true) X.O w (X.U k) xs at hO
  exact⟨k,_,ho,hl,rfl,hO.tagged g hg,(h.pos k _ hl rfl).1⟩
theorem RelX.mV(h:RelX F s a w X){ks:List (Option Nat)}(hk:Cd X s ks):X.le w (X.outJ F (ks.map (uOf X))) w:=⟨rfl,⟨zLT _,fun b hb hz=>⟨Qr (h.base.zero b hb hz) fun u hu hg=>by
 obtain⟨k,e,_,_,_,q1,q2⟩:=uf h hk hu hg;exact q2 (q1.symm.trans hz),rfl⟩⟩,fun _ _=>rfl,zLT _,rfl⟩
theorem RelX.Q4(h:RelX F s a w X){ks:List (Option Nat)}(hk:Cd X s ks):yD (D2 ks s.M) (X.outJ F (ks.map (uOf X))) w:=by
 intro k e he;obtain⟨m,h1,h2⟩:=pO he;have sN:=(h.mV hk).k
 rcases h2 with h2|⟨h2,h3⟩
 ·rw[h2];trivial
 have hh:=h.m k _ h1;rw[h2]
 -- a block of its own isn't among those
 have hz:∀g,m.own=true->X.O g=X.ι k->F.w0.heap.size<=g->uA F.O0 (ks.map (uOf X)) g=0:=fun g ho ht sT=>Qr (h.ok0 g sT) fun u hu hg=>by
  obtain⟨k',e',q1,q2,q3,q4,_⟩:=uf h hk hu hg;have:=h.inj k k' _ _ h1 q2 ho q3 (ht.symm.trans q4)
  exact h3 (this ▸ q1)
 cases m with
 |sl nw t T xs =>
  cases nw with
  |false=>trivial
  |true =>
   obtain⟨vs,g1,g2,g3⟩:=hh;refine YB.2 ⟨vs,g1.slv,g2.mono sN,fun _ g hg=>⟨g1.gC g hg,hz g rfl (g3 g hg).1 ?_⟩⟩
   have:=(g3 g hg).2
   change X.F g at this
   rw[h.Fn]at this;exact this
 |bx nw c T=>cases nw<;>trivial
 |fs t xs=>exact GR.y7 _ hh sN
 |fb t x=>exact GR.y7 _ hh sN
 |fg f=>trivial
 |mp nw a b xs =>
  cases nw with
  |false=>trivial
  |true =>
   obtain⟨c,es,clock,g1,g2,g3,g4,g5⟩:=hh;have hc:F.w0.heap.size<=c:=by
    have:X.F c:=g4;rw[h.Fn]at this;exact this
   exact⟨_,.inr ⟨c,es,clock,rfl,g2,g3.mono sN,hz c rfl g5 hc⟩,g1⟩
 |fm a b xs=>exact GR.y7 _ hh sN
 |dead=>trivial
end
section
variable {F:Frm} {s:S} {a:Act} {w:World} {X:Cx} {E:VE}
theorem tc:∀(t:Ty) (x:t.D),(UP t x).zg=false
 |.cons a b,x=>by show (_ || _)=false;rw[tc b];rfl
 |.nil,_|.int _,_|.bool,_|.str,_|.sl _,_|.arr ..,_|.box ..,_|.fn ..,_|.seq ..,_|.slo ..,_|.mp ..,_=>rfl
theorem R9{φ ψ:AV}(hψ:Kw φ=some ψ){cs:List Value}(hc:(φ.sem X w).c cs):(ψ.sem X w).c cs:=by
 unfold Kw at hψ;split at hψ
 ·cases hψ;exact hc
 ·split at hψ
  ·rename_i hb
   cases hψ
   rw[zLR]at hb;exact Et hb.2 hc
  ·cases hψ
 ·cases hψ
theorem zEY{φ ψ:AV}(hψ:Kw φ=some ψ){u:Value}(hu:φ.holds X w u):∃cs,(φ.sem X w).c cs/\u=yC true cs:=by
 unfold Kw at hψ;split at hψ
 ·obtain⟨cs,h1,h2⟩:=hu;exact⟨cs,h1,h2⟩
 ·split at hψ
  ·rename_i hb
   rw[zLR]at hb;obtain⟨cs,h1,h2⟩:=hu;refine⟨cs,h1,?_⟩;rw[h2,Ty.jF,hb.1]
  ·cases hψ
 ·cases hψ
theorem zHD{k:Knd}{φ ψ:AV}(hψ:asQ k φ=some ψ){cs:List Value}(hc:(φ.sem X w).c cs):(ψ.sem X w).c cs:=by
 rcases E2 hψ with e|e
 ·exact R9 e hc
 ·obtain⟨c1,c2,g1,g2,g3⟩:=R9 e hc
  have g3:c2=[]:=g3;rw[g1,g3,zLx];exact g2
theorem tv{φ ψ:AV}(hψ:Kw φ=some ψ)(hf:φ.zg=false):ψ.zg=false:=by
 unfold Kw at hψ;split at hψ
 ·cases hψ;exact hf
 ·split at hψ
  ·cases hψ;exact tc _ _
  ·cases hψ
 ·cases hψ
theorem MU{k:Knd}{φ ψ:AV}(hψ:asQ k φ=some ψ)(hf:φ.zg=false):ψ.zg=false:=by
 rcases E2 hψ with e|e
 ·exact tv e hf
 ·have:=tv e hf
  simpa[AV.zg] using this
theorem zHO(hG:FOk X.P E.G)(h:RelX F s a w X){all:List (Option Nat)}(fF:Cd X s all):∀ {k:Knd} {φ:AV} {x:k.D} {cs:List Value},k.rt E.G s.M (D2 all s.M) φ=some x->(∀o∈k.ks s.M φ,o∈all)->φ.zg=false->(φ.sem X w).c cs ->
  Ca X.P (uA F.O0 (all.map (uOf X))) w F.w0.heap.size k x cs ((k.ks s.M φ).map (uOf X)):=by
 have fT:=h.mV fF;intro k
 induction k with
 |v t =>
  intro φ x cs hr _ hf hc;exact⟨(AV.jS (X:=X.outJ F (all.map (uOf X))) hG φ (h.Q4 fF)).vc hr ((φ.mono fT fun hf'=>by rw[hf]at hf';cases hf').2.2 _ hc),rfl⟩
 |o nw t T =>
  intro φ x cs hr fX hf hc;simp only[Knd.rt]at hr;simp only[Knd.ks]at fX |-;split at hr
  ·rename_i p hp
   split at hr
   ·rename_i y hb hy
    cases hr
    rw[zLR]at hb;have bY:φ=.ob p.1/\∃st,look s.M p.1=some (st,.sl p.2.1 p.2.2.2.1 p.2.2.1 p.2.2.2.2):=by
     unfold Xs at hp;split at hp
     ·split at hp
      ·rename_i hk;cases hp;exact⟨rfl,_,hk⟩
      ·cases hp
     ·cases hp
    obtain⟨hφ,st,hk⟩:=bY;subst hφ;obtain⟨u,g1,g2,g3,g4,g5⟩:=hc;have hO:=h.m _ _ hk
    change zo (X.ι p.1) (p.2.2.2.1.gr X.P) p.2.2.1 (X.B p.2.1) X.O w (X.U p.1) p.2.2.2.2 at hO
    rw[hb.1]at hO
    change zo _ _ _ X.F _ _ _ _ at hO
    rw[h.Fn]at hO;obtain⟨vs,q1,q2,q3⟩:=hO;obtain⟨e1,e2⟩:=Ty.jL hy;injection e1 with e1;subst e1;have e2:p.2.2.2.2=x:=e2
    have q2':yk (p.2.2.2.1.gr X.P) X.O w vs x:=by rw[<-e2];exact q2
    have hT:=zLQ hb.2;refine⟨u,vs,g1,by simp[uOf,g3],g2,?_,q2'.mono fT.k⟩
    rw[g3,<-hT];exact q1.Q0 fun g hg=>(q3 g hg).2
   ·cases hr
  ·rename_i hp
   split at hr
   ·rename_i hn
    cases hr
    have hφ:=jU hn;subst hφ;refine⟨.slice none 0 0,[],hc,rfl,rfl,OwnS.nil _ _ _ _,trivial⟩
   ·cases hr
 |m nw a b=>intro φ x cs hr;cases hr
 |bv nw t T=>intro φ x cs hr;cases hr
 |un =>
  intro φ x cs hr _ hf hc;simp only[Knd.rt]at hr;split at hr
  ·exact⟨hc,rfl⟩
  ·cases hr
 |pr k1 k2 ih1 ih2 =>
  intro φ x cs hr fX hf hc;simp only[Knd.rt]at hr;split at hr
  ·rename_i φ1 φ2
   split at hr
   ·rename_i x1 x2 oR cP
    cases hr
    simp only[AV.zg,Bool.or_eq_false_iff]at hf;obtain⟨c1,c2,g1,g2,g3⟩:=hc;refine⟨c1,c2,_,_,g1,by simp only[Knd.ks,List.map_append],ih1 oR (fun o ho=>fX o (by simp[Knd.ks,ho])) hf.1 g2,ih2 cP (fun o ho=>fX o (by simp[Knd.ks,ho])) hf.2 g3⟩
   ·cases hr
  ·cases hr
 |ag l ih =>
  intro φ x cs hr fX hf hc;simp only[Knd.rt]at hr;split at hr
  ·rename_i ψ hψ
   have bV:(Knd.ag l).ks s.M φ=l.ks s.M ψ:=by simp only[Knd.ks];rw[hψ]
   rw[bV]at fX |-;exact ih hr fX (MU hψ hf) (zHD hψ hc)
  ·cases hr
theorem zKO(hG:FOk X.P E.G)(h:RelX F s a w X){all:List (Option Nat)}(fF:Cd X s all){k:Knd}{φ:AV}{x:k.D}{v:Value}(hr:k.rt E.G s.M (D2 all s.M) φ=some x)(fX:∀o∈k.ks s.M φ,o∈all)(hf:φ.zg=false)(oA:k.zEw=true)(hv:φ.holds X w v) :
  ∃cs,v=yC k.agg cs/\Ca X.P (uA F.O0 (all.map (uOf X))) w F.w0.heap.size k x cs ((k.ks s.M φ).map (uOf X)):=by
 have fT:=h.mV fF
 cases k with
 |v t =>
  have hv2:=AV.Z1 (X:=X.outJ F (all.map (uOf X))) hG (h.Q4 fF) hr (φ.le hf fT hv);obtain⟨cs,h1,h2⟩:=hv2;exact⟨cs,by rw[h2,Ty.jF];rfl,h1,rfl⟩
 |o nw t T =>
  have bR:∀ {u:Value},φ.holds X w u->u.oneCell'=true->(φ.sem X w).c [u]:=by
   intro u hu h1;simp only[Knd.rt]at hr;split at hr
   ·rename_i p hp
    have bY:φ=.ob p.1:=by
     unfold Xs at hp;split at hp
     ·split at hp
      ·cases hp;rfl
      ·cases hp
     ·cases hp
    rw[bY]at hu |-;exact⟨u,rfl,h1,hu⟩
   ·split at hr
    ·rename_i hn
     have hφ:=jU hn;subst hφ;rw[show u=_ from hu];rfl
    ·cases hr
  have h1:v.oneCell'=true:=by
   simp only[Knd.rt]at hr;split at hr
   ·rename_i p hp
    have bY:φ=.ob p.1:=by
     unfold Xs at hp;split at hp
     ·split at hp
      ·cases hp;rfl
      ·cases hp
     ·cases hp
    rw[bY]at hv;exact hv.2.2
   ·split at hr
    ·rename_i hn
     have hφ:=jU hn;subst hφ;rw[show v=_ from hv];rfl
    ·cases hr
  exact⟨[v],rfl,zHO hG h fF hr fX hf (bR hv h1)⟩
 |ag l =>
  have hψ:∃ψ,Kw φ=some ψ:=by
   simp only[Knd.rt]at hr;split at hr
   ·rename_i ψ hψ
    rcases E2 hψ with e|e
    ·exact⟨_,e⟩
    ·exact⟨_,e⟩
   ·cases hr
  obtain⟨ψ,hψ⟩:=hψ;obtain⟨cs,h1,h2⟩:=zEY hψ hv;exact⟨cs,h2,zHO hG h fF hr fX hf h1⟩
 |_=>cases oA
theorem zBb(hG:FOk X.P E.G)(h:RelX F s a w X){all:List (Option Nat)}(fF:Cd X s all):∀ {k:Knd} {l:List AV} {x:k.D} {vs:List Value},k.rtL E.G s.M (D2 all s.M) l=some x->(∀o∈k.ksL s.M l,o∈all)->k.D3=true->vs.length=l.length->(∀(i:Nat) φ v,l[i]?=some φ->vs[i]?=some v->φ.holds X w v/\φ.zg=false) ->
  Kz X.P (uA F.O0 (all.map (uOf X))) w F.w0.heap.size k x vs ((k.ksL s.M l).map (uOf X)):=by
 intro k
 induction k with
 |pr k1 k2 _ ih =>
  intro l x vs hr fX hv hl hh;simp only[Knd.D3,zLR]at hv
  match l,vs,hl with
  | [],[],hl=>cases hr
  |φ::l,v::vs,hl =>
   simp only[Knd.rtL]at hr;split at hr
   ·rename_i x1 x2 oR cP
    cases hr
    obtain⟨q1,q2⟩:=hh 0 φ v rfl rfl;obtain⟨cs,r1,r2⟩:=zKO hG h fF oR (fun o ho=>fX o (by simp[Knd.ksL,ho])) q2 hv.1 q1
    refine⟨v,vs,_,_,cs,rfl,by simp only[Knd.ksL,List.map_append],r1,r2,ih cP (fun o ho=>fX o (by simp[Knd.ksL,ho])) hv.2 (by simpa using hl) fun i ψ u hi hu=>hh (i+1) ψ u (by simpa using hi) (by simpa using hu)⟩
   ·cases hr
 |un =>
  intro l x vs hr fX hv hl hh;simp only[Knd.rtL]at hr;split at hr
  ·exact⟨List.length_eq_zero_iff.1 (by simpa using hl),rfl⟩
  ·cases hr
 |_=>intro l x vs hr fX hv hl hh;cases hv
def Hv(M:MS):List (Option Nat)->Bool
 | []=>true
 |o::l=>(match o with
  |none=>true
  |some k=>match look M k with
   |some (_,.sl true _ _ _)=>true
   |_=>false) && Hv M l
theorem BS{X:Cx}{s:S}:∀ {l:List (Option Nat)},Hv s.M l=true->Cd X s l
 | [],_=>fun k hk=>by simp at hk
 |o::l,h=>fun k hk=>by
  simp only[Hv,zLR]at h;rcases zLV.1 hk with rfl|hk
  ·have h1:=h.1
   dsimp only at h1;split at h1
   ·rename_i hl;exact⟨_,_,_,_,hl⟩
   ·cases h1
  ·exact BS (X:=X) h.2 k hk
theorem pw(h:RelX F s a w X):∀ {l:List (Option Nat)},Cd X s l->(yM l).Nodup->((l.map (uOf X)).filterMap Value.ownBlock).Nodup:=by
 intro l
 induction l with
 |nil=>intro _ _;exact List.nodup_nil
 |cons o l ih =>
  intro hk hn;have hk':Cd X s l:=fun k bU=>hk k (by simp[bU])
  cases o with
  |none =>
   have:=ih hk' hn;rw[List.map_cons,List.filterMap_cons_none (show (uOf X none).ownBlock=none from rfl)];exact this
  |some k =>
   obtain⟨eU,nP⟩:=List.nodup_cons.1 hn;have ih:=ih hk' nP
   simp only[List.map_cons]
   cases hb:(uOf X (some k)).ownBlock with
   |none=>rw[List.filterMap_cons_none hb];exact ih
   |some g =>
    rw[List.filterMap_cons_some hb];refine List.nodup_cons.2 ⟨fun hm=>?_,ih⟩
    obtain⟨u,hu,hg⟩:=List.mem_filterMap.1 hm;obtain⟨k',e',q1,q2,q3,q4,_⟩:=uf h (ks:=l) hk' hu hg;obtain⟨k2,e2,p1,p2,p3,p4,_⟩:=uf h (ks:=[some k]) (fun j hj=>hk j (by simp at hj;simp[hj])) (List.mem_map.2 ⟨some k,by simp,rfl⟩) hb
    have p1:k2=k:=by simpa using p1
    subst p1;have:=h.inj k2 k' e2 e' p2 q2 p3 q3 (p4.symm.trans q4)
    subst this;exact eU (YS.2 q1)
end
def rtJ(E:VE)(kd:Knd)(l:List ResultVar)(s:S):Comp kd.D:=match lH E s l with
 |some m=>match Zp m && (kd.D3 && (qj (yM (kd.ksL s.M m)) && Hv s.M (kd.ksL s.M m))),kd.rtL E.G s.M (D2 (kd.ksL s.M m) s.M) m with
  |true,some y=>Comp.pure y
  |_,_=>Comp.fail
 |none=>Comp.fail
def Rr(E:VE)(c:Code)(h:H)(l:List ResultVar)(ps:Ty)(kd:Knd)(x:ps.D):Comp kd.D :=
 den E c kd.D h ⟨Yd ps x 0,[],1,0⟩ (rtJ E kd l) (fun _ _=>Comp.fail) (rtJ E kd l)
theorem zEI{P:Program}{E:VE}(hE:E.ok P)(hm:P.follows .mixedOrders=true){f:FuncId}{fn:Func}{c:Code}{h:H}{fs:FJ}(hF:FnOk P f)(hf:P.funcs[f]?=some fn)(hb:fn.body=some c)(hc:okC fn.ntmps c=true)(hl:Nat.ble fs.ps.len fn.ntmps=true)
  (hs:∀x,Rr E c h fn.results.toList fs.ps fs.kd x=fs.sem x):fs.ok P f:=by
 refine⟨hF,fun O w hO vs x ha n y hy=>?_⟩
 rw[<-hs x]at hy;have fW:=kc vs.toArray fn.ntmps (by have:=Z2 ha;simp only[List.size_toArray];rw[this];exact Nat.le_of_ble_eq_true hl)
 have fD:∀(j:Nat) v,vs[j]?=some v->Act.get { tmps:=vs.toArray++Array.replicate (fn.ntmps-vs.toArray.size) undef,defers:=[] } j=v:=fun j v hj=>kb (by simpa using hj)
 refine callsIn_wide.1 (callsIn_of_wp_marks (n:=0) hf hb trivial ?_);generalize ({ tmps:=vs.toArray++Array.replicate (fn.ntmps-vs.toArray.size) undef,defers:=[] }:Act)=a at fW fD |-
 let F:Frm:=⟨P,fn.ntmps,[],Go.Lift.Fr w,O,w,fun _ _=>False,0,[],FrX.no 1 O w⟩
 let X:Cx:=⟨P,O,fun _=>.nilIface,1,fun k=>k,Go.Lift.Fr w,Go.Lift.Fr w,0,0⟩
 have hR:Rel F ⟨Yd fs.ps x 0,[],1,0⟩ a w:=by
  have fX:=fun {u e}=>Z0 (X:=X) (a:=a) (i:=0) rfl rfl ha (fun j v hj=>by rw[Nat.zero_add];exact fD j v hj) (u:=u) (e:=e)
  refine⟨X,rfl,rfl,rfl,rfl,rfl,hO,fW,Base.start hO,fun t e he _=>(fX he).2,fun k e he=>(nomatch he),fun t e he=>(by rw[(fX he).1];exact Nat.zero_lt_one),fun k e he=>(nomatch he),fun k k' e e' he=>(nomatch he),fun k e he=>(nomatch he),Nat.zero_le _,Nat.zero_lt_one,fun _ _ h=>h.elim,⟨Nat.zero_le _,fun j b hj=>(nomatch hj)⟩,Exx.no Nat.one_ne_zero rfl⟩
 have xT:∀F' s' a' w',F.To F'->Rel F' s' a' w'->(rtJ E fs.kd fn.results.toList s').run n=some y->LeavesInM Fence.wide 0 P fn a'.tmps (fun e w'=>∃v,e=.returned v/\Ext w w'/\∃rs us,kP rs v/\Kz P (uA O us) w' w.heap.size fs.kd y rs us/\(us.filterMap Value.ownBlock).Nodup) a'.defers .returning w':=by
  intro F' s' a' w' hT h' hr;refine leaves hT rfl (fun _ _ h=>h) (zLT _) h' fun q n' ep' w' hX'=>?_
  obtain⟨X',hX'⟩:=hX';have hs:=hT.same
  have hP:X'.P=P:=hX'.P.trans hs.P;have hE':E.ok X'.P:=by rw[hP];exact hE
  unfold rtJ at hr;split at hr
  ·rename_i m hm'
   split at hr
   ·rename_i y' hb hy'
    simp only[zLR]at hb;obtain⟨t6,hav,sA,sC⟩:=hb;have e:=run_pure hr
    subst e;obtain⟨vs',g1,g2,g3⟩:=Xk hE' hX' (Jc hm' t6);obtain⟨v,g4,g5⟩:=kZ g1;rw[hP]at g4;have hJ:=BS (X:=X') (s:={ s' with n:=n',ep:=ep' }) sC
    refine⟨v,g4,v,rfl,?_,vs',(fs.kd.ksL s'.M m).map (uOf X'),g5,?_,pw hX' hJ (wF sA)⟩
    ·have:=hX'.base
     change Base F'.A F'.O0 F'.w0 _ _ at this
     rw[hs.A,hs.O0,hs.w0]at this;exact this.ext
    ·have:=zBb hE'.G hX' hJ hy' (fun o ho=>ho) hav g2 fun i φ u hi hu=>⟨g3 i φ u hi hu,kS t6 φ (zLW hi)⟩
     change Kz _ (uA F'.O0 _) _ F'.w0.heap.size _ _ _ _ at this
     rwa[hP,hs.O0,hs.w0]at this
   ·cases hr
  ·cases hr
 exact Yl c (F:=F) hm (fun _ _ h=>h) hE hc (.inl ⟨rfl,rfl⟩) rfl hR (Inv.refl _) hy ⟨fun F' s' a' w' h0 h1 _ h2=>xT F' s' a' w' h0 h1 h2,fun i _ F' s' a' w' _ _ _ h2=>(nomatch h2),fun F' s' a' w' h0 h1 _ h2=>xT F' s' a' w' h0 h1 h2,fun F' s' a' _ w' _ _ _ h2=>(nomatch h2)⟩
end Go.Den
end
noncomputable section
namespace Go.Den
open Go Go.RowKit Go.Eng Go.Lift
def UA(P:Program)(X:TypeId):Nat->List (Nat×Nat×Nat)->Prop
 |_,[]=>True
 |k,e::l=>Fld P X k e.1 e.2.1 e.2.2/\UA P X (k+1) l
theorem zBC{P:Program}{X:TypeId}:∀ {l:List (Nat×Nat×Nat)} {k:Nat},UA P X k l->∀(f:Nat) e,l[f]?=some e->Fld P X (k+f) e.1 e.2.1 e.2.2
 | [],_,_,f,e,h=>by simp at h
 |e0::l,k,h,f,e,he=>by
  cases f with
  |zero=>simp at he;subst he;exact h.1
  |succ f=>have:=zBC h.2 f e (by simpa using he);rwa[Nat.add_right_comm,Nat.add_assoc]at this
theorem yb{P:Program}{X:TypeId}{i:TI}(h:i.kq=false):i.kq=true->KeyB P X i.τ:=fun h'=>by rw[h]at h';cases h'
def TI.zFK(P:Program)(X:TypeId)(i:TI):Prop:=i.eq≠0->EqT P X i.τ i.eq/\i.eq<=10000/\(i.τ.agg=true->P.eqGuardType P.depth X=false)
theorem ZM{P:Program}{X:TypeId}{i:TI}(h:i.eq=0):i.zFK P X:=fun h'=>zLh h h'
theorem yN{P:Program}{X:TypeId}{i:TI}(h:Eng.Ty P X i.dd i.z i.sz i.by_)(hf:i.fl=[])(he:i.zFK P X)(hk:i.kq=true->KeyB P X i.τ):i.ok P X:=⟨h,fun f e he=>(by rw[hf]at he;simp at he),.inl hf,he,hk⟩
theorem gv{P:Program}{X:TypeId}{i:TI}(h:Eng.Ty P X i.dd i.z i.sz i.by_)(hf:UA P X 0 i.fl)(hp:Plc P X (i.fl.map (fun e=>(e.2.1,e.2.2+1))).toArray)(he:i.zFK P X)(hk:i.kq=true->KeyB P X i.τ):i.ok P X :=
 ⟨h,fun f e he=>(by have:=zBC hf f e he;rwa[Nat.zero_add]at this),.inr hp,he,hk⟩
def iS(e:TypeId)(t:Ty):TI:=⟨.slice e,.slice none 0 0,1,24,[],t,0,false⟩
theorem XC{P:Program}{X e:TypeId}{t:Ty}(h:Eng.Ty P X (.slice e) (.slice none 0 0) 1 24):(iS e t).ok P X:=yN (i:=iS e t) h rfl (ZM rfl) (yb rfl)
theorem Uu(P:Program):TOk P []:=fun X i h=>nomatch h
theorem zW{P:Program}{X:TypeId}{i:TI}{l:TE}(h:i.ok P X)(hl:TOk P l):TOk P ((X,i)::l):=fun Y j hj=>by
 rcases zD hj with ⟨h1,h2⟩|⟨_,h2⟩
 ·subst h1 h2;exact h
 ·exact hl Y j h2
def Cv(l:List (Nat×Ty×Nat))(D:Nat):List Field->Ty->Nat->Bool
 | [],.nil,_=>true
 |f::fs,.cons a b,off=>!(f.name == "_") && (Nat.beq f.offset off && ((match look l f.type with
  |some e=>a.beq e.1 && Nat.ble e.2 D
  |none=>false) && Cv l D fs b (off+a.sz)))
 |_,_,_=>false
def IJ(P:Program)(l:List (Nat×Ty×Nat)):Prop:=∀X e,look l X=some e->EqT P X e.1 e.2
theorem XI(P:Program):IJ P []:=fun X i h=>nomatch h
theorem YZ{P:Program}{X:TypeId}{t:Ty}{D:Nat}{l:List (Nat×Ty×Nat)}(h:EqT P X t D)(hl:IJ P l):IJ P ((X,t,D)::l):=fun Y j hj=>by
 rcases zD hj with ⟨h1,h2⟩|⟨_,h2⟩
 ·subst h1 h2;exact h
 ·exact hl Y j h2
theorem Je{P:Program}{l:List (Nat×Ty×Nat)}(hl:IJ P l){D:Nat}:∀ {fs:List Field} {t:Ty} {off:Nat},Cv l D fs t off=true->EqTs P D fs t off
 | [],.nil,_,_=>.nil
 |f::fs,.cons a b,off,h=>by
  simp only[Cv,zLR]at h;obtain⟨h1,h2,h3,h4⟩:=h;split at h3
  ·rename_i e he
   rw[zLR]at h3;have:=hl _ _ he
   rw[<-Ty.J3 h3.1]at this;exact .cons (by simpa using h1) (zLQ h2) this (Nat.le_of_ble_eq_true h3.2) (Je hl h4)
  ·cases h3
 | [],.int _,_,h | [],.bool,_,h | [],.str,_,h | [],.sl _,_,h | [],.cons ..,_,h | [],.arr ..,_,h | [],.box _,_,h | [],.fn ..,_,h | [],.seq ..,_,h | [],.slo ..,_,h | [],.mp ..,_,h=>by simp[Cv]at h
 |_::_,.int _,_,h|_::_,.bool,_,h|_::_,.str,_,h|_::_,.sl _,_,h|_::_,.nil,_,h|_::_,.arr ..,_,h|_::_,.box _,_,h|_::_,.fn ..,_,h|_::_,.seq ..,_,h|_::_,.slo ..,_,h|_::_,.mp ..,_,h=>by simp[Cv]at h
theorem Yi{κ:Type}{P:Nat->κ->Prop}{f:Nat}{s:κ}{l:List (Nat×κ)}(h:P f s)(hl:∀g t,look l g=some t->P g t):∀g t,look ((f,s)::l) g=some t->P g t:=fun Y j hj=>by
 rcases zD hj with ⟨h1,h2⟩|⟨_,h2⟩
 ·subst h1 h2;exact h
 ·exact hl Y j h2
section short
variable {P:Program} {T:TE} {lG:List (Nat×FS)} {lM:List (Nat×FM)} {lO:List (Nat×FO)} {lN:List (Nat×FS)} {lQ:List (Nat×GS)} {lJ:List (Nat×FJ)}
abbrev ve(T:TE)(lG:List (Nat×FS))(lM:List (Nat×FM))(lO:List (Nat×FO))(lN:List (Nat×FS))(lQ:List (Nat×GS))(lJ:List (Nat×FJ)):VE:={ T:=T,G:=look lG,H:=look lM,O:=look lO,N:=look lN,Q:=look lQ,J:=look lJ }
structure EK(P:Program)(T:TE)(lG:List (Nat×FS))(lM:List (Nat×FM))(lO:List (Nat×FO))(lN:List (Nat×FS))(lQ:List (Nat×GS))(lJ:List (Nat×FJ)):Prop where
 e:(ve T lG lM lO lN lQ lJ).ok P
 m:P.follows .mixedOrders=true
theorem e0(h:TOk P T)(hm:P.follows .mixedOrders=true):EK P T [] [] [] [] [] []:=⟨⟨h,(fun X i h=>nomatch h),(fun X i h=>nomatch h),(fun X i h=>nomatch h),(fun X i h=>nomatch h),(fun X i h=>nomatch h),(fun X i h=>nomatch h),(fun X i h=>nomatch h)⟩,hm⟩
theorem EK.S{f s}(h:EK P T lG lM lO lN lQ lJ)(hs:FS.ok P f s):EK P T ((f,s)::lG) lM lO lN lQ lJ:=⟨{ h.e with G:=Yi hs h.e.G },h.m⟩
theorem EK.M{f s}(h:EK P T lG lM lO lN lQ lJ)(hs:FM.ok P f s):EK P T lG ((f,s)::lM) lO lN lQ lJ:=⟨{ h.e with H:=Yi hs h.e.H },h.m⟩
theorem EK.O{f s}(h:EK P T lG lM lO lN lQ lJ)(hs:FO.ok P f s):EK P T lG lM ((f,s)::lO) lN lQ lJ:=⟨{ h.e with O:=Yi hs h.e.O },h.m⟩
theorem EK.N{f s}(h:EK P T lG lM lO lN lQ lJ)(hs:FS.okN P f s):EK P T lG lM lO ((f,s)::lN) lQ lJ:=⟨{ h.e with N:=Yi hs h.e.N },h.m⟩
theorem EK.Q{f s}(h:EK P T lG lM lO lN lQ lJ)(hs:GS.ok P f s):EK P T lG lM lO lN ((f,s)::lQ) lJ:=⟨{ h.e with Q:=Yi hs h.e.Q },h.m⟩
theorem EK.J{f s}(h:EK P T lG lM lO lN lQ lJ)(hs:FJ.ok P f s):EK P T lG lM lO lN lQ ((f,s)::lJ):=⟨{ h.e with J:=Yi hs h.e.J },h.m⟩
abbrev veK(T:TE)(lG:List (Nat×FS))(lM:List (Nat×FM))(lO:List (Nat×FO))(lN:List (Nat×FS))(lQ:List (Nat×GS))(lJ:List (Nat×FJ))(g:Nat)(s:FK):VE:={ ve T lG lM lO lN lQ lJ with K:=look [(g,s)],Z:=s.zT }
theorem EK.K{g:FuncId}{s:FK}(h:EK P T lG lM lO lN lQ lJ)(hs:s.ok P g):(veK T lG lM lO lN lQ lJ g s).ok P:={ h.e with K:=Yi hs fun X i h=>nomatch h }
def okA(fn:Func)(c:Code)(n:Nat):Bool:=!fn.body.isNone && (!(fn.name == "runtime.NumGoroutine") && (okC fn.ntmps c && Nat.ble n fn.ntmps))
theorem vj{fn:Func}{c:Code}{n:Nat}(h:okA fn c n=true):fn.body.isNone=false/\(fn.name == "runtime.NumGoroutine")=false/\okC fn.ntmps c=true/\Nat.ble n fn.ntmps=true:=by
 unfold okA at h;simp only[zLR,Bool.not_eq_true']at h;exact h
variable {f:FuncId} {fn:Func} {c:Code}
theorem fS(hE:EK P T lG lM lO lN lQ lJ)(h:H){fs:FS}(hf:P.funcs[f]?=some fn)(hb:fn.body=some c:=by rfl)(hk:okA fn c fs.ps.len=true:=by kernel_rfl)(hs:∀x,S1 (ve T lG lM lO lN lQ lJ) c h fn.results.toList fs.ps fs.rs fs.rk x=fs.sem x:=by intro x;kernel_rfl):fs.ok P f :=
 zBB hE.e hE.m ⟨_,hf,(vj hk).1,(vj hk).2.1⟩ hf hb (vj hk).2.2.1 (vj hk).2.2.2 hs
theorem fM(hE:EK P T lG lM lO lN lQ lJ)(h:H){fs:FM}(hf:P.funcs[f]?=some fn)(hb:fn.body=some c:=by rfl)(hk:okA fn c fs.ps.len=true:=by kernel_rfl)(hs:∀x,Rp (ve T lG lM lO lN lQ lJ) c h fn.results.toList fs.ps fs.io fs.rs x=fs.sem x:=by intro x;kernel_rfl):fs.ok P f :=
 zEG hE.e hE.m ⟨_,hf,(vj hk).1,(vj hk).2.1⟩ hf hb (vj hk).2.2.1 (vj hk).2.2.2 hs
theorem fO(hE:EK P T lG lM lO lN lQ lJ)(h:H){fs:FO}(hf:P.funcs[f]?=some fn)(hb:fn.body=some c:=by rfl)(hk:(fs.ret && okA fn c (fs.ps.len+1))=true:=by kernel_rfl)(hs:∀xs z,Rm (ve T lG lM lO lN lQ lJ) c h fn.results.toList fs.e fs.T fs.ps xs z=fs.sem xs z:=by intro xs z;kernel_rfl):fs.ok P f:=by
 rw[zLR]at hk;exact zEE hE.e hE.m ⟨_,hf,(vj hk.2).1,(vj hk.2).2.1⟩ hf hb (vj hk.2).2.2.1 (vj hk.2).2.2.2 hk.1 hs
theorem fN(hE:EK P T lG lM lO lN lQ lJ)(h:H){fs:FS}(hf:P.funcs[f]?=some fn)(hb:fn.body=some c:=by rfl)(hk:okA fn c (fs.ps.len+1)=true:=by kernel_rfl)(hs:∀x,Rn (ve T lG lM lO lN lQ lJ) c h fn.results.toList fs.ps fs.rs fs.rk x=fs.sem x:=by intro x;kernel_rfl):fs.okN P f :=
 zEF hE.e hE.m ⟨_,hf,(vj hk).1,(vj hk).2.1⟩ hf hb (vj hk).2.2.1 (vj hk).2.2.2 hs
theorem fQ(hE:EK P T lG lM lO lN lQ lJ)(h:H){fs:GS}(hf:P.funcs[f]?=some fn)(hb:fn.body=some c:=by rfl)(hk:(Nat.beq fn.results.size 0 && (kg c && okA fn c (fs.ps.len+1)))=true:=by kernel_rfl)(hs:∀x,Rl (ve T lG lM lO lN lQ lJ) c h fs.ps fs.t x=fs.sem x:=by intro x;kernel_rfl):fs.ok P f:=by
 simp only[zLR]at hk;have ho:=vj hk.2.2
 exact zED hE.e hE.m ⟨_,hf,ho.1,ho.2.1⟩ hf hb (by rw[ho.2.2.1,hk.2.1];rfl) (zLQ hk.1) ho.2.2.2 hs
theorem fJ(hE:EK P T lG lM lO lN lQ lJ)(h:H){fs:FJ}(hf:P.funcs[f]?=some fn)(hb:fn.body=some c:=by rfl)(hk:okA fn c fs.ps.len=true:=by kernel_rfl)(hs:∀x,Rr (ve T lG lM lO lN lQ lJ) c h fn.results.toList fs.ps fs.kd x=fs.sem x:=by intro x;kernel_rfl):fs.ok P f :=
 zEI hE.e hE.m ⟨_,hf,(vj hk).1,(vj hk).2.1⟩ hf hb (vj hk).2.2.1 (vj hk).2.2.2 hs
def okK(fn:Func)(c:Code)(fs:FK):Bool:=Nat.beq fn.results.size 0 && (kg c && (Nat.blt 0 fn.ntmps && okA fn c (fs.ps.len+fs.cs.length)))
theorem fK(hE:EK P T lG lM lO lN lQ lJ)(h:H){fs s0:FK}(n8:s0.ok P f)(hf:P.funcs[f]?=some fn)(hZ:fs.zT=s0.zT:=by rfl)(hb:fn.body=some c:=by rfl)(hk:okK fn c fs=true:=by kernel_rfl)(hs:∀x r y,Rq (veK T lG lM lO lN lQ lJ f s0) f c h fs x r y=fs.sem x r y:=by intro x r y;kernel_rfl):fs.ok P f:=by
 unfold okK at hk;simp only[zLR]at hk;have ho:=vj hk.2.2.2
 exact zEH (hE.K n8) hE.m ⟨_,hf,ho.1,ho.2.1⟩ hf hb ho.2.2.1 hk.2.1 (Array.size_eq_zero_iff.1 (zLQ hk.1)) ho.2.2.2 hk.2.2.1 hZ hs
theorem Ws{s:Nat->FK}(hF:FnOk P f)(h0:∀x r y,(s 0).sem x r y=Comp.fail)(hS:∀n,(s n).ok P f->(s (n+1)).ok P f):∀n,(s n).ok P f
 |0=>⟨hF,fun O w _ vs x c y bl ts σs ss G _ _ _ _ _ _ n r hr=>by rw[h0]at hr;cases hr⟩
 |n+1=>hS n (Ws hF h0 hS n)
theorem fSK{g:FuncId}{s0:FK}(hE:EK P T lG lM lO lN lQ lJ)(n8:s0.ok P g)(h:H){fs:FS}(hf:P.funcs[f]?=some fn)(hb:fn.body=some c:=by rfl)(hk:okA fn c fs.ps.len=true:=by kernel_rfl)(hs:∀x,S1 (veK T lG lM lO lN lQ lJ g s0) c h fn.results.toList fs.ps fs.rs fs.rk x=fs.sem x:=by intro x;kernel_rfl):fs.ok P f :=
 zBB (hE.K n8) hE.m ⟨_,hf,(vj hk).1,(vj hk).2.1⟩ hf hb (vj hk).2.2.1 (vj hk).2.2.2 hs
def okR(fn:Func)(c:Code)(n:Nat)(gn:Func):Bool:=!fn.body.isNone && (!(fn.name == "runtime.NumGoroutine") && (Nat.ble n fn.ntmps && (Nat.blt 0 fn.ntmps && (okC fn.ntmps (cl c) && (okC fn.ntmps (cl (cr c)) && (okC fn.ntmps (cr (cr (cr c))) && ((kg (cl c) && (kg (cl (cr c)) && kg (cr (cr (cr c))))) && (zw fn.ntmps (opsOf (cl (cr (cr c)))) && (okC gn.ntmps (cr (gn.body.getD .skip)) && kg (cr (gn.body.getD .skip)))))))))))
theorem fR{g:FuncId}{s0:FK}{gn:Func}{R0:Code}{m se so:Nat}{zt:Ty}{id:Nat}(hE:EK P T lG lM lO lN lQ lJ)(n8:s0.ok P g){d:FuncId}(hg:RecG P d gn R0 (cr (gn.body.getD .skip)) m se so s0.zT zt)(hA hB hC hG:H){fs:FS}(hf:P.funcs[f]?=some fn)(hb:fn.body=some (.seq (cl c) (.seq (cl (cr c)) (.seq (.region id (opsOf (cl (cr (cr c)))).toArray false) (cr (cr (cr c)))))):=by rfl)(hk:okR fn c fs.ps.len gn=true:=by kernel_rfl)
  (hs:∀x,Rk (veK T lG lM lO lN lQ lJ g s0) (cl c) (cl (cr c)) (opsOf (cl (cr (cr c)))) (cr (cr (cr c))) hA hB hC (cr (gn.body.getD .skip)) hG d m se so zt fn.results.toList fs.ps fs.rs fs.rk x=fs.sem x:=by intro x;kernel_rfl):fs.ok P f:=by
 unfold okR at hk;simp only[zLR,Bool.not_eq_true']at hk;obtain⟨k1,k2,k3,k4,k5,k6,k7,k8,k9,k10,k11⟩:=hk;exact zEC (hE.K n8) hE.m ⟨_,hf,k1,k2⟩ hf hb k5 k6 k7 (by simp only[zLR];exact k8) k9 k3 k4 hg k10 k11 hs
def S0{T:Type}(z:T)(s:T->T)(n:Nat):T:=Nat.rec z (fun _ r=>s r) n
end short
end Go.Den
end
