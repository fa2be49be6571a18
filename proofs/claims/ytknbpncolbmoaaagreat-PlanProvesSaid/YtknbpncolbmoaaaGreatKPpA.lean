/- Lemmas behind a claim. -/
import Derived.Test.YtknbpncolbmoaaaGreatRows
import Derived.ProofKit
import Derived.WalkKit
import Derived.WalkSpells
import Derived.WalkLawsBesides
import Derived.OrdersIn
import Derived.RangeFuncRecord
import Derived.RangeFuncSeq
import Derived.RangeFuncLeaves
import Derived.Sort.OwnSortedInts
import Derived.Lib.SlicesCompact
import Derived.Lib.LazyBuf
import Derived.Scope
import Derived.Laws.StructEq
import Derived.ChangeKeysEq
import Derived.MapKept
set_option linter.unusedSimpArgs false
set_option linter.unusedVariables false
theorem zLX{α β:Type}(a:α)(f:α->Option β):(some a).bind f=f a:=rfl
theorem zLY{n m:Nat}(h:Nat.beq n m=true):n=m:=Nat.eq_of_beq_eq_true h
theorem zLZ(a b:Bool):((a && b)=true)=(a=true/\b=true):=Bool.and_eq_true a b
theorem zLa{α:Type}{x y:List α}:(x++y).length=x.length+y.length:=List.length_append
theorem zLb(n:Nat):n<=n:=Nat.le_refl n
theorem zLc{α:Type}{a:α}:[a].length=1:=rfl
theorem zLd{α:Type}{b:α}{l:List α}{a:α}:a∈b::l↔a=b\/a∈l:=List.mem_cons
theorem zLe{α:Type}{l:List α}{i:Nat}{a:α}(e:l[i]?=some a):a∈l:=List.mem_of_getElem? e
theorem zLf{α:Type}{a:α}{i:Nat}{l:List α}:l[i]?=some a↔∃h:i<l.length,l[i]=a:=List.getElem?_eq_some_iff
theorem zLg{n m k:Nat}(h:n<=m)(g:m<=k):n<=k:=Nat.le_trans h g
theorem zLh{α:Type}{a:α}{l:List α}:(a::l).length=l.length+1:=rfl
theorem zLi{α:Type}{a:α}{s t:List α}:a∈s++t↔a∈s\/a∈t:=List.mem_append
theorem zLj{α:Type}(y:α){a:α}{l:List α}(h:a∈l):a∈y::l:=List.mem_cons_of_mem y h
theorem zLk(n:Nat):n<=n.succ:=Nat.le_succ n
theorem zLl(n:Nat):n<n.succ:=Nat.lt_succ_self n
theorem zLm{n m k:Nat}(h:n<m)(g:m<=k):n<k:=Nat.lt_of_lt_of_le h g
theorem zLn{α:Type}{l m:List α}{n:Nat}(h:n<l.length):(l++m)[n]?=l[n]?:=List.getElem?_append_left h
theorem zLo{α:Type}{l m:List α}{n:Nat}(h:l.length<=n):(l++m)[n]?=m[n-l.length]?:=List.getElem?_append_right h
theorem zLp{a:Prop}{b:Prop}(h:a)(k:¬a):b:=absurd h k
theorem zLq{α β:Sort _}{a b:α}(f:α->β)(h:a=b):f a=f b:=congrArg f h
theorem zLr{p:Prop}[d:Decidable p]:(decide p=true)=p:=decide_eq_true_eq
theorem zLs{α:Type}{l:List α}{i:Nat}{a:α}:l.getD i a=l[i]?.getD a:=List.getD_eq_getElem?_getD
theorem zLt{α:Type}(l m n:List α):l++m++n=l++(m++n):=List.append_assoc l m n
theorem zLu{α:Type}{i:Nat}{l:List α}:(l.take i).length=min i l.length:=List.length_take
theorem zLv{α:Type}{xs:Array α}{i:Nat}{d:α}:xs.getD i d=xs[i]?.getD d:=Array.getD_eq_getD_getElem?
theorem zLw{α:Type}(a b:α):(some a=some b)=(a=b):=Option.some.injEq a b
theorem zLx(a b:Bool):((a || b)=true)=(a=true\/b=true):=Bool.or_eq_true a b
theorem zLy{α:Type}{a:α}{i:Nat}{xs:Array α}:xs[i]?=some a↔∃h:i<xs.size,xs[i]=a:=Array.getElem?_eq_some_iff
theorem zLz{c:Prop}{h:Decidable c}(k:c){α:Sort _}{t e:α}:ite c t e=t:=if_pos k
theorem zMA{c:Prop}{h:Decidable c}(k:¬c){α:Sort _}{t e:α}:ite c t e=e:=if_neg k
theorem zMB{p:Prop}[d:Decidable p](h:¬p):decide p=false:=decide_eq_false h
theorem zMC{p:Prop}[d:Decidable p](h:p):decide p=true:=decide_eq_true h
theorem zMD{α:Type}{l:List α}{i:Nat}(h:i<l.length):l[i]?=some l[i]:=List.getElem?_eq_getElem h
theorem zME{α:Type}{p:α->Bool}{l:List α}:l.all p=true↔∀x,x∈l->p x=true:=List.all_eq_true
theorem zMF{α:Type}(l:List α):l++[]=l:=List.append_nil l
section
namespace Go.Eng
open Go Go.RowKit
def Ext(w w':World):Prop:=Below w.heap.size w w'
theorem Ext.refl(w:World):Ext w w:=Below.refl _ _
theorem Ext.trans{a b c:World}(h:Ext a b)(k:Ext b c):Ext a c:=Below.trans h (Below.mono k (Below.size h))
theorem Ext.drawn(w:World):Ext w { w with drawn:=w.drawn+1 }:=(Below.refl _ _).drew
theorem Ext.alloc(w:World)(o:Obj):Ext w (w.alloc o):=(Below.refl _ _).alloc (zLb _) o
theorem Ext.heap{w w':World}(h:Ext w w'){b:Nat}{o:Obj}(hb:w.heap[b]?=some o):w'.heap[b]?=some o:=by
 rw[Below.block h b (zLy.1 hb).1];exact hb
theorem Ext.cell{w w':World}(h:Ext w w'){p:Addr}{v:Value}(hc:w.cell? p=some v):w'.cell? p=some v:=by
 unfold World.cell? at hc |-
 cases hb:w.heap[p.block]? with
 |none=>simp[hb]at hc
 |some o=>rw[Ext.heap h hb];rw[hb]at hc;exact hc
def _root_.Go.Act.get(a:Act)(t:Nat):Value:=a.tmps.getD t undef
structure _root_.Go.Act.fitD(a:Act)(N:Nat)(D:List Deferred):Prop where
 size:a.tmps.size=N
 defers:a.defers=D
abbrev _root_.Go.Act.fit(a:Act)(N:Nat):Prop:=a.fitD N []
variable {D:List Deferred}
theorem ZS{a:Act}{N:Nat}(h:a.fitD N D)(d:Option Tmp)(v:Value):(a.put d v).fitD N D:=by
 cases d with
 |none=>exact h
 |some d=>exact⟨by simp[Act.put,h.size],h.defers⟩
theorem yZ{a:Act}{N d:Nat}(h:a.fitD N D)(hd:d<N)(v:Value):(a.put (some d) v).get d=v:=by
 have:=h.size;simp[Act.put,Act.get,zLv,this,hd]
theorem vk{a:Act}{d t:Nat}(hd:d≠t)(v:Value):(a.put (some d) v).get t=a.get t:=by
 simp[Act.put,Act.get,zLv,Array.getElem?_setIfInBounds_ne hd]
def writes(o:Oper)(t:Nat):Bool:=match o.dst with|some d=>Nat.beq d t|none=>false
def names(os:List Oper)(o:Oper):List Nat :=
 (o.op.operands.toList.filterMap fun|.tmp t=>some t|_=>none) ++
 (match o.guard with
  |some (g,_)=>((os[g]?).bind (·.dst)).toList
  |none=>[])
def XL(o:Oper)(t:Nat):Bool:=o.op.operands.toList.any fun|.tmp u=>Nat.beq u t|_=>false
def uU(S:Nat->Bool)(t:Nat):Nat->List Oper->Option Nat->Option Nat
 |_,[],acc=>acc
 |i,o::os,acc=>uU S t (i+1) os (bif S i && writes o t then some i else acc)
def lw(os:List Oper)(S:Nat->Bool)(t:Nat):Option Nat:=uU S t 0 os none
def Ho(os:List Oper)(cs:List Bool):Nat->Nat->Bool
 |0,_=>true
 |n+1,i=>match (os[i]?).bind (·.guard) with
  |none=>true
  |some (g,w)=>Ho os cs n g && (cs.getD g false == w)
def act(os:List Oper)(cs:List Bool)(i:Nat):Bool:=Ho os cs (i+1) i
abbrev Z9:=List (World->Value->Prop)
def pred(Φ:Z9)(i:Nat):World->Value->Prop:=Φ.getD i (fun _ _=>True)
structure Left(os:List Oper)(Φ:Z9)(cs:List Bool)(i:Nat)(w:World)(v:Value):Prop where
 on:act os cs i=true->pred Φ i w v
 off:act os cs i=false->v=undef
def KZ(os:List Oper)(Φ:Z9)(cs:List Bool)(a:Act)(S:Nat->Bool)(t:Nat)(w:World)(v:Value):Prop :=
 match lw os S t with
 |none=>v=a.get t
 |some i=>Left os Φ cs i w v
def OkE(E:World->World->Prop)(P:Program)(o:Oper)(a:Act)(w:World)(φ:World->Value->Prop):Prop :=
 ∀(K:Act->World->Prop) (Q:Exit->Act->World->Prop),(∀v w',E w w'->φ w' v->K (a.put o.dst v) w')->o.wp P a w K Q
abbrev Ok:=OkE Ext
def Obl(E:World->World->Prop)(P:Program)(os:List Oper)(Φ:Z9)(cs:List Bool)(a:Act)(w:World)(i:Nat)(o:Oper):Prop :=
 ∀a' w',E w w'->(∀t,XL o t=true->KZ os Φ cs a (fun j=>Nat.blt j i) t w' (a'.get t))->act os cs i=true->OkE E P o a' w' (pred Φ i)
def bitsOf(os:List Oper):Array Nat:=Region.before os.toArray
def qt(b:Array Nat)(i j:Nat):Bool:=(b.getD (max i j) 0).testBit (min i j)
def zz(N:Nat)(os:List Oper):Bool :=
 let b:=bitsOf os
 let z:=os.zipIdx
 (z.all fun (o,i) =>
  (o.after.all fun e=>!Region.binds .any e || decide (e.on<i)) &&
  (match o.dst with|some d=>decide (d<N) && z.all (fun (o',j)=>!(decide (i≠j) && ((names os o').contains d || o'.dst == some d)) || qt b i j)|none=>true) &&
  (match o.guard with
   |none=>true
   |some (g,_)=>(b.getD i 0).testBit g && (((os[g]?).bind (·.dst)).any fun d=>lw os (fun j=>Nat.blt j i) d == some g)))
theorem J5{S S':Nat->Bool}{t:Nat}:∀(os:List Oper) (k:Nat) (acc:Option Nat),(∀j,k<=j->∀o,os[j-k]?=some o->writes o t=true->S j=S' j) ->
  uU S t k os acc=uU S' t k os acc
 | [],_,_,_=>rfl
 |o::os,k,acc,h=>by
   simp only[uU];have h0:(S k && writes o t)=(S' k && writes o t):=by
    cases hw:writes o t with
    |false=>simp
    |true=>simp[h k (zLb _) o (by simp) hw]
   rw[h0];exact J5 os (k+1) _ fun j hj o' ho' hw'=>h j (by omega) o' (by
    have e:j-k=(j-(k+1))+1:=by omega
    rw[e];simpa using ho') hw'
theorem JI{S S':Nat->Bool}{t:Nat}{os:List Oper}(h:∀j o,os[j]?=some o->writes o t=true->S j=S' j):lw os S t=lw os S' t :=
 J5 os 0 none fun j _ o ho hw=>h j o (by simpa using ho) hw
theorem pK{S:Nat->Bool}{t i:Nat}:∀(os:List Oper) (k:Nat) (acc:Option Nat),uU S t k os acc=some i ->
  acc=some i\/(k<=i/\S i=true/\∃o,os[i-k]?=some o/\writes o t=true)
 | [],_,_,h=>.inl h
 |o::os,k,acc,h=>by
   simp only[uU]at h;rcases pK os (k+1) _ h with h1|⟨h1,h2,o',h3,h4⟩
   ·cases hb:(S k && writes o t) with
    |false=>rw[hb]at h1;exact .inl h1
    |true =>
     rw[hb]at h1;obtain rfl:k=i:=by simpa using h1
     simp only[zLZ]at hb;exact .inr ⟨zLb _,hb.1,o,by simp,hb.2⟩
   ·refine .inr ⟨by omega,h2,o',?_,h4⟩
    have e:i-k=(i-(k+1))+1:=by omega
    rw[e];simpa using h3
theorem ux{S:Nat->Bool}{t i:Nat}{os:List Oper}(h:lw os S t=some i):S i=true/\∃o,os[i]?=some o/\writes o t=true:=by
 rcases pK os 0 none h with h|⟨_,h2,h3⟩
 ·simp at h
 ·exact⟨h2,by simpa using h3⟩
theorem Kf{S:Nat->Bool}{t i:Nat}:∀(os:List Oper) (k:Nat) (acc:Option Nat),k<=i->(∃o,os[i-k]?=some o/\writes o t=true) ->
  (∀j o,i<j->os[j-k]?=some o->writes o t=true->S j=false) ->
  uU (fun j=>S j || Nat.beq j i) t k os acc=some i
 | [],k,acc,hk,⟨o,ho,_⟩,_=>by simp at ho
 |o::os,k,acc,hk,⟨o',ho',hw'⟩,hS=>by
   simp only[uU];by_cases hki:k=i
   ·subst hki
    simp at ho';subst ho';have hb:((S k || Nat.beq k k) && writes o t)=true:=by simp[hw']
    rw[hb];have:uU (fun j=>S j || Nat.beq j k) t (k+1) os (some k)=uU (fun _=>false) t (k+1) os (some k):=by
     refine J5 os (k+1) _ fun j hj o' ho' hw'=>?_
     have h1:=hS j o' (by omega) (by
      have e:j-k=(j-(k+1))+1:=by omega
      rw[e];simpa using ho') hw'
     have h2:Nat.beq j k=false:=by
      cases hb:Nat.beq j k with
      |false=>rfl
      |true=>have:=zLY hb;omega
     simp[h1,h2]
    rw[show (bif true then some k else acc)=some k from rfl,this]
    have hz:∀(os:List Oper) (k':Nat) (acc:Option Nat),uU (fun _=>false) t k' os acc=acc:=by
     intro os
     induction os with
     |nil=>intro _ _;rfl
     |cons _ _ ih=>intro k' acc;simp[uU,ih]
    rw[hz]
   ·refine Kf os (k+1) _ (by omega) ⟨o',?_,hw'⟩ fun j o'' hj ho'' hw''=>hS j o'' hj ?_ hw''
    ·have e:i-k=(i-(k+1))+1:=by omega
     rw[e]at ho';simpa using ho'
    ·have e:j-k=(j-(k+1))+1:=by omega
     rw[e];simpa using ho''
def yH(os:List Oper)(S:Nat->Bool):Prop:=∀i o e,os[i]?=some o->e∈o.after->Region.binds .any e=true->S i=true->S e.on=true
theorem XK(acc:Array Nat)(k:Nat):∀(es:List Edge) (s:Nat),
  (es.foldl (fun s e=>if Region.binds .any e then s ||| 2 ^ e.on ||| acc.getD e.on 0 else s) s).testBit k=true ->
  s.testBit k=true\/∃e∈es,Region.binds .any e=true/\(e.on=k\/(acc.getD e.on 0).testBit k=true)
 | [],s,h=>.inl h
 |e::es,s,h=>by
   rw[List.foldl_cons]at h;rcases XK acc k es _ h with h|⟨e',he',hb,hk⟩
   ·cases hb:Region.binds .any e with
    |false=>rw[hb]at h;exact .inl h
    |true =>
     rw[hb]at h;simp only[if_true,Nat.testBit_or,zLx,Nat.testBit_two_pow,zLr]at h;rcases h with (h|h)|h
     ·exact .inl h
     ·exact .inr ⟨e,by simp,hb,.inl h⟩
     ·exact .inr ⟨e,by simp,hb,.inr h⟩
   ·exact .inr ⟨e',by simp[he'],hb,hk⟩
theorem qF(os:List Oper)(S:Nat->Bool)(hd:yH os S):∀(l:List Oper) (acc:Array Nat),(∀j,l[j]?=os[acc.size+j]?) ->
  (∀i k,(acc.getD i 0).testBit k=true->S i=true->S k=true) ->
  ∀i k,((l.foldl (fun (acc:Array Nat) o=>acc.push (o.after.foldl (fun s e=>if Region.binds .any e then s ||| 2 ^ e.on ||| acc.getD e.on 0 else s) 0)) acc).getD i 0).testBit k=true->S i=true->S k=true
 | [],acc,_,ha,i,k,h,hi=>ha i k h hi
 |o::l,acc,hl,ha,i,k,h,hi=>by
   rw[List.foldl_cons]at h;refine qF os S hd l _ (fun j=>?_) (fun i k h hi=>?_) i k h hi
   ·have:=hl (j+1)
    simp only[List.getElem?_cons_succ]at this;rw[this];simp;congr 1;omega
   ·by_cases gF:i<acc.size
    ·refine ha i k ?_ hi
     rw[zLv,Array.getElem?_push_lt gF]at h;rw[zLv,Array.getElem?_eq_getElem gF];exact h
    ·by_cases he:i=acc.size
     ·subst he
      rw[zLv,Array.getElem?_push_size,Option.getD_some,<-Array.foldl_toList]at h;rcases XK acc k _ _ h with h|⟨e,he,hb,hk⟩
      ·simp at h
      ·have hS:S e.on=true:=hd acc.size o e (by have:=hl 0;simpa using this.symm) (by simpa using he) hb hi
       rcases hk with rfl|hk
       ·exact hS
       ·exact ha _ _ hk hS
     ·rw[zLv,Array.getElem?_eq_none (by simp;omega)]at h
      simp at h
theorem vQ{os:List Oper}{S:Nat->Bool}(hd:yH os S){i k:Nat}(h:((bitsOf os).getD i 0).testBit k=true)(hi:S i=true):S k=true:=by
 unfold bitsOf Region.before at h;rw[<-Array.foldl_toList]at h;exact qF os S hd os #[] (by simp) (by simp) i k h hi
structure Inv(E:World->World->Prop)(N:Nat)(D:List Deferred)(os:List Oper)(Φ:Z9)(cs:List Bool)(a:Act)(w:World)(S:Nat->Bool)(a':Act)(w':World):Prop where
 fit:a'.fitD N D
 ext:E w w'
 Xz:∀t,KZ os Φ cs a S t w' (a'.get t)
 done:∀(i:Nat) (o:Oper),os[i]?=some o->o.dst=none->S i=true->act os cs i=true->∃v,pred Φ i w' v
theorem JA{os:List Oper}{o:Oper}{t:Nat}(h:XL o t=true):t∈names os o:=by
 unfold XL at h;rw[List.any_eq_true]at h;obtain⟨x,hx,h⟩:=h;cases x<;>simp at h;rename_i u;subst h;exact List.mem_append_left _ (List.mem_filterMap.2 ⟨_,hx,rfl⟩)
theorem zS{N:Nat}{os:List Oper}(h:zz N os=true){i:Nat}{o:Oper}(ho:os[i]?=some o) :
  (∀e∈o.after,Region.binds .any e=true->e.on<i) /\
  (∀d,o.dst=some d->d<N/\∀j o',os[j]?=some o'->i≠j->(d∈names os o'\/o'.dst=some d)->qt (bitsOf os) i j=true) /\
  (∀g want,o.guard=some (g,want)->((bitsOf os).getD i 0).testBit g=true/\∃og d,os[g]?=some og/\og.dst=some d/\lw os (fun j=>Nat.blt j i) d=some g):=by
 unfold zz at h;rw[zME]at h;have hm:(o,i)∈os.zipIdx:=by
  rw[List.mem_zipIdx_iff_getElem?];simpa using ho
 have h1:=h _ hm;simp only[zLZ]at h1;obtain⟨⟨h1,h2⟩,h3⟩:=h1;refine⟨?_,?_,?_⟩
 ·intro e he hb
  rw[Array.all_eq_true']at h1;have:=h1 e he
  simpa[hb] using this
 ·intro d hd
  rw[hd]at h2;simp only[zLZ,zLr]at h2;refine⟨h2.1,fun j o' ho' hij hor=>?_⟩
  have h4:=h2.2;rw[zME]at h4;have hm':(o',j)∈os.zipIdx:=by
   rw[List.mem_zipIdx_iff_getElem?];simpa using ho'
  have h5:=h4 _ hm';have h6:(decide (i≠j) && ((names os o').contains d || o'.dst == some d))=true:=by
   simp[hij];rcases hor with h|h
   ·exact .inl h
   ·exact .inr h
  rw[h6]at h5;simpa using h5
 ·intro g want hg
  rw[hg]at h3;simp only[zLZ,Option.any_eq_true,beq_iff_eq]at h3;obtain⟨h3,d,hd,aJ⟩:=h3;rw[Option.bind_eq_some_iff]at hd;obtain⟨og,cL,hd⟩:=hd;exact⟨h3,og,d,cL,hd,aJ⟩
theorem H4{N:Nat}{os:List Oper}(kA:zz N os=true){S:Nat->Bool}(hd:yH os S){i:Nat}{o:Oper}(ho:os[i]?=some o)(hi:S i=false)
  (fW:∀e∈o.after,Region.binds .any e=true->S e.on=true) {t:Nat} (ht:t∈names os o) :
  lw os S t=lw os (fun j=>Nat.blt j i) t:=by
 refine JI fun j oj sI hw=>?_
 have fY:oj.dst=some t:=by
  unfold writes at hw
  cases hd:oj.dst with
  |none=>simp[hd]at hw
  |some d=>rw[hd]at hw;exact zLq some (zLY hw)
 have hS':yH os (fun j=>S j || Nat.beq j i):=by
  intro j oj e sI he hb hj;simp only[zLx]at hj |-;rcases hj with hj|hj
  ·exact .inl (hd j oj e sI he hb hj)
  ·obtain rfl:=zLY hj
   rw[ho]at sI;cases sI;exact .inl (fW e he hb)
 have hb:∀a b:Nat,Nat.blt a b=decide (a<b):=fun a b=>by
  cases h:Nat.blt a b with
  |true=>simp[Nat.blt_eq]at h;simp[h]
  |false =>
        symm;simp;have h':¬(Nat.blt a b=true):=by simp[h]
        rw[Nat.blt_eq]at h';omega
 rw[hb];by_cases oG:j=i
 ·subst oG;simp[hi]
 have hp:=((zS kA sI).2.1 t fY).2 i o ho oG (.inl ht);unfold qt at hp;by_cases gF:j<i
 ·rw[Nat.max_eq_right (by omega),Nat.min_eq_left (by omega)]at hp
  have:=vQ hS' hp (by simp)
  simp only[zLx]at this;rcases this with h|h
  ·simp[h,gF]
  ·have:=zLY h;omega
 ·rw[Nat.max_eq_left (by omega),Nat.min_eq_right (by omega)]at hp
  cases bK:S j with
  |false=>simp;omega
  |true=>have:=vQ hd hp bK;rw[hi]at this;cases this
theorem MW{os:List Oper}{cs:List Bool}(cW:∀(i:Nat) (o:Oper) (g:Nat) (w:Bool),os[i]?=some o->o.guard=some (g,w)->g<i):∀(i n m:Nat),i<n->i<m->Ho os cs n i=Ho os cs m i:=by
 intro i
 induction i using Nat.strongRecOn with
 |_ i ih =>
  intro n m hn hm;obtain⟨n,rfl⟩:∃k,n=k+1:=⟨n-1,by omega⟩
  obtain⟨m,rfl⟩:∃k,m=k+1:=⟨m-1,by omega⟩
  simp only[Ho]
  cases ho:os[i]? with
  |none=>rfl
  |some o =>
   cases hg:o.guard with
   |none=>simp[hg]
   |some p =>
    obtain⟨g,w⟩:=p;have gF:=cW i o g w ho hg
    simp only[zLX,hg];rw[ih g gF n m (by omega) (by omega)]
theorem Ks{os:List Oper}{cs:List Bool}{i:Nat}{o:Oper}(ho:os[i]?=some o)(hg:o.guard=none):act os cs i=true:=by
 simp[act,Ho,ho,hg]
theorem Kr{os:List Oper}{cs:List Bool}(cW:∀(i:Nat) (o:Oper) (g:Nat) (w:Bool),os[i]?=some o->o.guard=some (g,w)->g<i){i g:Nat}{w:Bool}{o:Oper}(ho:os[i]?=some o)(hg:o.guard=some (g,w)) :
  act os cs i=(act os cs g && (cs.getD g false == w)):=by
 have:=cW i o g w ho hg;simp only[act,Ho,ho,zLX,hg];rw[MW cW g i (g+1) this (by omega)]
 rfl
theorem Zt{N:Nat}{os:List Oper}(kA:zz N os=true):∀(i:Nat) (o:Oper) (g:Nat) (w:Bool),os[i]?=some o->o.guard=some (g,w)->g<i:=by
 intro i o g w ho hg;obtain⟨_,_,h3⟩:=zS kA ho;obtain⟨_,og,d,cL,hd,aJ⟩:=h3 g w hg;have:=(ux aJ).1
 rw[Nat.blt_eq]at this;exact this
structure Good(E:World->World->Prop)(os:List Oper)(Φ:Z9)(cs:List Bool):Prop where
 qk:∀i w w' v,E w w'->pred Φ i w v->pred Φ i w' v
 guards:∀(i:Nat) (o:Oper) (g:Nat) (want:Bool),os[i]?=some o->o.guard=some (g,want)->∀w v,pred Φ g w v->v=.bool (cs.getD g false)
theorem za(a b:Nat):Nat.blt a b=decide (a<b):=by
 cases h:Nat.blt a b with
 |true=>simp[Nat.blt_eq]at h;simp[h]
 |false =>
  symm;simp
  have h':¬(Nat.blt a b=true):=by simp[h]
  rw[Nat.blt_eq]at h';omega
theorem zU(a b:Nat):Nat.beq a b=decide (a=b):=by
 cases h:Nat.beq a b with
 |true=>simp[zLY h]
 |false=>symm;simp;intro e;subst e;simp at h
theorem G8{E:World->World->Prop}(ht:∀a b c,E a b->E b c->E a c){N:Nat}{os:List Oper}{Φ:Z9}{cs:List Bool}{a:Act}{w:World}{S:Nat->Bool}{a':Act}{w' w'':World}
  (kA:zz N os=true) (fF:Good E os Φ cs) (hI:Inv E N D os Φ cs a w S a' w') (hd:yH os S) {i:Nat} {o:Oper} (ho:os[i]?=some o) (hi:S i=false)
  (hE:E w' w'') {v:Value} (hv:Left os Φ cs i w'' v):Inv E N D os Φ cs a w (fun j=>S j || Nat.beq j i) (a'.put o.dst v) w'':=by
 refine⟨ZS hI.fit _ _,ht _ _ _ hI.ext hE,fun t=>?_,fun j oj sI oH bK fP=>?_⟩
 rotate_left
 ·simp only[zLx]at bK
  rcases bK with bK|bK
  ·obtain⟨u,hu⟩:=hI.done j oj sI oH bK fP
   exact⟨u,fF.qk _ _ _ _ hE hu⟩
  ·obtain rfl:=zLY bK
   exact⟨v,hv.on fP⟩
 by_cases fY:o.dst=some t
 ·have aJ:lw os (fun j=>S j || Nat.beq j i) t=some i:=by
   refine Kf os 0 none (Nat.zero_le _) ⟨o,by simpa using ho,by simp[writes,fY]⟩ fun j oj hj sI hw=>?_
   simp at sI;have oH:oj.dst=some t:=by
    unfold writes at hw
    cases hd:oj.dst with
    |none=>simp[hd]at hw
    |some d=>rw[hd]at hw;exact zLq some (zLY hw)
   have hp:=((zS kA sI).2.1 t oH).2 i o ho (by omega) (.inr fY)
   unfold qt at hp;rw[Nat.max_eq_left (by omega),Nat.min_eq_right (by omega)]at hp
   cases bK:S j with
   |false=>rfl
   |true=>have:=vQ hd hp bK;rw[hi]at this;cases this
  unfold KZ;rw[aJ,fY];simp only[];rw[yZ hI.fit ((zS kA ho).2.1 t fY).1];exact hv
 ·have aJ:lw os (fun j=>S j || Nat.beq j i) t=lw os S t:=by
   refine JI fun j oj sI hw=>?_
   by_cases oG:j=i
   ·subst oG
    rw[ho]at sI;cases sI;unfold writes at hw
    cases hd:o.dst with
    |none=>simp[hd]at hw
    |some d=>rw[hd]at hw;exact zLp (by rw[hd,zLY hw]) fY
   ·simp[zU,oG]
  have fB:(a'.put o.dst v).get t=a'.get t:=by
   cases hd:o.dst with
   |none=>rfl
   |some d=>exact vk (fun e=>fY (by rw[hd,e])) v
  have hk:=hI.Xz t;unfold KZ at hk |-;rw[aJ,fB]
  cases hl:lw os S t with
  |none=>rw[hl]at hk;exact hk
  |some j =>
   rw[hl]at hk;exact⟨fun h=>fF.qk _ _ _ _ hE (hk.on h),hk.off⟩
theorem Br{E:World->World->Prop}(hr:∀w,E w w)(ht:∀a b c,E a b->E b c->E a c){P:Program}{Q:Exit->Act->World->Prop}{N:Nat}{os:List Oper}{Φ:Z9}{cs:List Bool}{a:Act}{w:World}{S:Nat->Bool}{a':Act}{w':World}
  (kA:zz N os=true) (fF:Good E os Φ cs) (hI:Inv E N D os Φ cs a w S a' w') (hd:yH os S) {i:Nat} {o:Oper} (ho:os[i]?=some o) (hi:S i=false)
  (fW:∀e∈o.after,Region.binds .any e=true->S e.on=true) (sB:Obl E P os Φ cs a w i o)
  (K:Act->World->Prop) (hK:∀a'' w'',Inv E N D os Φ cs a w (fun j=>S j || Nat.beq j i) a'' w''->K a'' w'') :
  if Region.wanted o (yielded os.toArray a'.tmps) then o.wp P a' w' K Q else K (a'.put o.dst undef) w':=by
 have fI:act os cs i=true->o.wp P a' w' K Q:=fun fP =>
  sB a' w' hI.ext (fun t ht=>by
   have:=hI.Xz t;unfold KZ at this |-;rwa[H4 kA hd ho hi fW (JA ht)]at this) fP K Q
   (fun v w'' hE hv=>hK _ _ (G8 ht kA fF hI hd ho hi hE ⟨fun _=>hv,fun h=>by rw[fP]at h;cases h⟩))
 have sJ:act os cs i=false->K (a'.put o.dst undef) w':=fun fP =>
  hK _ _ (G8 ht kA fF hI hd ho hi (hr _) ⟨(fun h=>by rw[fP]at h;cases h),fun _=>rfl⟩)
 cases hg:o.guard with
 |none =>
  have:Region.wanted o (yielded os.toArray a'.tmps)=true:=by simp[Region.wanted,hg]
  rw[zLz this];exact fI (Ks ho hg)
 |some p =>
  obtain⟨g,want⟩:=p;obtain⟨_,_,h3⟩:=zS kA ho;obtain⟨_,og,d,cL,fY,aJ⟩:=h3 g want hg;have bR:=hI.Xz d
  unfold KZ at bR;have xS:d∈names os o:=by
   unfold names;rw[hg];exact List.mem_append_right _ (by simp[cL,fY])
  rw[H4 kA hd ho hi fW xS,aJ]at bR;simp only[]at bR;have fP:=Kr (cs:=cs) (Zt kA) ho hg
  have eS:d<a'.tmps.size:=by rw[hI.fit.size];exact((zS kA cL).2.1 d fY).1
  have fB:a'.tmps[d]?=some (a'.get d):=by
   simp[Act.get,zLv,Array.getElem?_eq_getElem eS]
  have hy:yielded os.toArray a'.tmps g=(match a'.get d with|.bool b=>some b|_=>none):=by
   unfold yielded;simp only[List.getElem?_toArray,cL,zLX,fY,fB];cases a'.get d<;>rfl
  cases sX:act os cs g with
  |false =>
   have h:=bR.off sX;rw[sX]at fP;have hw:Region.wanted o (yielded os.toArray a'.tmps)=false:=by
    simp only[Region.wanted,hg,hy,h,undef];rfl
   rw[zMA (by rw[hw];exact Bool.false_ne_true)]
   exact sJ (by simpa using fP)
  |true =>
   have h:=fF.guards i o g want ho hg _ _ (bR.on sX);rw[sX,Bool.true_and]at fP;have hw:Region.wanted o (yielded os.toArray a'.tmps)=act os cs i:=by
    simp only[Region.wanted,hg,hy,h,fP];cases cs.getD g false<;>cases want<;>rfl
   rw[hw]
   cases hb:act os cs i with
   |true=>rw[zLz rfl];exact fI hb
   |false=>rw[zMA Bool.false_ne_true];exact sJ hb
theorem getD_set_true(l:Array Bool)(i j:Nat)(hi:i<l.size):(l.setIfInBounds i true).getD j false=(l.getD j false || Nat.beq j i):=by
 rw[zU];by_cases h:j=i
 ·subst h;simp[zLv,hi]
 ·simp[zLv,Array.getElem?_setIfInBounds_ne (Ne.symm h),h]
def X4(os:List Oper)(m:Nat):Bool :=
 let b:=bitsOf os
 (List.range os.length).all fun k=>!Nat.ble m k || (List.range k).all fun j=>(b.getD k 0).testBit j
theorem wc{os:List Oper}{m:Nat}(h:X4 os m=true){j k:Nat}(hk:k<os.length)(hm:m<=k)(hj:j<k):((bitsOf os).getD k 0).testBit j=true:=by
 unfold X4 at h;simp only[zME,List.mem_range]at h;have:=h k hk
 have hb:Nat.ble m k=true:=by rw[Nat.ble_eq];exact hm
 simp only[hb,Bool.not_true,Bool.false_or,zME,List.mem_range]at this;exact this j hj
abbrev OpW:=Oper->Act->World->(Act->World->Prop)->Prop
structure OpW.Mono(W:OpW):Prop where
 h:∀(o:Oper) (a:Act) (w:World) (K K':Act->World->Prop),(∀a w,K a w->K' a w)->W o a w K->W o a w K'
def gOp(W:OpW)(ops:Array Oper)(i:Nat)(K:Act->World->Prop)(a:Act)(w:World):Prop :=
 match ops[i]? with
 |none=>K a w
 |some o=>if Region.wanted o (yielded ops a.tmps) then W o a w K else K (a.put o.dst undef) w
def XB(W:OpW)(ops:Array Oper)(q:Act->World->Prop):List Nat->Act->World->Prop
 | [],a,w=>q a w
 |i::rest,a,w=>gOp W ops i (XB W ops q rest) a w
def vt(W:OpW)(ops:Array Oper)(q:Act->World->Prop):List Oper->Act->World->Prop
 | [],a,w=>q a w
 |o::rest,a,w=>if Region.wanted o (yielded ops a.tmps) then W o a w (vt W ops q rest) else vt W ops q rest (a.put o.dst undef) w
def D7(W:OpW)(ops:Array Oper)(q:Act->World->Prop):Nat->Array Bool->Act->World->Prop
 |0,listed,a,w=>Region.ready .any ops listed=[]/\q a w
 |fuel+1,listed,a,w =>
  (Region.ready .any ops listed=[]->q a w) /\
  ∀i∈Region.ready .any ops listed,gOp W ops i (D7 W ops q fuel (listed.setIfInBounds i true)) a w
theorem QD{W:OpW}(hW:W.Mono){ops:Array Oper}{i:Nat}{a:Act}{w:World}{K K':Act->World->Prop}(h:∀a w,K a w->K' a w)(hh:gOp W ops i K a w):gOp W ops i K' a w:=by
 unfold gOp at *;split
 ·exact h _ _ (by simpa[*] using hh)
 ·rename_i o ho
  simp only[ho]at hh;split
  ·rename_i hw;simp only[hw,if_true]at hh;exact hW.h _ _ _ _ _ h hh
  ·rename_i hw;simp only[hw]at hh;exact h _ _ hh
theorem kV{W:OpW}{ops:Array Oper}{q:Act->World->Prop}(l:List Oper):∀k,(∀j,l[j]?=ops[k+j]?)->XB W ops q (List.range' k l.length)=vt W ops q l:=by
 induction l with
 |nil=>intro k _;funext a w;simp[XB,vt]
 |cons o l ih =>
  intro k h;have h0:ops[k]?=some o:=by simpa using (h 0).symm
  have ih':=ih (k+1) (fun j=>by have:=h (j+1);simpa[Nat.add_assoc,Nat.add_comm 1 j] using this)
  funext a w
  simp only[zLh,List.range'_succ,XB,gOp,h0,vt,ih']
abbrev fw(r:Option Nat):Fence:={ Fence.wide with round:=r }
def inW(r:Option Nat)(n:Nat)(P:Program)(Q:Exit->Act->World->Prop):OpW:=fun o a w K=>o.wpIn (fw r) n P a w K Q
theorem Kj{r:Option Nat}{n:Nat}{P:Program}{Q:Exit->Act->World->Prop}:(inW r n P Q).Mono:=⟨fun _ _ _ _ _ h hh=>Oper.wpIn_mono h hh⟩
theorem qE{r:Option Nat}{n m:Nat}{P:Program}{f:FuncId}{args:Array Value}{w:World}{R:Ending->World->Prop}(h:Calls P f args w R):CallsIn (fw r) n P f args w R:=(callsIn_wide (n:=n)).2 h
theorem jz{r:Option Nat}{n:Nat}{P:Program}{o:Oper}{a:Act}{w:World}{K:Act->World->Prop}{Q:Exit->Act->World->Prop}(hd:∀c,o.op≠.defer c)(h:o.wp P a w K Q):o.wpIn (fw r) n P a w K Q:=by
 refine⟨fun _ _=>trivial,?_⟩
 rw[show (fw r).round=r from rfl,Oper.semAt_eq r a.eval o hd]
 unfold Oper.wp at h;have oI:∀ {m:Nat},(fw r).depth.isSome=true->1<=m:=fun h=>by simp[Fence.wide]at h
 generalize (execOp a.eval o).run P w=q at h
 cases q with
 |ok x w' =>
  cases x<;>simp only[Oper.upon,Oper.uponIn]at h |- <;>
   first
    |exact h
    |exact⟨oI,qE (m:=0) h⟩
    |exact⟨oI,fun c cs _=>by obtain⟨v,w2,h1,h2⟩:=h c cs;exact⟨v,w2,h1,stepsIn_wide.2 h2⟩⟩
    |exact h.elim
 |halt x w'=>cases x<;>simp only[Oper.upon,Oper.uponIn]at h |-<;>exact h
theorem u4{r:Option Nat}{n:Nat}{P:Program}{ops:Array Oper}{Q:Exit->Act->World->Prop}:∀(l:List Nat) (a:Act) (w:World),XB (inW r n P Q) ops (Q .normal) l a w->wpOpsIn (fw r) n P ops Q l a w
 | [],_,_,h=>h
 |i::rest,a,w,h=>by
  simp only[XB,gOp,wpOpsIn]at h |-;split
  ·rename_i ho;simp only[ho]at h;exact u4 rest a w h
  ·rename_i o ho
   simp only[ho]at h;split
   ·rename_i hw;rw[zLz hw]at h;exact Kj.h _ _ _ _ _ (fun a w=>u4 rest a w) h
   ·rename_i hw;rw[zMA hw]at h;exact⟨fun _ _=>trivial,u4 rest _ w h⟩
theorem u6{r:Option Nat}{n:Nat}{P:Program}{ops:Array Oper}{Q:Exit->Act->World->Prop}:∀(fuel:Nat) (listed:Array Bool) (a:Act) (w:World),D7 (inW r n P Q) ops (Q .normal) fuel listed a w->wpAnyIn (fw r) n P .any ops Q fuel listed a w
 |0,_,_,_,h=>h
 |fuel+1,listed,a,w,h=>⟨h.1,fun i hi=>by
  have h1:=h.2 i hi;unfold gOp at h1;unfold wpOpIn;split
  ·rename_i ho;simp only[ho]at h1;exact u6 fuel _ a w h1
  ·rename_i o ho
   simp only[ho]at h1;split
   ·rename_i hw;rw[zLz hw]at h1;exact Kj.h _ _ _ _ _ (fun a w=>u6 fuel _ a w) h1
   ·rename_i hw;rw[zMA hw]at h1;exact⟨fun _ _=>trivial,u6 fuel _ _ w h1⟩⟩
theorem kz{P:Program}{b:Frame}{a:Act}{k:List Item}{cs:List Frame}{w:World}{c:Code}:step P (lone (b.atR a (.code (.scope c)::k)) cs w)=.next (lone (b.atR a (.code c::.inScope c::k)) cs w) :=
 step_lone_go (by simp[stepG,stepG.exec,Frame.atR])
theorem rN{P:Program}{b:Frame}{a:Act}{k:List Item}{cs:List Frame}{w:World}{c:Code}:step P (lone (b.atR a (.inScope c::k)) cs w)=.next (lone (b.atR a k) cs w) :=
 step_lone_go (by simp[stepG,stepG.exec,Frame.atR])
def zAA(W:OpW)(ops:Array Oper)(draw:Bool)(q:Act->World->Prop)(a:Act)(w:World):Prop:=match draw with
 |true=>D7 W ops q ops.size (Array.replicate ops.size false) a { w with drawn:=w.drawn+1 }
 |false=>XB W ops q (List.range ops.size) a w
theorem Jr{r:Option Nat}{n:Nat}{P:Program}{ops:Array Oper}{draw:Bool}{Q:Exit->Act->World->Prop}{a:Act}{w:World}{id:Nat}(hm:draw=true->P.follows .mixedOrders=true)(h:zAA (inW r n P Q) ops draw (Q .normal) a w):(Code.region id ops draw).wpIn (fw r) n P Q a w:=by
 cases draw with
 |true=>exact wpIn_region_any (hm rfl) (u6 _ _ _ _ h)
 |false=>exact wpIn_region (u4 _ _ _ h)
theorem Qg{W:OpW}(xA:W.Mono){q:Act->World->Prop}{N:Nat}{os:List Oper}{m:Nat}(kA:zz N os=true)(ht:X4 os m=true) :
  ∀(n k fuel:Nat) (listed:Array Bool) (a:Act) (w:World),k+n=os.length->m<=k->n<=fuel->listed.size=os.length->(∀j,listed.getD j false=Nat.blt j k) ->
   XB W os.toArray q (List.range' k n) a w->D7 W os.toArray q fuel listed a w:=by
 intro n
 induction n with
 |zero =>
  intro k fuel listed a w hk hm hf hs hl h;have tP:Region.ready .any os.toArray listed=[]:=by
   unfold Region.ready;rw[List.filter_eq_nil_iff];intro i hi;have hi':i<listed.size:=by simp at hi;omega
   have aK:=hl i;rw[za]at aK;have:listed.getD i true=true:=by
    simp[zLv,hi']at aK |-;rw[aK,zLr];omega
   simp[this]
  have hQ:q a w:=by simpa[XB] using h
  cases fuel with
  |zero=>exact⟨tP,hQ⟩
  |succ fuel=>exact⟨fun _=>hQ,fun i hi=>by rw[tP]at hi;cases hi⟩
 |succ n ih =>
  intro k fuel listed a w hk hm hf hs hl h;obtain⟨fuel,rfl⟩:∃f,fuel=f+1:=⟨fuel-1,by omega⟩
  have hk':k<os.length:=by omega
  have ho:os[k]?=some os[k]:=zMD hk';have aL:k<listed.size:=by omega
  have bS:k∈Region.ready .any os.toArray listed:=by
   unfold Region.ready;rw[List.mem_filter];refine⟨by simpa using hk',?_⟩
   have hlk:=hl k;rw[za]at hlk;have gF:listed.getD k true=false:=by
    simp[zLv,aL]at hlk |-;exact hlk
   simp only[gF,Bool.not_false,Bool.true_and,List.getElem?_toArray,ho,Option.map_some,Option.getD_some];rw[Array.all_eq_true'];intro e he
   cases hb:Region.binds .any e with
   |false=>rfl
   |true=>simp only[Bool.not_true,Bool.false_or];rw[hl,za];simpa using (zS kA ho).1 e he hb
  refine⟨fun tP=>(by rw[tP]at bS;cases bS),fun i hi=>?_⟩
  have eT:i=k:=by
   unfold Region.ready at hi;rw[List.mem_filter]at hi;obtain⟨gF,hi⟩:=hi;have gF:i<os.length:=by simpa using gF
   have hoi:os[i]?=some os[i]:=zMD gF;simp only[zLZ,Bool.not_eq_true',List.getElem?_toArray,hoi,Option.map_some,Option.getD_some]at hi;obtain⟨lV,fW⟩:=hi;have hi':i<listed.size:=by omega
   have aK:listed.getD i false=false:=by
    simp[zLv,hi']at lV |-;exact lV
   have tW:k<=i:=by
    rw[hl,za]at aK;simpa using aK
   rcases Nat.lt_or_ge k i with hgt|fG
   ·exfalso
    have eU:=wc ht gF (by omega) hgt
    have dL:yH os (fun j=>listed.getD j false || Nat.beq j i):=by
     intro j oj e sI he hb hj;simp only[zLx]at hj |-;rcases hj with hj|hj
     ·left
      rw[hl,za,zLr]at hj |-;have:=(zS kA sI).1 e he hb
      omega
     ·obtain rfl:=zLY hj
      rw[hoi]at sI;cases sI
      left
      rw[Array.all_eq_true']at fW;have:=fW e he
      simpa[hb] using this
    have:=vQ dL eU (by simp)
    simp only[zLx]at this;rcases this with h|h
    ·rw[hl,za]at h;simp at h
    ·have:=zLY h;omega
   ·omega
  subst eT;rw[List.range'_succ,XB]at h;refine QD xA (fun a w h=>?_) h
  refine ih (i+1) fuel _ a w (by omega) (by omega) (by omega) (by simp[hs]) (fun j=>?_) h
  rw[getD_set_true _ _ _ aL,hl,za,za,zU];by_cases h:j<i+1<;>by_cases h2:j<i<;>by_cases h3:j=i<;>simp[h,h2,h3]<;>omega
theorem Qh{E:World->World->Prop}(hr:∀w,E w w)(ht:∀a b c,E a b->E b c->E a c){P:Program}{W:OpW}(xA:W.Mono){q:Act->World->Prop}{N:Nat}{os:List Oper}{Φ:Z9}{cs:List Bool}{a:Act}{w:World}(hW:∀(i:Nat) o,os[i]?=some o->∀a w K,o.wp P a w K (fun _ _ _=>False)->W o a w K)
  {m:Nat} (cX:m<=os.length) (bT:X4 os m=true)
  (kA:zz N os=true) (fF:Good E os Φ cs) (sB:∀i o,i<m->os[i]?=some o->Obl E P os Φ cs a w i o)
  (hQ:∀a' w',Inv E N D os Φ cs a w (fun j=>Nat.blt j m) a' w'->XB W os.toArray q (List.range' m (os.length-m)) a' w') :
  ∀(fuel:Nat) (listed:Array Bool),listed.size=os.length->os.length<=fuel+(listed.toList.countP (·=true))->(∀j,listed.getD j false=true->j<m)->yH os (fun j=>listed.getD j false)->∀a' w',Inv E N D os Φ cs a w (fun j=>listed.getD j false) a' w' ->
   D7 W os.toArray q fuel listed a' w':=by
 have full:∀(fuel:Nat) (listed:Array Bool),listed.size=os.length->os.length<=fuel+(listed.toList.countP (·=true))->(∀j,listed.getD j false=Nat.blt j m) ->
   ∀a' w',Inv E N D os Φ cs a w (fun j=>listed.getD j false) a' w'->D7 W os.toArray q fuel listed a' w':=by
  intro fuel listed hs hc hl a' w' hI;have hB8:listed.toList.countP (·=true)<=m:=by
   have h1:listed.toList=(List.range listed.size).map (fun j=>Nat.blt j m):=by
    apply List.ext_getElem
    ·simp
    ·intro i h1 h2
     have:=hl i;have hi:i<listed.size:=by simpa using h1
     simp[zLv,hi]at this;simp[this]
   rw[h1,List.countP_map];have:∀n:Nat,(List.range n).countP ((fun b=>decide (b=true)) ∘ fun j=>Nat.blt j m)<=m:=by
    intro n;have h2:∀n:Nat,(List.range n).countP ((fun b=>decide (b=true)) ∘ fun j=>Nat.blt j m)=min n m:=by
     intro n
     induction n with
     |zero=>simp
     |succ n ih =>
      rw[List.range_succ,List.countP_append,ih];simp only[List.countP_cons,List.countP_nil,Function.comp,za];by_cases h:n<m<;>simp[h]<;>omega
    rw[h2];omega
   exact this _
  refine Qg xA kA bT (os.length-m) m fuel listed a' w' (by omega) (zLb _) (by omega) hs hl (hQ a' w' ?_)
  have:(fun j=>listed.getD j false)=(fun j=>Nat.blt j m):=funext hl
  rwa[this]at hI
 have pre_full:∀(listed:Array Bool),(∀j,listed.getD j false=true->j<m)->(∀i,i<m->listed.getD i false=true)->∀j,listed.getD j false=Nat.blt j m:=by
  intro listed h1 h2 j;rw[za];by_cases h:j<m
  ·simp[h,h2 j h]
  ·cases hl:listed.getD j false with
   |false=>simp[h]
   |true=>exact zLp (h1 j hl) h
 intro fuel
 induction fuel with
 |zero =>
  intro listed hs hc hm hd a' w' hI;have hc':listed.toList.countP (·=true)=listed.toList.length:=by
   have:=List.countP_le_length (p:=(fun b=>decide (b=true))) (l:=listed.toList)
   simp only[Array.length_toList]at this |-;omega
  rw[List.countP_eq_length]at hc';refine full 0 listed hs hc (pre_full listed hm fun i hi=>?_) a' w' hI
  have hi':i<listed.size:=by omega
  have aK:=hc' listed[i] (by simp)
  simp[zLv,hi'];simpa using aK
 |succ fuel ih =>
  intro listed hs hc hm hd a' w' hI;by_cases fH:∀i,i<m->listed.getD i false=true
  ·exact full (fuel+1) listed hs hc (pre_full listed hm fH) a' w' hI
  ·have hex:∃i,i<m/\listed.getD i false=false/\∀j,j<i->listed.getD j false=true:=by
    have key:∀n,(∀j,j<n->listed.getD j false=true)\/∃i,i<n/\listed.getD i false=false/\∀j,j<i->listed.getD j false=true:=by
     intro n
     induction n with
     |zero=>exact .inl (by intro j hj;omega)
     |succ n ihn =>
      rcases ihn with h|⟨i,h1,h2⟩
      ·cases hn:listed.getD n false with
       |true =>
            refine .inl fun j hj=>?_
            rcases Nat.lt_or_ge j n with h'|h'
            ·exact h j h'
            ·obtain rfl:j=n:=by omega
             exact hn
       |false=>exact .inr ⟨n,by omega,hn,h⟩
      ·exact .inr ⟨i,by omega,h2⟩
    rcases key m with h|h
    ·exact zLp h fH
    ·exact h
   refine⟨fun tP=>?_,fun i hi=>?_⟩
   ·exfalso
    obtain⟨i,eV,hif,hj⟩:=hex;have gF:i<os.length:=by omega
    have hrm:i∈Region.ready .any os.toArray listed:=by
     unfold Region.ready;rw[List.mem_filter];refine⟨by simpa using gF,?_⟩
     have hl':listed.getD i true=false:=by
      have:i<listed.size:=by omega
      simp[zLv,this]at hif |-;exact hif
     have ho:os[i]?=some os[i]:=zMD gF;simp only[hl',Bool.not_false,Bool.true_and,List.getElem?_toArray,ho,Option.map_some,Option.getD_some];rw[Array.all_eq_true'];intro e he
     cases hb:Region.binds .any e with
     |false=>rfl
     |true=>simp[hj e.on ((zS kA ho).1 e he hb)]
    rw[tP]at hrm;cases hrm
   ·unfold Region.ready at hi
    rw[List.mem_filter]at hi;obtain⟨gF,hi⟩:=hi;have gF:i<os.length:=by simpa using gF
    have ho:os[i]?=some os[i]:=zMD gF;simp only[zLZ,Bool.not_eq_true',List.getElem?_toArray,ho,Option.map_some,Option.getD_some]at hi;obtain⟨lV,fW⟩:=hi;have hi':i<listed.size:=by omega
    have aK:listed.getD i false=false:=by
     simp[zLv,hi']at lV |-;exact lV
    have hpre':∀e∈os[i].after,Region.binds .any e=true->listed.getD e.on false=true:=by
     rw[Array.all_eq_true']at fW;intro e he hb;have:=fW e he
     simpa[hb] using this
    have eV:i<m:=by
     rcases Nat.lt_or_ge i m with h|h
     ·exact h
     ·exfalso
      refine fH fun j hj=>?_
      have eU:=wc bT gF h (show j<i by omega)
      have dL:yH os (fun j=>listed.getD j false || Nat.beq j i):=by
       intro j oj e sI he hb hj;simp only[zLx]at hj |-;rcases hj with hj|hj
       ·exact .inl (hd j oj e sI he hb hj)
       ·obtain rfl:=zLY hj
        rw[ho]at sI;cases sI;exact .inl (hpre' e he hb)
      have:=vQ dL eU (by simp)
      simp only[zLx]at this;rcases this with h'|h'
      ·exact h'
      ·have:=zLY h';omega
    have fT:=Br (Q:=fun _ _ _=>False) hr ht kA fF hI hd ho aK hpre' (sB i _ eV ho) (D7 W os.toArray q fuel (listed.setIfInBounds i true)) (fun a'' w'' hI'=>by
     refine ih _ (by simp[hs]) ?_ ?_ ?_ a'' w'' ?_
     ·have bU:(listed.setIfInBounds i true).toList.countP (·=true)=listed.toList.countP (·=true)+1:=by
       rw[Array.toList_setIfInBounds,List.countP_set (by simpa using hi')]
       have:listed[i]=false:=by simpa[zLv,hi'] using aK
       simp[this]
      omega
     ·intro j hj
      rw[getD_set_true _ _ _ hi',zLx]at hj;rcases hj with hj|hj
      ·exact hm j hj
      ·have:=zLY hj;omega
     ·intro j oj e sI he hb hj
      simp only[getD_set_true _ _ _ hi']at hj |-;simp only[zLx]at hj |-;rcases hj with hj|hj
      ·exact .inl (hd j oj e sI he hb hj)
      ·obtain rfl:=zLY hj
       rw[ho]at sI;cases sI;exact .inl (hpre' e he hb)
     ·have:(fun j=>(listed.setIfInBounds i true).getD j false)=(fun j=>listed.getD j false || Nat.beq j i):=funext fun j=>getD_set_true _ _ _ hi'
      rw[this];exact hI')
    unfold gOp;simp only[List.getElem?_toArray,ho];split at fT
    ·rename_i hw;rw[zLz hw];exact hW i _ ho _ _ _ fT
    ·rename_i hw;rw[zMA hw];exact fT
theorem IZ{E:World->World->Prop}(hr:∀w,E w w)(ht:∀a b c,E a b->E b c->E a c){P:Program}{W:OpW}(xA:W.Mono){q:Act->World->Prop}{N:Nat}{os:List Oper}{Φ:Z9}{cs:List Bool}{a:Act}{w:World}(hW:∀(i:Nat) o,os[i]?=some o->∀a w K,o.wp P a w K (fun _ _ _=>False)->W o a w K)
  {m:Nat} (cX:m<=os.length)
  (kA:zz N os=true) (fF:Good E os Φ cs) (sB:∀i o,i<m->os[i]?=some o->Obl E P os Φ cs a w i o)
  (hQ:∀a' w',Inv E N D os Φ cs a w (fun j=>Nat.blt j m) a' w'->XB W os.toArray q (List.range' m (os.length-m)) a' w') :
  ∀(n i:Nat),i+n=m->∀a' w',Inv E N D os Φ cs a w (fun j=>Nat.blt j i) a' w'->XB W os.toArray q (List.range' i (os.length-i)) a' w':=by
 intro n
 induction n with
 |zero =>
  intro i hi a' w' hI;obtain rfl:i=m:=by omega
  exact hQ a' w' hI
 |succ n ih =>
  intro i hi a' w' hI;have gF:i<os.length:=by omega
  have ho:os[i]?=some os[i]:=zMD gF;have dL:yH os (fun j=>Nat.blt j i):=by
   intro j oj e sI he hb hj;simp only[za,zLr]at hj |-;have:=(zS kA sI).1 e he hb
   omega
  have fT:=Br (Q:=fun _ _ _=>False) hr ht kA fF hI dL ho (by rw[za];simp) (fun e he hb=>by
   simp only[za,zLr];exact(zS kA ho).1 e he hb) (sB i _ (by omega) ho) (XB W os.toArray q (List.range' (i+1) (os.length-(i+1)))) (fun a'' w'' hI'=>by
   refine ih (i+1) (by omega) a'' w'' ?_
   have:(fun j=>Nat.blt j (i+1))=(fun j=>Nat.blt j i || Nat.beq j i):=funext fun j=>by
    rw[za,za,zU];by_cases h:j<i+1<;>by_cases h2:j<i<;>by_cases h3:j=i<;>simp[h,h2,h3]<;>omega
   rw[this];exact hI')
  rw[show os.length-i=(os.length-(i+1))+1 by omega,List.range'_succ,XB]
  unfold gOp;simp only[List.getElem?_toArray,ho];split at fT
  ·rename_i hw;rw[zLz hw];exact hW i _ ho _ _ _ fT
  ·rename_i hw;rw[zMA hw];exact fT
theorem Ja{E:World->World->Prop}{N:Nat}{os:List Oper}{Φ:Z9}{cs:List Bool}{a:Act}{w w':World}{S:Nat->Bool}(hS:∀j,j<os.length->S j=false)(hA:a.fitD N D)(hE:E w w'):Inv E N D os Φ cs a w S a w':=by
 refine⟨hA,hE,fun t=>?_,fun i o ho _ dM _=>by rw[hS i (zLf.1 ho).1]at dM;cases dM⟩
 have:lw os S t=none:=by
  rw[JI (S':=fun _=>false) fun j o ho _=>hS j (zLf.1 ho).1]
  cases h:lw os (fun _=>false) t with
  |none=>rfl
  |some i=>exact zLp (ux h).1 (by simp)
 unfold KZ;rw[this]
theorem NZ{E:World->World->Prop}(hr:∀w,E w w)(ht:∀a b c,E a b->E b c->E a c)(hdr:∀w,E w { w with drawn:=w.drawn+1 })
  {P:Program} {W:OpW} (xA:W.Mono) {q:Act->World->Prop} {N m:Nat} {os tail:List Oper} {draw:Bool} {Φ:Z9} {cs:List Bool} {a:Act} {w:World} (hW:∀(i:Nat) o,os[i]?=some o->∀a w K,o.wp P a w K (fun _ _ _=>False)->W o a w K)
  (hA:a.fitD N D) (kA:zz N os=true) (bT:draw=true->X4 os m=true) (cX:m<=os.length) (bV:os.drop m=tail) (fF:Good E os Φ cs) (sB:∀i o,i<m->os[i]?=some o->Obl E P os Φ cs a w i o)
  (hQ:∀a' w',a'.fitD N D->E w w'->(∀t,KZ os Φ cs a (fun j=>Nat.blt j m) t w' (a'.get t))->(∀(i:Nat) (o:Oper),os[i]?=some o->o.dst=none->i<m->act os cs i=true->∃v,pred Φ i w' v)->vt W os.toArray q tail a' w'):zAA W os.toArray draw q a w:=by
 have hQ':∀a' w',Inv E N D os Φ cs a w (fun j=>Nat.blt j m) a' w'->XB W os.toArray q (List.range' m (os.length-m)) a' w':=fun a' w' h=>by
  have:=hQ a' w' h.fit h.ext h.Xz (fun i o ho hd hi fP=>h.done i o ho hd (by rw[za];simp[hi]) fP)
  rw[<-kV tail m (fun j=>by rw[<-bV];simp)]at this
  rwa[<-bV,List.length_drop]at this
 cases draw with
 |true =>
  refine Qh hr ht xA hW cX (bT rfl) kA fF sB hQ' _ _ (by simp) ?_ ?_ ?_ _ _ (Ja ?_ hA (hdr w))
  ·simp
  ·intro j h
   simp[zLv]at h;by_cases hi:j<os.length<;>simp[hi]at h
  ·intro i o e _ _ _ h
   simp[zLv]at h;by_cases hi:i<os.length<;>simp[hi]at h
  ·intro j hj;simp[zLv,hj]
 |false =>
  show XB W os.toArray q (List.range os.toArray.size) a w
  rw[List.range_eq_range'];have:=IZ hr ht xA hW cX kA fF sB hQ' m 0 (by simp) _ _ (Ja (w':=w) (by intro j _;rw[za];simp) hA (hr w))
  simpa using this
theorem Au{P:Program}{Q:Exit->Act->World->Prop}{o:Oper}{a:Act}{w:World}{K:Act->World->Prop}(h:o.wp P a w K (fun _ _ _=>False)):o.wp P a w K Q:=by
 unfold Oper.wp at h |-;generalize (execOp a.eval o).run P w=r at h
 cases r with
 |ok x w' =>
  cases x<;>simp only[Oper.upon]at h |- <;>
   first
    |exact h
    |(refine Calls.mono h fun e w'' he=>?_;cases e<;>first|exact he|exact he.elim|(obtain⟨_,_,he⟩:=he;exact he.elim))
 |halt x w'=>cases x<;>simp only[Oper.upon]at h |-
inductive SP where
 |isv (v:Value)
 |pr (p:World->Value->Prop) (st:∀w w' v,Ext w w'->p w v->p w' v)
def SP.holds:SP->World->Value->Prop
 |.isv v,_,u=>u=v
 |.pr p _,w,u=>p w u
def SP.vD:SP->Bool
 |.isv (.bool b)=>b
 |_=>false
def SP.isBool:SP->Bool
 |.isv (.bool _)=>true
 |_=>false
theorem SP.qk(s:SP){w w':World}{v:Value}(h:Ext w w')(hs:s.holds w v):s.holds w' v:=by
 cases s with
 |isv v=>exact hs
 |pr p st=>exact st _ _ _ h hs
theorem SP.lL{s:SP}(h:s.isBool=true):∀w v,s.holds w v->v=.bool s.vD:=by
 intro w v hv
 cases s with
 |isv u=>cases u<;>first|(cases h;done)|exact hv
 |pr p st=>cases h
def ZM(os:List Oper)(Φ:List SP):Bool:=os.all fun o=>match o.guard with|none=>true|some (g,_)=>(Φ.getD g (.isv undef)).isBool
def XQ(os:List Oper)(Φ:List SP)(a:Act)(n t:Nat)(w:World)(v:Value):Prop :=
 match lw os (fun j=>Nat.blt j n) t with
 |none=>v=a.get t
 |some i=>(act os (Φ.map SP.vD) i=true->(Φ.getD i (.isv undef)).holds w v)/\(act os (Φ.map SP.vD) i=false->v=undef)
def zIE(P:Program)(os:List Oper)(Φ:List SP)(a:Act)(w:World)(i:Nat)(o:Oper)(φ:SP):Prop :=
 ∀a' w',Ext w w'->(∀t,XL o t=true->XQ os Φ a i t w' (a'.get t))->act os (Φ.map SP.vD) i=true->Ok P o a' w' φ.holds
inductive OblsS(P:Program)(all:List Oper)(Φ:List SP)(a:Act)(w:World):Nat->List Oper->List SP->List Oper->Prop
 |nil {i os}:OblsS P all Φ a w i os [] os
 |cons {i o os φ φs tl} (h:zIE P all Φ a w i o φ) (hs:OblsS P all Φ a w (i+1) os φs tl):OblsS P all Φ a w i (o::os) (φ::φs) tl
theorem kf(Φ:List SP)(i:Nat)(hi:i<Φ.length):pred (Φ.map SP.holds) i=(Φ.getD i (.isv undef)).holds:=by
 simp[pred,hi]
theorem OblsS.drop{P all Φ a w i os φs tl}(h:OblsS P all Φ a w i os φs tl):φs.length<=os.length/\os.drop φs.length=tl:=by
 induction h with
 |nil=>simp
 |cons _ _ ih=>simp[ih]
theorem JL{os:List Oper}{Φ:List SP}{a:Act}{n t:Nat}(hn:n<=Φ.length){w:World}{v:Value} :
  KZ os (Φ.map SP.holds) (Φ.map SP.vD) a (fun j=>Nat.blt j n) t w v↔XQ os Φ a n t w v:=by
 unfold KZ XQ
 cases h:lw os (fun j=>Nat.blt j n) t with
 |none=>rfl
 |some i =>
  have hi:=(ux h).1;rw[za,zLr]at hi;have hi:i<Φ.length:=by omega
  simp only[];constructor
  ·intro h;exact⟨fun h'=>by have:=h.on h';rwa[kf Φ i hi]at this,h.off⟩
  ·intro h;exact⟨fun h'=>by rw[kf Φ i hi];exact h.1 h',h.2⟩
theorem tY{P all a w}{Φ:List SP}:∀ {i os φs tl},OblsS P all Φ a w i os φs tl->(∀j,φs[j]?=Φ[i+j]?)->(∀j,os[j]?=all[i+j]?) ->
  ∀j o,j<φs.length->all[i+j]?=some o->Obl Ext P all (Φ.map SP.holds) (Φ.map SP.vD) a w (i+j) o
 |_,_,_,_,.nil,_,_=>by intro j o h;simp at h
 |i,_,_,_,.cons (φ:=φ) h hs,hφ,xC=>by
   intro j o hj ho
   cases j with
   |zero =>
    have h1:=xC 0;simp only[List.getElem?_cons_zero,Nat.add_zero]at h1 ho;rw[ho]at h1;cases h1;have h0:=hφ 0
    simp only[List.getElem?_cons_zero,Nat.add_zero]at h0;have hi:i<Φ.length:=(zLf.1 h0.symm).1
    have hp:pred (Φ.map SP.holds) i=φ.holds:=by
     rw[kf Φ i hi];simp[<-h0]
    intro a' w' hE hK fP;show Ok P _ a' w' (pred (Φ.map SP.holds) i)
    rw[hp];exact h a' w' hE (fun t ht=>(JL (by omega)).1 (hK t ht)) fP
   |succ j =>
    have e:i+(j+1)=i+1+j:=by omega
    rw[e]at ho |-;refine tY hs (fun j=>?_) (fun j=>?_) j o (by simpa using hj) ho
    ·have:=hφ (j+1)
     simp only[List.getElem?_cons_succ]at this;rw[this];congr 1;omega
    ·have:=xC (j+1)
     simp only[List.getElem?_cons_succ]at this;rw[this];congr 1;omega
theorem NY{D:List Deferred}{P:Program}{W:OpW}(xA:W.Mono){q:Act->World->Prop}{N:Nat}{os tail:List Oper}{draw:Bool}{a:Act}{w:World}(hW:∀(i:Nat) o,os[i]?=some o->∀a w K,o.wp P a w K (fun _ _ _=>False)->W o a w K)(Φ:List SP)
  (hA:a.fitD N D) (sB:OblsS P os Φ a w 0 os Φ tail) (kA:zz N os=true) (bT:draw=true->X4 os Φ.length=true) (hg:ZM os Φ=true)
  (hQ:∀a' w',a'.fitD N D->Ext w w'->(∀t,XQ os Φ a Φ.length t w' (a'.get t))->vt W os.toArray q tail a' w'):zAA W os.toArray draw q a w:=by
 obtain⟨hl,xT⟩:=sB.drop;refine NZ (E:=Ext) (m:=Φ.length) Ext.refl (fun _ _ _=>Ext.trans) Ext.drawn (Φ:=Φ.map SP.holds) (cs:=Φ.map SP.vD) xA hW hA kA bT hl xT ⟨?_,?_⟩ (fun i o hi ho=>by simpa using tY sB (by simp) (by simp) i o hi (by simpa using ho)) (fun a' w' h1 h2 h3 _=>hQ a' w' h1 h2 fun t=>(JL (zLb _)).1 (h3 t))
 ·intro i w w' v hE hp
  by_cases hi:i<Φ.length
  ·rw[kf Φ i hi]at hp |-;exact SP.qk _ hE hp
  ·simp[pred,hi]
 ·intro i o g want ho xQ w v hp
  unfold ZM at hg;rw[zME]at hg;have:=hg o (zLe ho)
  rw[xQ]at this;by_cases hi:g<Φ.length
  ·rw[kf Φ g hi]at hp
   have:=SP.lL this w v hp;rw[this];simp[hi]
  ·simp[hi,SP.isBool,undef]at this
structure Ty(P:Program)(T:TypeId)(d:TypeDesc)(z:Value)(size bytes:Nat):Prop where
 u:P.underlying T=some d
 i:(P.info? T).map (fun i=>(i.zero,i.size,i.bytes))=some (some z,size,bytes)
theorem Ty.info{P T d z size bytes}(h:Ty P T d z size bytes):∃i,P.info? T=some i/\i.zero=some z/\i.size=size/\i.bytes=bytes:=by
 have:=h.i
 cases hi:P.info? T with
 |none=>simp[hi]at this
 |some i=>simp[hi]at this;exact⟨i,rfl,this.1,this.2.1,this.2.2⟩
theorem Ty.gf{P T d z size bytes}(h:Ty P T d z size bytes)(w:World):(underlying T).run P w=.ok d w:=by
 simp[underlying,h.u]
theorem Ty.zy{P T d z size bytes}(h:Ty P T d z size bytes)(w:World):(sizeOf T).run P w=.ok size w:=by
 obtain⟨i,h1,h2,h3,h4⟩:=h.info;simp[sizeOf,typeInfo,h1,h3]
theorem Ty.kc{P T d z size bytes}(h:Ty P T d z size bytes)(w:World):(zeroValue T).run P w=.ok z w:=by
 obtain⟨i,h1,h2,h3,h4⟩:=h.info;simp[zeroValue,typeInfo,h1,h2]
def vN:TypeDesc->Bool
 |.struct _|.array _ _=>true
 |_=>false
theorem Ty.YU{P T d z size bytes}(h:Ty P T d z size bytes)(w:World):(isAgg T).run P w=.ok (vN d) w:=by
 simp only[isAgg,Sem.run_bind,h.gf,Result.andThen];cases d<;>rfl
def SlV(w:World)(E:Nat)(u:Value)(xs:List Value):Prop :=
 ∃a cap,u=.slice a xs.length cap/\xs.length<=cap/\(∀x∈xs,x.cells.size=E) /\
  (xs=[]\/∃b off,a=some ⟨b,off,none⟩/\∀(i:Nat) (x:Value),xs[i]?=some x->∀j,j<E->w.cell? ⟨b,off+(i * E+j),none⟩=x.cells[j]?)
def Y9(w:World)(u:Value)(x:Value):Prop :=
 ∃b off,u=.pointer (some ⟨b,off,none⟩)/\∀j,j<x.cells.size->w.cell? ⟨b,off+j,none⟩=x.cells[j]?
def Own(w:World)(b:Nat)(cs:Array Value)(T:TypeId):Prop:=∃fr:Nat×Nat,w.heap[b]?=some (.cells cs T fr)/\∀o,o<cs.size->(decide (fr.1<=o) && decide (o<fr.2))=false
theorem SlV.ext{w w':World}{E:Nat}{u:Value}{xs:List Value}(h:SlV w E u xs)(hE:Ext w w'):SlV w' E u xs:=by
 obtain⟨a,cap,h1,h2,h3,h4⟩:=h;refine⟨a,cap,h1,h2,h3,h4.imp id ?_⟩;rintro⟨b,off,ha,hc⟩;refine⟨b,off,ha,fun i x hx j hj=>?_⟩
 have:=hc i x hx j hj;have gF:j<x.cells.size:=by rw[h3 x (zLe hx)];exact hj
 rw[Array.getElem?_eq_getElem gF]at this |-;exact hE.cell this
theorem Y9.ext{w w':World}{u x:Value}(h:Y9 w u x)(hE:Ext w w'):Y9 w' u x:=by
 obtain⟨b,off,h1,h2⟩:=h;refine⟨b,off,h1,fun j hj=>?_⟩
 have:=h2 j hj;rw[Array.getElem?_eq_getElem hj]at this |-;exact hE.cell this
theorem Own.ext{w w':World}{b:Nat}{cs:Array Value}{T:TypeId}(h:Own w b cs T)(hE:Ext w w'):Own w' b cs T:=by
 obtain⟨fr,h,hf⟩:=h;exact⟨fr,hE.heap h,hf⟩
theorem Own.cell{w:World}{b:Nat}{cs:Array Value}{T:TypeId}(h:Own w b cs T)(off:Nat):w.cell? ⟨b,off,none⟩=cs[off]?:=by
 obtain⟨fr,h,hf⟩:=h;unfold World.cell?;rw[h];rfl
theorem Own.frozen{w:World}{b:Nat}{cs:Array Value}{T:TypeId}(h:Own w b cs T)(off:Nat)(ho:off<cs.size):w.frozen? ⟨b,off,none⟩=false:=by
 obtain⟨fr,h,hf⟩:=h;unfold World.frozen?;rw[h];exact hf off ho
theorem Own.lt{w:World}{b:Nat}{cs:Array Value}{T:TypeId}(h:Own w b cs T):b<w.heap.size:=by
 obtain⟨fr,h,hf⟩:=h;exact(zLy.1 h).1
theorem Own.new(w:World)(cs:Array Value)(T:TypeId):Own (w.alloc (.cells cs T)) w.heap.size cs T:=by
 refine⟨(0,0),?_,?_⟩
 ·unfold World.alloc;simp
 ·intro o _;simp
theorem Own.set{w:World}{b:Nat}{cs:Array Value}{T:TypeId}(h:Own w b cs T)(off:Nat)(v:Value):Own (w.setCell ⟨b,off,none⟩ v) b (cs.setIfInBounds off v) T:=by
 obtain⟨⟨lo,hi⟩,h,hf⟩:=h;refine⟨(lo,hi),?_,fun o ho=>hf o (by simpa using ho)⟩
 unfold World.setCell;simp[Array.getElem?_modify,h]
abbrev SP.sl(E:Nat)(xs:List Value):SP:=.pr (fun w u=>SlV w E u xs) (fun _ _ _ hE h=>h.ext hE)
abbrev SP.pt(x:Value):SP:=.pr (fun w u=>Y9 w u x) (fun _ _ _ hE h=>h.ext hE)
abbrev SP.box(L:Nat)(cs:Array Value)(T:TypeId):SP:=.pr (fun w u=>∃b,L<=b/\u=.pointer (some ⟨b,0,none⟩)/\Own w b cs T) (fun _ _ _ hE ⟨b,h0,h1,h2⟩=>⟨b,h0,h1,h2.ext hE⟩)
section ops
variable {P:Program} {a:Act} {w:World} {d:Option Tmp} {T:TypeId} {pos:String} {aft:Array Edge} {g:Option (Nat×Bool)}
theorem vC{o:Oper}{v:Value}{w':World}{φ:World->Value->Prop}(h:(execOp a.eval o).run P w=.ok (.value v) w')(hE:Ext w w')(hφ:φ w' v):Ok P o a w φ :=
 fun K Q hK=>by unfold Oper.wp;rw[h];exact hK v w' hE hφ
theorem zj{o:Oper}{v:Value}(h:(execOp a.eval o).run P w=.ok (.value v) w):Ok P o a w (SP.isv v).holds:=vC h (Ext.refl w) rfl
theorem zDX{x y:Operand}{X Y:TypeId}{k:IntKind}{m n:Int}(hx:a.eval x=.int k m)(hy:a.eval y=.int k n) :
  Ok P ⟨d,.binOp .add X x y Y,T,pos,aft,g⟩ a w (SP.isv (.int k (k.wrap (m+n)))).holds:=zj (by simp[execOp,eqGuard,hx,hy,binOp,Op.intArith])
theorem zDJ{x y:Operand}{X Y:TypeId}{k:IntKind}{m n:Int}(hx:a.eval x=.int k m)(hy:a.eval y=.int k n) :
  Ok P ⟨d,.binOp .sub X x y Y,T,pos,aft,g⟩ a w (SP.isv (.int k (k.wrap (m-n)))).holds:=zj (by simp[execOp,eqGuard,hx,hy,binOp,Op.intArith])
theorem zDQ{x y:Operand}{X Y:TypeId}{k:IntKind}{m n:Int}(hx:a.eval x=.int k m)(hy:a.eval y=.int k n) :
  Ok P ⟨d,.binOp .mul X x y Y,T,pos,aft,g⟩ a w (SP.isv (.int k (k.wrap (m * n)))).holds:=zj (by simp[execOp,eqGuard,hx,hy,binOp,Op.intArith])
theorem zDN{x y:Operand}{X Y:TypeId}{k:IntKind}{m n:Int}(hx:a.eval x=.int k m)(hy:a.eval y=.int k n)(h0:n≠0) :
  Ok P ⟨d,.binOp .quo X x y Y,T,pos,aft,g⟩ a w (SP.isv (.int k (k.wrap (m.tdiv n)))).holds:=zj (by simp[execOp,eqGuard,hx,hy,binOp,Op.intDiv,h0])
theorem zDM{x y:Operand}{X Y:TypeId}{k:IntKind}{m n:Int}(hx:a.eval x=.int k m)(hy:a.eval y=.int k n)(h0:n≠0) :
  Ok P ⟨d,.binOp .rem X x y Y,T,pos,aft,g⟩ a w (SP.isv (.int k (m.tmod n))).holds:=zj (by simp[execOp,eqGuard,hx,hy,binOp,Op.intDiv,h0])
theorem AA{x y:Operand}{X Y:TypeId}{k:IntKind}{m n r:Int}{op:BinOp}(hx:a.eval x=.int k m)(hy:a.eval y=.int k n)(aC:op=.and\/op=.or\/op=.xor\/op=.andNot)
  (hr:∀w:World,(Op.intBits op k m n).run P w=.ok (.int k r) w):Ok P ⟨d,.binOp op X x y Y,T,pos,aft,g⟩ a w (SP.isv (.int k r)).holds:=by
 refine zj ?_;rcases aC with rfl|rfl|rfl|rfl<;>simp[execOp,eqGuard,hx,hy,binOp,hr]
theorem zDK{x y:Operand}{X Y:TypeId}{k k':IntKind}{m n:Int}(hx:a.eval x=.int k m)(hy:a.eval y=.int k' n)(h0:0<=n) :
  Ok P ⟨d,.binOp .shr X x y Y,T,pos,aft,g⟩ a w (SP.isv (.int k (m.fdiv (2 ^ (min n.toNat k.bits))))).holds:=zj (by
   have:¬n<0:=by omega
   simp[execOp,eqGuard,hx,hy,binOp,Op.shift,this])
theorem zDL{x y:Operand}{X Y:TypeId}{k k':IntKind}{m n:Int}(hx:a.eval x=.int k m)(hy:a.eval y=.int k' n)(h0:0<=n) :
  Ok P ⟨d,.binOp .shl X x y Y,T,pos,aft,g⟩ a w (SP.isv (.int k (k.wrap (m * 2 ^ (min n.toNat k.bits))))).holds:=zj (by
   have:¬n<0:=by omega
   simp[execOp,eqGuard,hx,hy,binOp,Op.shift,this])
theorem Vl{x y:Operand}{X Y:TypeId}{k:IntKind}{m n:Int}(hx:a.eval x=.int k m)(hy:a.eval y=.int k n) :
  Ok P ⟨d,.binOp .eql X x y Y,T,pos,aft,g⟩ a w (SP.isv (.bool (decide (m=n)))).holds:=zj (by simp[execOp,eqGuard,hx,hy,binOp,Op.intCmp];rfl)
theorem Ve{x y:Operand}{X Y:TypeId}{k:IntKind}{m n:Int}(hx:a.eval x=.int k m)(hy:a.eval y=.int k n) :
  Ok P ⟨d,.binOp .neq X x y Y,T,pos,aft,g⟩ a w (SP.isv (.bool (decide (m≠n)))).holds:=zj (by
   have:(m != n)=decide (m≠n):=by by_cases h:m=n<;>simp[h]
   simp[execOp,eqGuard,hx,hy,binOp,Op.intCmp,this])
theorem zDS{x y:Operand}{X Y:TypeId}{k:IntKind}{m n:Int}(hx:a.eval x=.int k m)(hy:a.eval y=.int k n) :
  Ok P ⟨d,.binOp .lss X x y Y,T,pos,aft,g⟩ a w (SP.isv (.bool (decide (m<n)))).holds:=zj (by simp[execOp,eqGuard,hx,hy,binOp,Op.intCmp])
theorem zDT{x y:Operand}{X Y:TypeId}{k:IntKind}{m n:Int}(hx:a.eval x=.int k m)(hy:a.eval y=.int k n) :
  Ok P ⟨d,.binOp .leq X x y Y,T,pos,aft,g⟩ a w (SP.isv (.bool (decide (m<=n)))).holds:=zj (by simp[execOp,eqGuard,hx,hy,binOp,Op.intCmp])
theorem zDU{x y:Operand}{X Y:TypeId}{k:IntKind}{m n:Int}(hx:a.eval x=.int k m)(hy:a.eval y=.int k n) :
  Ok P ⟨d,.binOp .gtr X x y Y,T,pos,aft,g⟩ a w (SP.isv (.bool (decide (m > n)))).holds:=zj (by simp[execOp,eqGuard,hx,hy,binOp,Op.intCmp])
theorem zDV{x y:Operand}{X Y:TypeId}{k:IntKind}{m n:Int}(hx:a.eval x=.int k m)(hy:a.eval y=.int k n) :
  Ok P ⟨d,.binOp .geq X x y Y,T,pos,aft,g⟩ a w (SP.isv (.bool (decide (m ≥ n)))).holds:=zj (by simp[execOp,eqGuard,hx,hy,binOp,Op.intCmp])
theorem zDO{x:Operand}{X:TypeId}{b:Bool}(hx:a.eval x=.bool b):Ok P ⟨d,.unOp .not X x,T,pos,aft,g⟩ a w (SP.isv (.bool !b)).holds:=zj (by simp[execOp,hx,Op.unary])
theorem zDP{x:Operand}{X:TypeId}{k:IntKind}{m:Int}(hx:a.eval x=.int k m):Ok P ⟨d,.unOp .neg X x,T,pos,aft,g⟩ a w (SP.isv (.int k (k.wrap (0-m)))).holds:=zj (by simp[execOp,hx,Op.unary,Op.intArith])
theorem R9(s t:ByteArray):(s.toList == t.toList)=decide (s=t):=by
 by_cases h:s=t
 ·subst h;simp
 ·simp only[h,decide_false]
  rw[beq_eq_false_iff_ne];intro e;apply h;have h1:s.data.toList=t.data.toList:=by
   have h2:=zLq (fun l:List UInt8=>l) e
   simpa only [ByteArray.toList_eq] using h2
  have h3:s.data=t.data:=Array.toList_inj.1 h1;cases s;cases t;simp at h3;simp[h3]
theorem Vk{x y:Operand}{X Y:TypeId}{s t:ByteArray}(hx:a.eval x=.string s)(hy:a.eval y=.string t) :
  Ok P ⟨d,.binOp .eql X x y Y,T,pos,aft,g⟩ a w (SP.isv (.bool (decide (s=t)))).holds:=zj (by simp[execOp,eqGuard,hx,hy,binOp,Op.stringOp,R9])
theorem Vc{x y:Operand}{X Y:TypeId}{s t:ByteArray}(hx:a.eval x=.string s)(hy:a.eval y=.string t) :
  Ok P ⟨d,.binOp .neq X x y Y,T,pos,aft,g⟩ a w (SP.isv (.bool (decide (s≠t)))).holds:=zj (by simp[execOp,eqGuard,hx,hy,binOp,Op.stringOp,R9])
theorem Vn{x y:Operand}{X Y:TypeId}{s t:ByteArray}(hx:a.eval x=.string s)(hy:a.eval y=.string t)(hb:s.size+t.size<9223372036854775808) :
  Ok P ⟨d,.binOp .add X x y Y,T,pos,aft,g⟩ a w (SP.isv (.string (s++t))).holds:=zj (by
   have hm:IntKind.i64.max=9223372036854775807:=by decide
   have hb':¬((s.size+t.size:Nat):Int) > IntKind.i64.max:=by rw[hm];omega
   simp only[execOp,eqGuard,hx,hy,binOp,Op.stringOp,zMA hb'];simp)
theorem Vm{x y:Operand}{X Y:TypeId}{s t:Bool}{z sz by_}(hT:Ty P X .bool z sz by_)(hx:a.eval x=.bool s)(hy:a.eval y=.bool t) :
  Ok P ⟨d,.binOp .eql X x y Y,T,pos,aft,g⟩ a w (SP.isv (.bool (decide (s=t)))).holds:=zj (by
   have:(s == t)=decide (s=t):=by cases s<;>cases t<;>rfl
   simp[execOp,eqGuard,hx,hy,run_eql_bool (w:=w) X s t hT.u,this])
theorem Vf{x y:Operand}{X Y:TypeId}{s t:Bool}{z sz by_}(hT:Ty P X .bool z sz by_)(hx:a.eval x=.bool s)(hy:a.eval y=.bool t) :
  Ok P ⟨d,.binOp .neq X x y Y,T,pos,aft,g⟩ a w (SP.isv (.bool (decide (s≠t)))).holds:=zj (by
   have:(!(s == t))=decide (s≠t):=by cases s<;>cases t<;>rfl
   simp[execOp,eqGuard,hx,hy,run_neq_bool (w:=w) X s t hT.u,this])
theorem Ny{x:Operand}{X Y:TypeId}{k k':IntKind}{m:Int}{z sz by_ z' sz' by_'}(h1:Ty P X (.int k) z sz by_)(h2:Ty P Y (.int k') z' sz' by_')(hx:a.eval x=.int k m) :
  Ok P ⟨d,.convert X Y x,T,pos,aft,g⟩ a w (SP.isv (.int k' (k'.wrap m))).holds:=zj (by simp[execOp,hx,convert,h1.gf,h2.gf,Conv.intToInt])
theorem Vh{x:Operand}{X:TypeId}{s:ByteArray}{z sz by_}(hT:Ty P X .string z sz by_)(hx:a.eval x=.string s) :
  Ok P ⟨d,.call ⟨.builtin .len,#[x],#[X]⟩,T,pos,aft,g⟩ a w (SP.isv (.int .i64 s.size)).holds:=zj (by simp[execOp,resolve,invoke,builtin,hx,Builtin.len_,hT.gf,goInt])
theorem Nx{x:Operand}{X E:TypeId}{p:Option Addr}{n c:Nat}{z sz by_}(hT:Ty P X (.slice E) z sz by_)(hx:a.eval x=.slice p n c) :
  Ok P ⟨d,.call ⟨.builtin .len,#[x],#[X]⟩,T,pos,aft,g⟩ a w (SP.isv (.int .i64 n)).holds:=zj (by simp[execOp,resolve,invoke,builtin,hx,Builtin.len_,hT.gf,goInt])
theorem Vg{x:Operand}{X E:TypeId}{n:Nat}{xs:List Value}{z sz by_}(hT:Ty P X (.slice E) z sz by_){u:Value}(hu:a.eval x=u)(hx:SlV w n u xs) :
  Ok P ⟨d,.call ⟨.builtin .len,#[x],#[X]⟩,T,pos,aft,g⟩ a w (SP.isv (.int .i64 xs.length)).holds:=by
 obtain⟨p,cap,h1,_⟩:=hx;exact Nx hT (hu.trans h1)
theorem zDR{x y:Operand}{X Y:TypeId}{k:IntKind}{m n:Int}(hx:a.eval x=.int k m)(hy:a.eval y=.int k n) :
  Ok P ⟨d,.call ⟨.builtin .min,#[x,y],#[X,Y]⟩,T,pos,aft,g⟩ a w (SP.isv (.int k (min m n))).holds:=zj (by
   have:(if n<m then n else m)=min m n:=by rw[Int.min_def];split<;>split<;>omega
   simp[execOp,resolve,invoke,builtin,hx,hy,Builtin.min_,Builtin.min2,this])
theorem gY{v:Int}{y:Nat}{k:IntKind}{code:BoundsCode}{w:World}(h0:0<=v)(h1:v<=y):(Instr.sliceBound (.int k v) y code).run P w=.ok v.toNat w:=by
 simp[Instr.sliceBound,asIntOf,h0,h1]
theorem Ah{x h:Operand}{X:TypeId}{s:ByteArray}{n:Int}{k:IntKind}{z sz by_}(hT:Ty P X .string z sz by_)(hx:a.eval x=.string s)(hh:a.eval h=.int k n)(h0:0<=n)(h1:n<=s.size) :
  Ok P ⟨d,.slice X x none (some h) none,T,pos,aft,g⟩ a w (SP.isv (.string (s.extract 0 n.toNat))).holds:=zj (by
   simp[execOp,Instr.sliceAt,Instr.slice,Instr.sliceBounds,hx,hh,hT.gf,gY h0 h1])
theorem Ag{x l:Operand}{X:TypeId}{s:ByteArray}{m:Int}{k:IntKind}{z sz by_}(hT:Ty P X .string z sz by_)(hx:a.eval x=.string s)(hl:a.eval l=.int k m)(h0:0<=m)(h1:m<=s.size) :
  Ok P ⟨d,.slice X x (some l) none none,T,pos,aft,g⟩ a w (SP.isv (.string (s.extract m.toNat s.size))).holds:=zj (by
   simp[execOp,Instr.sliceAt,Instr.slice,Instr.sliceBounds,hx,hl,hT.gf,gY h0 h1])
theorem nA{x l h:Operand}{X:TypeId}{s:ByteArray}{m n:Int}{k k':IntKind}{z sz by_}(hT:Ty P X .string z sz by_)(hx:a.eval x=.string s)(hl:a.eval l=.int k' m)(hh:a.eval h=.int k n)(h0:0<=m)(h1:m<=n)(h2:n<=s.size) :
  Ok P ⟨d,.slice X x (some l) (some h) none,T,pos,aft,g⟩ a w (SP.isv (.string (s.extract m.toNat n.toNat))).holds:=zj (by
   have e:m<=(n.toNat:Int):=by omega
   simp[execOp,Instr.sliceAt,Instr.slice,Instr.sliceBounds,hx,hl,hh,hT.gf,gY (show 0<=n by omega) h2,gY h0 e])
theorem I1{x i:Operand}{X:TypeId}{s:ByteArray}{m:Int}{k:IntKind}{z sz by_}(hT:Ty P X .string z sz by_)(hx:a.eval x=.string s)(hi:a.eval i=.int k m)(h0:0<=m)(h1:m.toNat<s.size) :
  Ok P ⟨d,.index X x i,T,pos,aft,g⟩ a w (SP.isv (.int .u8 ((s[m.toNat]'h1).toNat))).holds:=zj (by
   simp[execOp,Instr.index,asIntOf,hx,hi,hT.gf,h0,h1])
theorem run_loadCellsFrom{b off:Nat}{cs:Array Value}:∀(n i:Nat) (acc:Array Value),i+n=cs.size->acc=cs.extract 0 i->(∀j,j<cs.size->w.cell? ⟨b,off+j,none⟩=cs[j]?) ->
  (loadCellsFrom ⟨b,off,none⟩ i n acc).run P w=.ok cs w
 |0,i,acc,hi,eW,hc=>by
   simp only[loadCellsFrom,Sem.run_pure];rw[eW];congr 1;have:i=cs.size:=by omega
   rw[this,Array.extract_size]
 |n+1,i,acc,hi,eW,hc=>by
   have gF:i<cs.size:=by omega
   have h1:=hc i gF;rw[Array.getElem?_eq_getElem gF]at h1;have e:(⟨b,off,none⟩:Addr).add i=⟨b,off+i,none⟩:=by
    unfold Addr.add;split
    ·rename_i h;subst h;rfl
    ·rfl
   simp only[loadCellsFrom,Sem.run_bind,run_load,e,h1,Result.andThen];refine run_loadCellsFrom n (i+1) _ (by omega) ?_ hc
   rw[eW];simp[Array.push_extract_getElem]
theorem run_loadCells{b off:Nat}{cs:Array Value}(hc:∀j,j<cs.size->w.cell? ⟨b,off+j,none⟩=cs[j]?):(loadCells ⟨b,off,none⟩ cs.size).run P w=.ok cs w :=
 run_loadCellsFrom cs.size 0 #[] (by omega) (by simp) hc
theorem wx{x:Operand}{X:TypeId}{dd z sz by_}{p:Addr}{v:Value}(hT:Ty P X dd z sz by_)(hd:vN dd=false)(hx:a.eval x=.pointer (some p))(hc:w.cell? p=some v) :
  Ok P ⟨d,.load X x,T,pos,aft,g⟩ a w (SP.isv v).holds:=zj (by
   simp[execOp,Instr.loadAt,Instr.sureAddr,hx,loadVar,hT.YU,hd,hc])
theorem Dq{x:Operand}{X X':TypeId}{dd z sz by_}{b off:Nat}{cs:Array Value}{v:Value}(hT:Ty P X dd z sz by_)(hd:vN dd=false)(hx:a.eval x=.pointer (some ⟨b,off,none⟩))(hO:Own w b cs X')(hc:cs[off]?=some v) :
  Ok P ⟨d,.load X x,T,pos,aft,g⟩ a w (SP.isv v).holds:=wx hT hd hx (by rw[hO.cell,hc])
theorem Iz{x:Operand}{X:TypeId}{dd z sz by_}{v:Value}(hT:Ty P X dd z sz by_)(hd:vN dd=false){u:Value}(hu:a.eval x=u)(hx:Y9 w u v)(hv:v.cells=#[v]) :
  Ok P ⟨d,.load X x,T,pos,aft,g⟩ a w (SP.isv v).holds:=by
 obtain⟨b,off,h1,h2⟩:=hx;have:=h2 0 (by rw[hv];simp)
 exact wx hT hd (hu.trans h1) (by rw[hv]at this;simpa using this)
theorem KR{x:Operand}{X:TypeId}{dd z sz by_}{cs:Array Value}(hT:Ty P X dd z sz by_)(hd:vN dd=true){u:Value}(hu:a.eval x=u)(hx:Y9 w u (.agg cs))(hs:cs.size=sz) :
  Ok P ⟨d,.load X x,T,pos,aft,g⟩ a w (SP.isv (.agg cs)).holds:=by
 subst hs;obtain⟨b,off,h1,h2⟩:=hx;rw[h1]at hu;exact zj (by simp[execOp,Instr.loadAt,Instr.sureAddr,hu,loadVar,hT.YU,hd,hT.zy,run_loadCells (P:=P) (w:=w) (b:=b) (off:=off) (cs:=cs) h2])
theorem zDW{x:Operand}{X:TypeId}{L:Nat}{v:Value}(hL:L<=w.heap.size)(hx:a.eval x=v):Ok P ⟨d,.box X x,T,pos,aft,g⟩ a w (SP.box L v.cells X).holds :=
 vC (v:=.pointer (some ⟨w.heap.size,0,none⟩)) (w':=w.alloc (.cells v.cells X)) (by simp[execOp,Instr.box,newVar,newRow,hx]) (Ext.alloc _ _) ⟨_,hL,rfl,Own.new _ _ _⟩
theorem Bg{X:TypeId}{L:Nat}{dd z sz by_}(hL:L<=w.heap.size)(hT:Ty P X dd z sz by_):Ok P ⟨d,.alloc X,T,pos,aft,g⟩ a w (SP.box L z.cells X).holds :=
 vC (v:=.pointer (some ⟨w.heap.size,0,none⟩)) (w':=w.alloc (.cells z.cells X)) (by simp[execOp,Instr.alloc,hT.kc,newVar,newRow]) (Ext.alloc _ _) ⟨_,hL,rfl,Own.new _ _ _⟩
theorem kC(b off n:Nat):(⟨b,off,none⟩:Addr).add n=⟨b,off+n,none⟩:=by
 unfold Addr.add;split
 ·rename_i h;subst h;rfl
 ·rfl
structure Fld(P:Program)(X f ft off sz:Nat):Prop where
 s:P.underlying X=some (.struct (P.fieldsOf X))
 h:(P.fieldsOf X)[f]?.map (fun f=>(f.type,f.offset))=some (ft,off)
 z:(P.info? ft).map (·.size)=some (sz+1)
theorem Fld.get{X f ft off sz:Nat}(h:Fld P X f ft off sz):∃fd,(P.fieldsOf X)[f]?=some fd/\fd.type=ft/\fd.offset=off:=by
 have:=h.h
 cases hf:(P.fieldsOf X)[f]? with
 |none=>simp[hf]at this
 |some fd=>simp[hf]at this;exact⟨fd,rfl,this.1,this.2⟩
theorem ZI{x:Operand}{X b o f ft off sz:Nat}(hF:Fld P X f ft off sz)(hx:a.eval x=.pointer (some ⟨b,o,none⟩)) :
  Ok P ⟨d,.fieldAddr X x f,T,pos,aft,g⟩ a w (SP.isv (.pointer (some ⟨b,o+off,none⟩))).holds:=zj (by
 obtain⟨fd,h1,h2,h3⟩:=hF.get;have hz:∀w:World,(sizeOf ft).run P w=.ok (sz+1) w:=by
  intro w;have:=hF.z
  cases hi:P.info? ft with
  |none=>simp[hi]at this
  |some i=>simp[hi]at this;simp[sizeOf,typeInfo,hi,this]
 have hu:∀w:World,(underlying X).run P w=.ok (.struct (P.fieldsOf X)) w:=by intro w;simp[underlying,hF.s]
 simp[execOp,Instr.fieldAt,hu,h1,Instr.sureAddr,hx,fieldPlace,h2,hz,h3,kC])
theorem tJ{x:Operand}{X f ft off sz:Nat}{cs:Array Value}{y:Value}(hF:Fld P X f ft off sz){u:Value}(hu:a.eval x=u)(hx:Y9 w u (.agg cs))(hy:∀j,j<y.cells.size->off+j<cs.size/\y.cells[j]?=cs[off+j]?) :
  Ok P ⟨d,.fieldAddr X x f,T,pos,aft,g⟩ a w (SP.pt y).holds:=by
 obtain⟨b,o,h1,h2⟩:=hx;intro K Q hK;refine ZI hF (hu.trans h1) K Q fun v w' hE hv=>hK v w' hE ?_
 refine⟨b,o+off,hv,fun j hj=>?_⟩
 obtain⟨h3,h4⟩:=hy j hj;have h5:=h2 (off+j) h3
 simp only[Value.cells]at h5;rw[h4,Nat.add_assoc];rw[Array.getElem?_eq_getElem h3]at h5 |-;exact hE.cell h5
theorem I0{x i:Operand}{X e E:TypeId}{xs:List Value}{y:Value}{k:IntKind}{m:Int}{z sz by_ dd z' by_'}(hT:Ty P X (.slice e) z sz by_)(he:Ty P e dd z' E by_'){u:Value}(hu:a.eval x=u)(hx:SlV w E u xs)(hi:a.eval i=.int k m)(h0:0<=m)(hy:xs[m.toNat]?=some y) :
  Ok P ⟨d,.indexAddr X x i,T,pos,aft,g⟩ a w (SP.pt y).holds:=by
 obtain⟨p,cap,h1,h2,h3,h4⟩:=hx;have gF:m.toNat<xs.length:=(zLf.1 hy).1
 rcases h4 with h4|⟨b,off,hp,hc⟩
 ·subst h4;simp at gF
 subst hp;have hE:=h3 y (zLe hy)
 rw[h1]at hu;refine vC (v:=.pointer (some ⟨b,off+m.toNat * E,none⟩)) (w':=w) ?_ (Ext.refl w) ⟨b,off+m.toNat * E,rfl,fun j hj=>?_⟩
 ·have hlt':m<(xs.length:Int):=by omega
  simp[execOp,Instr.indexAt,asIntOf,hi,hu,hT.gf,he.zy,h0,hlt',kC]
 ·rw[Nat.add_assoc];exact hc _ y hy j (by rw[hE]at hj;exact hj)
theorem JG{x i:Operand}{X e E n b off:Nat}{k:IntKind}{m:Int}{z sz by_ dd z' by_'}(hT:Ty P X (.array n e) z sz by_)(he:Ty P e dd z' E by_')(hx:a.eval x=.pointer (some ⟨b,off,none⟩))(hi:a.eval i=.int k m)(h0:0<=m)(h1:m<n) :
  Ok P ⟨d,.indexAddr X x i,T,pos,aft,g⟩ a w (SP.isv (.pointer (some ⟨b,off+m.toNat * E,none⟩))).holds:=zj (by
   simp[execOp,Instr.indexAt,asIntOf,hi,Instr.sureAddr,hx,hT.gf,he.zy,h0,h1,kC])
theorem SlV.slice{E:Nat}{xs:List Value}{u:Value}(h:SlV w E u xs):∃p c,u=.slice p xs.length c/\xs.length<=c:=by
 obtain⟨p,c,h1,h2,_⟩:=h;exact⟨p,c,h1,h2⟩
theorem SlV.take{E:Nat}{xs:List Value}{p:Option Addr}{c:Nat}(h:SlV w E (.slice p xs.length c) xs){n:Nat}(hn:n<=xs.length):SlV w E (.slice p n c) (xs.take n):=by
 obtain⟨p',c',h1,h2,h3,h4⟩:=h;cases h1;refine⟨p,c,by simp[hn],by simp;omega,fun x hx=>h3 x (List.mem_of_mem_take hx),?_⟩
 rcases h4 with h4|⟨b,off,hp,hc⟩
 ·exact .inl (by simp[h4])
 ·refine .inr ⟨b,off,hp,fun i x hx j hj=>hc i x ?_ j hj⟩
  rw[List.getElem?_take]at hx;split at hx
  ·exact hx
  ·cases hx
theorem SlV.drop{E:Nat}{xs:List Value}{p:Option Addr}{c:Nat}(h:SlV w E (.slice p xs.length c) xs){m:Nat}(hm:m<=xs.length) :
  SlV w E (.slice (if c=m then p else p.map (·.add (m * E))) (xs.length-m) (c-m)) (xs.drop m):=by
 obtain⟨p',c',h1,h2,h3,h4⟩:=h;cases h1;refine⟨_,_,by rw[List.length_drop],by simp;omega,fun x hx=>h3 x (List.mem_of_mem_drop hx),?_⟩
 rcases h4 with h4|⟨b,off,hp,hc⟩
 ·exact .inl (by simp[h4])
 ·by_cases he:c=m
  ·exact .inl (by rw[List.drop_eq_nil_of_le];omega)
  ·refine .inr ⟨b,off+m * E,by simp[he,hp,kC],fun i x hx j hj=>?_⟩
   have:=hc (m+i) x (by simpa using hx) j hj
   rw[<-this];congr 2;rw[Nat.add_mul];omega
end ops
def flat(vs:List Value):List Value:=vs.flatMap fun x=>x.cells.toList
theorem yT{E:Nat}:∀ {vs:List Value},(∀x∈vs,x.cells.size=E)->(flat vs).length=vs.length * E
 | [],_=>by simp[flat]
 |x::vs,h=>by
   have:=yT (vs:=vs) (fun y hy=>h y (by simp[hy]))
   unfold flat at this |-;rw[List.flatMap_cons,zLa,this,Array.length_toList,h x (by simp),zLh,Nat.add_mul];omega
theorem Zz{E:Nat}:∀ {vs:List Value},(∀x∈vs,x.cells.size=E)->∀(i:Nat) (x:Value),vs[i]?=some x->∀j,j<E->(flat vs)[i * E+j]?=x.cells[j]?
 | [],_,i,x,h=>by simp at h
 |y::vs,hs,0,x,h=>by
   intro j hj;simp at h;subst h;have hy:=hs y (by simp)
   unfold flat
   rw[List.flatMap_cons,Nat.zero_mul,Nat.zero_add,zLn (by rw[Array.length_toList,hy];exact hj)]
   simp
 |y::vs,hs,i+1,x,h=>by
   intro j hj;have hy:=hs y (by simp)
   have:=Zz (vs:=vs) (fun y hy=>hs y (by simp[hy])) i x (by simpa using h) j hj
   unfold flat at this |-;rw[List.flatMap_cons,zLo (by rw[Array.length_toList,hy,Nat.add_mul];omega),Array.length_toList,hy,<-this]
   congr 1
   rw[Nat.add_mul];omega
structure OwnS(w:World)(B T E:Nat)(u:Value)(vs:List Value):Prop where
 sz:∀x∈vs,x.cells.size=E
 row:w.ownsRow B T E u vs.length (flat vs)
theorem OwnS.ext{w w':World}{B T E:Nat}{u:Value}{vs:List Value}(h:OwnS w B T E u vs)(hE:Ext w w'):OwnS w' B T E u vs:=by
 refine⟨h.sz,h.row.1,?_⟩;rcases h.row.2 with h|⟨b,cap,cur,h1,h2,h3,h4⟩
 ·exact .inl h
 ·exact .inr ⟨b,cap,cur,h1,h2,hE.heap h3,h4⟩
theorem OwnS.nil(w:World)(B T E:Nat):OwnS w B T E (.slice none 0 0) []:=⟨by simp,by simp[flat],.inl ⟨rfl,rfl⟩⟩
theorem OwnS.slv{w:World}{B T E:Nat}{u:Value}{vs:List Value}(h:OwnS w B T E u vs):SlV w E u vs:=by
 rcases h.row.2 with ⟨h1,h2⟩|⟨b,cap,cur,h1,h2,h3,h4,h5,h6,h7⟩
 ·have:vs=[]:=List.eq_nil_of_length_eq_zero h2
  subst this;exact⟨none,0,h1,by simp,by simp,.inl rfl⟩
 ·refine⟨some ⟨b,0,none⟩,cap,h1,h4,h.sz,.inr ⟨b,0,rfl,fun i x hx j hj=>?_⟩⟩
  have hf:=Zz h.sz i x hx j hj;rw[<-h7]at hf;have gF:i<vs.length:=(zLf.1 hx).1
  have hlt2:i * E+j<vs.length * E:=by
   have:(i+1) * E<=vs.length * E:=Nat.mul_le_mul_right _ gF;rw[Nat.add_mul]at this;omega
  rw[List.getElem?_take,zLz hlt2]at hf;unfold World.cell?;simp only[h3,Nat.zero_add];rw[<-hf];simp
abbrev SP.own(B T E:Nat)(vs:List Value):SP:=.pr (fun w u=>OwnS w B T E u vs) (fun _ _ _ hE h=>h.ext hE)
def bv(l:List UInt8):List Value:=l.map fun b=>.int .u8 (b.toNat:Int)
section ops
variable {P:Program} {a:Act} {w:World} {d:Option Tmp} {T:TypeId} {pos:String} {aft:Array Edge} {g:Option (Nat×Bool)}
theorem wg(off:Nat):∀(l:List (Value×Nat)) (cells:Array Value),(l.foldl (fun cs (p:Value×Nat)=>cs.setIfInBounds (off+p.2) p.1) cells).size=cells.size
 | [],_=>rfl
 |p::l,cells=>by rw[List.foldl_cons,wg off l];simp
theorem wH(off:Nat):∀(l:List Value) (k:Nat) (cells:Array Value),off+k+l.length<=cells.size->∀i,
  ((l.zipIdx k).foldl (fun cs (p:Value×Nat)=>cs.setIfInBounds (off+p.2) p.1) cells)[i]?=if off+k<=i/\i<off+k+l.length then l[i-(off+k)]? else cells[i]?
 | [],k,cells,h,i=>by
   rw[List.zipIdx_nil,List.foldl_nil,zMA (by simp)]
 |x::l,k,cells,h,i=>by
   rw[List.zipIdx_cons,List.foldl_cons,wH off l (k+1) _ (by simp at h |-;omega)]
   simp only[zLh]at h |-;by_cases h1:i=off+k
   ·subst h1
    rw[zMA (by omega),zLz (by omega),Nat.sub_self]
    have:off+k<cells.size:=by omega
    simp[this]
   ·by_cases h2:off+(k+1)<=i/\i<off+(k+1)+l.length
    ·rw[zLz h2,zLz (by omega)]
     have e:i-(off+k)=(i-(off+(k+1)))+1:=by omega
     rw[e];simp
    ·rw[zMA h2,zMA (by omega),Array.getElem?_setIfInBounds_ne (by omega)]
def gy:Nat->List Value->List (Nat×Value)
 |_,[]=>[]
 |k,v::vs=>(k,v)::gy (k+1) vs
theorem tw{E:Nat}:∀(vs:List Value) (k:Nat) (cells:Array Value),(∀x∈vs,x.cells.size=E)->cells.size=k * E+vs.length * E ->
  ∃out,Instr.fill (fun i=>some (i * E,E)) cells (gy k vs)=some out/\out.size=cells.size/\∀i,out[i]?=if k * E<=i/\i<k * E+vs.length * E then (flat vs)[i-k * E]? else cells[i]?
 | [],k,cells,_,hs=>⟨cells,rfl,rfl,fun i=>by rw[zMA (by simp)]⟩
 |v::vs,k,cells,hv,hs=>by
   have lW:=hv v (by simp)
   have e0:(v::vs).length * E=E+vs.length * E:=by rw[zLh,Nat.add_mul];omega
   have e1:(k+1) * E=k * E+E:=by rw[Nat.add_mul];omega
   rw[e0]at hs |-
   let c1:=v.cells.zipIdx.foldl (fun cs (p:Value×Nat)=>cs.setIfInBounds (k * E+p.2) p.1) cells
   have dN:c1=(v.cells.toList.zipIdx 0).foldl (fun cs (p:Value×Nat)=>cs.setIfInBounds (k * E+p.2) p.1) cells:=by
    show v.cells.zipIdx.foldl _ cells=_
    rw[<-Array.foldl_toList];simp
   have aW:c1.size=cells.size:=by rw[dN];exact wg _ _ _
   obtain⟨out,h1,h2,h3⟩:=tw vs (k+1) c1 (fun x hx=>hv x (by simp[hx])) (by rw[aW,hs,e1];omega)
   refine⟨out,?_,by rw[h2,aW],fun i=>?_⟩
   ·simp only[gy,Instr.fill]
    rw[zMA (by simp[lW];omega)]
    exact h1
   ·rw[h3 i,dN,wH (k * E) v.cells.toList 0 cells (by simp[lW];omega) i]
    simp only[Array.length_toList,lW,Nat.add_zero,e1];unfold flat
    rw[List.flatMap_cons];generalize k * E=kE;generalize vs.length * E=nE;by_cases h4:kE+E<=i/\i<kE+E+nE
    ·rw[zLz h4,zLz (by omega),zLo (by rw[Array.length_toList,lW];omega),Array.length_toList,lW]
     congr 1;omega
    ·rw[zMA h4]
     by_cases h5:kE<=i/\i<kE+E
     ·rw[zLz h5,zLz (by omega),zLn (by rw[Array.length_toList,lW];omega)]
     ·rw[zMA h5,zMA (by omega)]
theorem QH{E:Nat}(vs:List Value)(cells:Array Value)(hv:∀x∈vs,x.cells.size=E)(hs:cells.size=vs.length * E):Instr.fill (fun i=>some (i * E,E)) cells (gy 0 vs)=some (flat vs).toArray:=by
 obtain⟨out,h1,h2,h3⟩:=tw vs 0 cells hv (by simpa using hs)
 rw[h1];congr 1;apply Array.ext_getElem?;intro i;rw[h3 i];simp only[Nat.zero_mul,Nat.zero_le,Nat.zero_add,true_and,Nat.sub_zero,List.getElem?_toArray];by_cases h:i<vs.length * E
 ·rw[zLz h]
 ·rw[zMA h,Array.getElem?_eq_none (by omega),List.getElem?_eq_none (by rw[yT hv];omega)]
theorem rQ{X e E n B:Nat}{vs:List Value}{parts:Array (Nat×Operand)}{z sz by_ dd z' by_'}(hT:Ty P X (.slice e) z sz by_)(he:Ty P e dd z' (E+1) by_')(hB:B<=w.heap.size)
  (hp:(parts.map fun (i,x)=>(i,a.eval x))=(gy 0 vs).toArray) (hv:∀x∈vs,x.cells.size=E+1) (hn:vs.length=n) (hs:n * (E+1)<=16777216) :
  Ok P ⟨d,.buildSlice X n parts,T,pos,aft,g⟩ a w (fun w v=>(SP.own B e (E+1) vs).holds w v/\∃b,v=.slice (some ⟨b,0,none⟩) n n):=by
 have hf:∀cells:Array Value,cells.size=n * (E+1)->Instr.fill (fun i=>some (i * (E+1),E+1)) cells (gy 0 vs)=some (flat vs).toArray:=fun cells hc=>QH vs cells hv (by rw[hc,hn])
 refine vC (v:=.slice (some ⟨w.heap.size,0,none⟩) n n) (w':=w.alloc (.cells (flat vs).toArray e)) ?_ (Ext.alloc _ _) ⟨⟨hv,?_⟩,_,rfl⟩
 ·have bW:¬n * (E+1) > 2 ^ 24:=by simp;omega
  have hp':(Array.map (fun x=>(x.fst,a.eval x.snd)) parts)=(gy 0 vs).toArray:=hp
  by_cases hz:n * (E+1)=0
  ·simp only[execOp,Instr.buildSlice,Sem.run_bind,hT.gf,he.zy,Result.andThen,Sem.run_pure,hp',zMA bW,zLz hz]
   rw[hf _ (by simp)]
   simp[newRow]
  ·simp only[execOp,Instr.buildSlice,Sem.run_bind,hT.gf,he.zy,he.kc,Result.andThen,Sem.run_pure,hp',zMA bW,zMA hz]
   rw[hf _ (by simp)]
   simp[newRow]
 ·have:=World.ownsRow_lit (base:=B) (e:=e) (size:=E+1) w (flat vs).toArray n hB (by unfold maxLen;have:n<=n * (E+1):=Nat.le_mul_of_pos_right _ (by omega);omega) (by simp[yT hv,hn])
  simpa[hn] using this
end ops
section ops
variable {P:Program} {a:Act} {w:World} {d:Option Tmp} {T:TypeId} {pos:String} {aft:Array Edge} {g:Option (Nat×Bool)}
theorem Qb{l:List UInt8}:∀x∈bv l,x.cells.size=1:=by
 intro x hx;unfold bv at hx;rw[List.mem_map]at hx;obtain⟨b,_,rfl⟩:=hx;rfl
def JP(w:World)(T b cap:Nat)(l:List UInt8):Prop:=∃cs,Own w b cs T/\l.length<=cap/\cs.size=cap/\∀(j:Nat) (x:UInt8),l[j]?=some x->cs[j]?=some (.int .u8 (x.toNat:Int))
theorem JP.ext{w w':World}{T b cap:Nat}{l:List UInt8}(h:JP w T b cap l)(hE:Ext w w'):JP w' T b cap l:=by
 obtain⟨cs,h1,h2⟩:=h;exact⟨cs,h1.ext hE,h2⟩
theorem JP.slv{w:World}{T b cap:Nat}{l:List UInt8}(h:JP w T b cap l):SlV w 1 (.slice (some ⟨b,0,none⟩) l.length cap) (bv l):=by
 obtain⟨cs,h1,h2,h3,h4⟩:=h;refine⟨_,cap,by simp[bv],by simpa[bv] using h2,Qb,.inr ⟨b,0,rfl,fun i x hx j hj=>?_⟩⟩
 obtain rfl:j=0:=by omega
 unfold bv at hx;rw[List.getElem?_map]at hx
 cases hl:l[i]? with
 |none=>simp[hl]at hx
 |some y =>
  simp[hl]at hx;subst hx;rw[h1.cell];simp[Value.cells,h4 i y hl]
structure FnOk(P:Program)(f:FuncId):Prop where
 h:∃fn,P.funcs[f]?=some fn/\fn.body.isNone=false/\(fn.name == "runtime.NumGoroutine")=false
def Pure(P:Program)(f:FuncId)(args:Array Value)(w:World)(φ:World->Value->Prop):Prop :=
 Calls P f args w fun e w'=>∃v,e=.returned v/\Ext w w'/\φ w' v
theorem Pure.mono{f:FuncId}{args:Array Value}{φ φ':World->Value->Prop}(h:Pure P f args w φ)(hm:∀w' v,Ext w w'->φ w' v->φ' w' v):Pure P f args w φ' :=
 Calls.mono h fun _ _ ⟨v,h1,h2,h3⟩=>⟨v,h1,h2,hm _ _ h2 h3⟩
theorem wu{f:FuncId}{fi ca:Array Operand}{v1 v2:Array Value}(h1:fi.map a.eval=v1)(h2:ca.map a.eval=v2):Ok P ⟨d,.makeFunc (.func f) fi ca,T,pos,aft,g⟩ a w (SP.isv (.func (.func f) v1 v2)).holds:=zj (by
 simp[execOp,Instr.makeFunc,h1,h2])
section tails
variable {ops:Array Oper} {Q:Exit->Act->World->Prop} {rest:List Oper}
end tails
end ops
theorem ZC(args:Array Value)(N:Nat)(h:args.size<=N):(Act.mk (args++Array.replicate (N-args.size) undef) []).fit N:=⟨by simp;omega,rfl⟩
theorem ZB{args:Array Value}{N i:Nat}{v:Value}(h:args[i]?=some v):(Act.mk (args++Array.replicate (N-args.size) undef) []).get i=v:=by
 have hi:=(zLy.1 h).1;simp only[Act.get,zLv,Array.getElem?_append_left hi,h];rfl
section ctl
variable {P:Program} {Q:Exit->Act->World->Prop} {K:Act->World->Prop} {a:Act} {w:World} {ops:Array Oper} {id:Nat}
end ctl
section Xz
variable {os:List Oper} {Φ:List SP} {a:Act} {n t j:Nat} {w:World} {v val:Value}
theorem kn(h:XQ os Φ a n t w v)(e:lw os (fun j=>Nat.blt j n) t=none)(r:a.get t=val):v=val:=by
 unfold XQ at h;rw[e]at h;exact h.trans r
end Xz
section ints
variable {P:Program} {a:Act} {w:World} {d:Option Tmp} {T:TypeId} {pos:String} {aft:Array Edge} {g:Option (Nat×Bool)}
inductive Parts(a:Act):Nat->List (Nat×Operand)->List Value->Prop
 |nil {k}:Parts a k [] []
 |cons {k x v ps vs} (h:a.eval x=v) (hs:Parts a (k+1) ps vs):Parts a k ((k,x)::ps) (v::vs)
theorem parts_eq{k:Nat}{ps:List (Nat×Operand)}{vs:List Value}(h:Parts a k ps vs):ps.map (fun p=>(p.1,a.eval p.2))=gy k vs:=by
 induction h with
 |nil=>rfl
 |cons h _ ih=>simp[gy,h,ih]
theorem Nk{ps:List (Nat×Operand)}{vs:List Value}(h:Parts a 0 ps vs):(ps.toArray.map fun (i,x)=>(i,a.eval x))=(gy 0 vs).toArray:=by
 rw[<-parts_eq h];simp
def E8(s:ByteArray)(i:Nat):UInt8:=s.data.toList.getD i 0
theorem MR{s:ByteArray}{i:Nat}(h:i<s.size):s[i]=E8 s i:=by
 unfold E8;have h':i<s.data.toList.length:=by rw[Array.length_toList];exact h
 rw[zLs,zMD h'];rfl
end ints
end Go.Eng
namespace Go.Eng
open Go Go.RowKit
section arrs
variable {P:Program} {a:Act} {w:World} {d:Option Tmp} {T:TypeId} {pos:String} {aft:Array Edge} {g:Option (Nat×Bool)}
end arrs
def StE(E:World->World->Prop)(φ:SP):Prop:=∀w w' v,E w w'->φ.holds w v->φ.holds w' v
theorem GT{E:World->World->Prop}(v:Value):StE E (.isv v):=fun _ _ _ _ h=>h
inductive AllSt(E:World->World->Prop):List SP->Prop
 |nil:AllSt E []
 |cons {φ φs} (h:StE E φ) (hs:AllSt E φs):AllSt E (φ::φs)
theorem AllSt.at{E:World->World->Prop}:∀ {Φ:List SP},AllSt E Φ->∀i,StE E (Φ.getD i (.isv undef))
 |_,.nil,i=>by simpa using GT undef
 |_,.cons h _,0=>by simpa using h
 |_,.cons _ hs,i+1=>by simpa using AllSt.at hs i
structure ButOr(b:Nat)(X:Obj)(w w':World):Prop where
 os:w'.os=w.os
 tape:w'.tape=w.tape
 output:w'.output=w.output
 size:w.heap.size<=w'.heap.size
 block:∀k,k<w.heap.size->k≠b->w'.heap[k]?=w.heap[k]?
 it:w'.heap[b]?=w.heap[b]?\/w'.heap[b]?=some X
theorem ButOr.refl(b:Nat)(X:Obj)(w:World):ButOr b X w w:=⟨rfl,rfl,rfl,zLb _,fun _ _ _=>rfl,.inl rfl⟩
theorem ButOr.trans{b:Nat}{X:Obj}{w1 w2 w3:World}(h:ButOr b X w1 w2)(k:ButOr b X w2 w3):ButOr b X w1 w3:=by
 refine⟨k.os.trans h.os,k.tape.trans h.tape,k.output.trans h.output,zLg h.size k.size,fun j hj hb=>?_,?_⟩
 ·rw[k.block j (zLm hj h.size) hb,h.block j hj hb]
 ·rcases k.it with k|k
  ·rcases h.it with h|h
   ·exact .inl (k.trans h)
   ·exact .inr (k.trans h)
  ·exact .inr k
abbrev SP.mark(b:Nat)(cs:Array Value)(T:TypeId)(fr:Nat×Nat):SP:=.pr (fun w _=>w.heap[b]?=some (.cells cs T fr)) (fun _ _ _ hE h=>hE.heap h)
section
variable {P:Program} {a:Act} {w:World} {d:Option Tmp} {T:TypeId} {pos:String} {aft:Array Edge} {g:Option (Nat×Bool)}
end
structure But(b:Nat)(w w':World):Prop where
 os:w'.os=w.os
 tape:w'.tape=w.tape
 output:w'.output=w.output
 size:w.heap.size<=w'.heap.size
 block:∀k,k<w.heap.size->k≠b->w'.heap[k]?=w.heap[k]?
theorem But.setCell(w:World)(b off:Nat)(v:Value):But b w (w.setCell ⟨b,off,none⟩ v) :=
 ⟨rfl,rfl,rfl,by simp[World.setCell],fun k _ hk=>by unfold World.setCell;simp[Array.getElem?_modify,Ne.symm hk]⟩
section tails
variable {P:Program} {a:Act} {w:World} {T:TypeId} {pos:String} {aft:Array Edge} {ops:Array Oper} {Q:Exit->Act->World->Prop} {rest:List Oper}
end tails
theorem OwnS.gK{w:World}{B T E:Nat}{u:Value}{vs:List Value}(h:OwnS w B T E u vs):∀g,u.ownBlock=some g->g<w.heap.size:=by
 intro g hg;rcases h.row.2 with ⟨h1,_⟩|⟨b,cap,cur,h1,_,h3,_⟩
 ·rw[h1]at hg;cases hg
 ·rw[h1]at hg
  simp only[Value.ownBlock,zLw]at hg;subst hg;exact(zLy.1 h3).1
theorem OwnS.JO{w:World}{B T E:Nat}{u:Value}{vs:List Value}(h:OwnS w B T E u vs):∀g,u.ownBlock=some g->B<=g:=by
 intro g hg;rcases h.row.2 with ⟨h1,_⟩|⟨b,cap,cur,h1,h2,_⟩
 ·rw[h1]at hg;cases hg
 ·rw[h1]at hg
  simp only[Value.ownBlock,zLw]at hg;subst hg;exact h2
structure Appd(w w':World)(u u':Value):Prop where
 by_:w.grownBy w' u.ownBlock
 at_:u'.ownBlock=u.ownBlock\/∀g,u'.ownBlock=some g->w.heap.size<=g
def UG(u v:Value):Prop:=∀g,u.ownBlock=some g->v.ownBlock≠some g
theorem UG.symm{u v:Value}(h:UG u v):UG v u:=fun g hg hu=>h g hu hg
theorem Xp{P:Program}{w:World}{B t ty e E bytes:Nat}{dd:TypeDesc}{z z':Value}{sz by_:Nat}(hT:Ty P t (.slice e) z sz by_)(he:Ty P e dd z' (E+1) bytes)(hz:z'.cells.size=E+1)
  {u:Value} {vs:List Value} (hO:OwnS w B e (E+1) u vs) {u':Value} {ns:List Value} (hN:SlV w (E+1) u' ns) (h1:∀x∈flat ns,x.oneCell'=true)
  (hb:(vs.length+ns.length) * bytes<=140737488355328) (hl:vs.length+ns.length<=9223372036854775807) (hB:B<=w.heap.size) :
  ∃u2 w2,(Builtin.append_ #[t,t] ty #[u,u']).run P w=.ok u2 w2/\OwnS w2 B e (E+1) u2 (vs++ns)/\Appd w w2 u u2:=by
 obtain⟨i,hi,aX,pV,aD⟩:=he.info;obtain⟨p,cap,hu',sR,xU,xN⟩:=hN;have dO:flat (vs++ns)=flat vs++flat ns:=by simp[flat]
 have hszs:∀x∈vs++ns,x.cells.size=E+1:=by
  intro x hx;rcases zLi.1 hx with h|h
  ·exact hO.sz x h
  ·exact xU x h
 have hml:vs.length+ns.length<=maxLen:=by unfold maxLen;omega
 by_cases hp:p=none
 ·subst hp
  have mJ:ns=[]:=by
   rcases xN with h|⟨b,off,h,_⟩
   ·exact h
   ·cases h
  subst mJ;have a8:(Builtin.append_ #[t,t] ty #[u,u']).run P w=.ok u w:=by
   rcases hO.row.2 with ⟨hu,hn⟩|⟨g,c,cur,hu,_,_,dP,_⟩
   ·simp[Builtin.append_,hT.gf,he.zy,Builtin.lenOf,Builtin.firstCells,hu,hu']
   ·simp[Builtin.append_,hT.gf,he.zy,Builtin.lenOf,Builtin.firstCells,hu,hu',dP,storeCells]
  exact⟨u,w,a8,by simpa using hO,⟨⟨rfl,rfl,rfl,zLb _,fun _ _ _=>rfl⟩,.inl rfl⟩⟩
 ·obtain⟨ad,rfl⟩:∃ad,p=some ad:=by cases p with|none=>exact zLp rfl hp|some ad=>exact⟨ad,rfl⟩
  have aY:∀j v,(flat ns)[j]?=some v->w.cell? (ad.add j)=some v:=by
   intro j v hj;rcases xN with h|⟨b,off,h,hc⟩
   ·subst h;simp[flat]at hj
   ·cases h
    have hjl:j<ns.length * (E+1):=by
     have:=(zLf.1 hj).1;rwa[yT xU]at this
    have hq:j / (E+1)<ns.length:=Nat.div_lt_of_lt_mul (by rw[Nat.mul_comm];exact hjl)
    have hr:j % (E+1)<E+1:=Nat.mod_lt _ (by omega)
    have hx:ns[j / (E+1)]?=some ns[j / (E+1)]:=zMD hq;have e1:j / (E+1) * (E+1)+j % (E+1)=j:=by rw[Nat.mul_comm];exact Nat.div_add_mod j (E+1)
    have h2:=hc _ _ hx _ hr;have h3:=Zz xU _ _ hx _ hr
    rw[e1]at h2 h3;rw[kC,h2,<-h3];exact hj
  have cM:=yT xU;obtain⟨u2,w2,hr,h2,h3,_⟩:=run_append_own (P:=P) w B t ty e i z' (E+1) bytes hT.u hi aX pV aD hz (by omega) u vs.length (flat vs) hO.row ad ns.length cap (flat ns) cM aY h1 hml hb hB
  rw[<-hu']at hr;refine⟨u2,w2,hr,⟨hszs,by rw[dO,zLa];exact h2⟩,h3,?_⟩
  rcases hO.row.2 with ⟨hu,hn⟩|⟨g,c,cur,hu,mM,hg,dP,dQ,xG,m9⟩
  ·right
   intro g hg;have cY:w.ownsRow w.heap.size e (E+1) u vs.length (flat vs):=⟨hO.row.1,.inl ⟨hu,hn⟩⟩
   obtain⟨u3,w3,cN,h4,_,_⟩:=run_append_own (P:=P) w w.heap.size t ty e i z' (E+1) bytes hT.u hi aX pV aD hz (by omega) u vs.length (flat vs) cY ad ns.length cap (flat ns) cM aY h1 hml hb (zLb _)
   rw[<-hu',hr]at cN;cases cN;rcases h4.2 with ⟨h5,_⟩|⟨g',c',cur',h5,h6,_⟩
   ·rw[h5]at hg;cases hg
   ·rw[h5]at hg
    simp only[Value.ownBlock,zLw]at hg;subst hg;exact h6
  ·by_cases oJ:vs.length+ns.length<=c
   ·left
    have cY:=hO.row;rw[hu]at cY;obtain⟨w3,cN,_,_⟩:=run_append_fits (P:=P) w B t ty e i (E+1) hT.u hi pV g vs.length c (flat vs) cY ad ns.length cap (flat ns) cM aY h1 oJ;rw[<-hu,<-hu',hr]at cN;cases cN;rw[hu];rfl
   ·right
    intro g' hg';have holds:∀j v,(flat vs)[j]?=some v->w.cell? ((⟨g,0,none⟩:Addr).add j)=some v:=hO.row.cells (by rw[hu];rfl)
    have cN:=run_append_grow (P:=P) w t ty e i z' hT.u hi aX ⟨g,0,none⟩ vs.length c (flat vs) (by rw[pV];exact hO.row.1) holds ad ns.length cap (flat ns) (by rw[pV];exact cM) aY (by omega) (by omega) (growslice_fits (by omega) (by rw[aD];exact hb))
    rw[<-hu,<-hu',hr]at cN;cases cN;simp only[Value.ownBlock,zLw]at hg';omega
section tails
variable {P:Program} {a:Act} {w:World} {T:TypeId} {pos:String} {aft:Array Edge} {ops:Array Oper} {Q:Exit->Act->World->Prop} {rest:List Oper}
end tails
theorem OwnS.mono{w:World}{B B' T E:Nat}{u:Value}{vs:List Value}(h:OwnS w B T E u vs)(hB:B'<=B):OwnS w B' T E u vs:=by
 refine⟨h.sz,h.row.1,?_⟩;rcases h.row.2 with h|⟨b,cap,cur,h1,h2,h3⟩
 ·exact .inl h
 ·exact .inr ⟨b,cap,cur,h1,zLg hB h2,h3⟩
section moves
variable {P:Program} {a:Act} {w:World} {d:Option Tmp} {T:TypeId} {pos:String} {aft:Array Edge} {g:Option (Nat×Bool)} {x:Operand}
end moves
theorem MA(z:Value)(E:Nat)(hE:z.cells.size=E+1)(n:Nat):(madeCells z.cells (n * (E+1))).toList=flat (List.replicate n z):=by
 have hs:∀x∈List.replicate n z,x.cells.size=E+1:=fun x hx=>by rw[List.eq_of_mem_replicate hx];exact hE
 apply List.ext_getElem?;intro j;by_cases hj:j<n * (E+1)
 ·have hq:j / (E+1)<n:=Nat.div_lt_of_lt_mul (by rw[Nat.mul_comm];exact hj)
  have hr:j % (E+1)<E+1:=Nat.mod_lt _ (by omega)
  have e1:j / (E+1) * (E+1)+j % (E+1)=j:=by rw[Nat.mul_comm];exact Nat.div_add_mod j (E+1)
  have h2:=Zz hs (j / (E+1)) z (by simp[hq]) _ hr
  rw[e1]at h2;rw[h2];have hr':j % (E+1)<z.cells.size:=by omega
  simp[madeCells,hj,hE];rw[Array.getElem?_eq_getElem hr',getElem!_pos z.cells _ hr']
 ·rw[List.getElem?_eq_none (by rw[Array.length_toList,size_madeCells];omega),List.getElem?_eq_none (by rw[yT hs];simp;omega)]
section ops
variable {P:Program} {a:Act} {w:World} {d:Option Tmp} {T:TypeId} {pos:String} {aft:Array Edge} {g:Option (Nat×Bool)}
theorem Nv{x y:Operand}{X e E B bytes:Nat}{k k':IntKind}{n:Nat}{m:Int}{z sz by_ dd z'}(hT:Ty P X (.slice e) z sz by_)(he:Ty P e dd z' (E+1) bytes)(hz:z'.cells.size=E+1)(hB:B<=w.heap.size)
  (hx:a.eval x=.int k m) (hy:a.eval y=.int k' m) (hm:m=(n:Int)) (hb:bytes * n<=281474976710656) (hl:n<=9223372036854775807) :
  Ok P ⟨d,.makeSlice X x y,T,pos,aft,g⟩ a w (SP.own B e (E+1) (List.replicate n z')).holds:=by
 obtain⟨i,hi,aX,pV,aD⟩:=he.info;subst hm;have hr:=run_make (P:=P) w X e i z' hT.u hi aX k k' (n:Int) (n:Int) (by omega) (Int.le_refl _) (by rw[aD];have h:((bytes * n:Nat):Int)<=281474976710656:=(by omega);rwa[Int.natCast_mul]at h) (by omega)
 simp only[Int.toNat_natCast]at hr;refine vC (w':=w.alloc (.cells (madeCells z'.cells (n * i.size)) e)) (v:=.slice (some ⟨w.heap.size,0,none⟩) n n) (by simp only[execOp,hx,hy,Sem.run_bind,hr,Result.andThen,Sem.run_pure]) (Ext.alloc _ _) ⟨fun x hx=>by rw[List.eq_of_mem_replicate hx];exact hz,?_⟩
 rw[pV,<-MA z' E hz n,List.length_replicate];exact World.ownsRow_lit w _ n hB (by unfold maxLen;omega) (size_madeCells _ _)
theorem Nw{x y:Operand}{X e E B bytes:Nat}{k k':IntKind}{n:Nat}{z sz by_ dd z'}(hT:Ty P X (.slice e) z sz by_)(he:Ty P e dd z' (E+1) bytes)(hB:B<=w.heap.size)
  (hx:a.eval x=.int k 0) (hy:a.eval y=.int k' (n:Int)) (hb:bytes * n<=281474976710656) (hl:n<=9223372036854775807) :
  Ok P ⟨d,.makeSlice X x y,T,pos,aft,g⟩ a w (SP.own B e (E+1) []).holds:=by
 obtain⟨i,hi,aX,pV,aD⟩:=he.info;have hr:=run_make (P:=P) w X e i z' hT.u hi aX k k' 0 (n:Int) (Int.le_refl _) (by omega) (by rw[aD];have h:((bytes * n:Nat):Int)<=281474976710656:=(by omega);rwa[Int.natCast_mul]at h) (by omega)
 simp only[Int.toNat_natCast,Int.toNat_zero]at hr;refine vC (w':=w.alloc (.cells (madeCells z'.cells (n * i.size)) e)) (v:=.slice (some ⟨w.heap.size,0,none⟩) 0 n) (by simp only[execOp,hx,hy,Sem.run_bind,hr,Result.andThen,Sem.run_pure]) (Ext.alloc _ _) ⟨by simp,?_⟩
 have:=World.ownsRow_made (base:=B) (e:=e) (size:=E+1) w (madeCells z'.cells (n * i.size)) n hB (by unfold maxLen;omega) (by rw[size_madeCells,pV])
 simpa[flat] using this
def nq(u:Value)(off:Nat)(p:Value):Prop:=∃b,u.ownBlock=some b/\p=.pointer (some ⟨b,off,none⟩)
abbrev SP.elt(u:Value)(off:Nat):SP:=.pr (fun _ p=>nq u off p) (fun _ _ _ _ h=>h)
theorem Ai{x i:Operand}{X e E B:Nat}{vs:List Value}{u:Value}{k:IntKind}{m:Int}{n:Nat}{z sz by_ dd z' by_'}(hT:Ty P X (.slice e) z sz by_)(he:Ty P e dd z' E by_')(hxu:a.eval x=u)(hO:OwnS w B e E u vs)(hi:a.eval i=.int k m)(hm:m=(n:Int))(hn:n<vs.length) :
  Ok P ⟨d,.indexAddr X x i,T,pos,aft,g⟩ a w (SP.elt u (n * E)).holds:=by
 subst hm;rcases hO.row.2 with ⟨_,h2⟩|⟨b,cap,cur,h1,_⟩
 ·omega
 ·refine vC (v:=.pointer (some ⟨b,n * E,none⟩)) (w':=w) ?_ (Ext.refl _) ⟨b,by rw[h1];rfl,rfl⟩
  have hn':(n:Int)<(vs.length:Int):=by omega
  simp[execOp,Instr.indexAt,asIntOf,hi,hxu,h1,hT.gf,he.zy,hn',kC];intro h;omega
end ops
theorem B7{E:Nat}:∀(vs:List Value) (n:Nat) (v:Value),(∀x∈vs,x.cells.size=E)->v.cells.size=E->n<vs.length->∀j,(flat (vs.set n v))[j]?=if n * E<=j/\j<n * E+E then v.cells[j-n * E]? else (flat vs)[j]?:=by
 intro vs n v hs hv hn j;have hs':∀x∈vs.set n v,x.cells.size=E:=by
  intro x hx;rcases List.mem_or_eq_of_mem_set hx with h|h
  ·exact hs x h
  ·rw[h];exact hv
 by_cases hE:E=0
 ·subst hE
  have h1:flat (vs.set n v)=[]:=List.eq_nil_of_length_eq_zero (by rw[yT hs'];simp)
  have h2:flat vs=[]:=List.eq_nil_of_length_eq_zero (by rw[yT hs];simp)
  rw[h1,h2,zMA (by omega)]
 ·by_cases hj:j<vs.length * E
  ·have hq:j / E<vs.length:=Nat.div_lt_of_lt_mul (by rw[Nat.mul_comm];exact hj)
   have hr:j % E<E:=Nat.mod_lt _ (by omega)
   have e1:j / E * E+j % E=j:=by rw[Nat.mul_comm];exact Nat.div_add_mod j E
   by_cases oK:j / E=n
   ·have h2:=Zz hs' (j / E) v (by rw[oK];simp[hn]) _ hr
    rw[e1]at h2;rw[h2,<-oK,zLz (by omega)]
    congr 1;omega
   ·have h2:=Zz hs' (j / E) vs[j / E] (by simp[oK,Ne.symm oK,hq]) _ hr
    have h3:=Zz hs (j / E) vs[j / E] (by simp[hq]) _ hr
    rw[e1]at h2 h3;rw[h2,<-h3,zMA];rintro⟨h4,h5⟩;apply oK;have a1:n * E<=j:=h4
    have a2:j<(n+1) * E:=by rw[Nat.add_mul];omega
    have b1:n<=j / E:=(Nat.le_div_iff_mul_le (by omega)).2 a1
    have b2:j / E<n+1:=(Nat.div_lt_iff_lt_mul (by omega)).2 a2
    omega
  ·have fG:n * E+E<=vs.length * E:=by
    have:(n+1) * E<=vs.length * E:=Nat.mul_le_mul_right _ hn;rw[Nat.add_mul]at this;omega
   rw[List.getElem?_eq_none (by rw[yT hs'];simp;omega),zMA (by omega),List.getElem?_eq_none (by rw[yT hs];omega)]
theorem kX{P:Program}{T b off:Nat}:∀(l:List Value) (i:Nat) (w:World) (cs:Array Value),(∀v∈l,v.oneCell'=true)->w.heap[b]?=some (.cells cs T)->off+i+l.length<=cs.size ->
  ∃w' cs',(storeCells ⟨b,off,none⟩ l i).run P w=.ok () w'/\w'.heap[b]?=some (.cells cs' T)/\cs'.size=cs.size/\(∀j,cs'[j]?=if off+i<=j/\j<off+i+l.length then l[j-(off+i)]? else cs[j]?) /\
   w'.os=w.os/\w'.tape=w.tape/\w'.output=w.output/\w'.heap.size=w.heap.size/\∀k,k≠b->w'.heap[k]?=w.heap[k]?
 | [],i,w,cs,_,hO,_=>⟨w,cs,rfl,hO,rfl,fun j=>by rw[zMA (by simp)],rfl,rfl,rfl,rfl,fun _ _=>rfl⟩
 |v::l,i,w,cs,h1,hO,hs=>by
   simp only[zLh]at hs;have hi:off+i<cs.size:=by omega
   have oL:Own w b cs T:=⟨(0,0),hO,fun o _=>by simp⟩
   have hc:w.cell? ⟨b,off+i,none⟩=some cs[off+i]:=by rw[oL.cell,Array.getElem?_eq_getElem hi]
   have xV:(w.setCell ⟨b,off+i,none⟩ v).heap[b]?=some (.cells (cs.setIfInBounds (off+i) v) T):=by
    unfold World.setCell;simp[Array.getElem?_modify,hO]
   obtain⟨w',cs',h2,h3,h4,h5,h6,h7,h8,h9,cZ⟩:=kX (P:=P) (off:=off) l (i+1) (w.setCell ⟨b,off+i,none⟩ v) _ (fun x hx=>h1 x (by simp[hx])) xV (by simp;omega)
   refine⟨w',cs',?_,h3,by rw[h4];simp,fun j=>?_,h6,h7,h8,by rw[h9];simp[World.setCell],fun k hk=>?_⟩
   ·have e:(⟨b,off,none⟩:Addr).add i=⟨b,off+i,none⟩:=by rw[kC]
    simp only[storeCells,Sem.run_bind,e,run_store _ _ _ _ _ (h1 v (by simp)),hc,oL.frozen (off+i) hi]
    exact h2
   ·rw[h5 j,zLh]
    by_cases hj:j=off+i
    ·subst hj
     rw[zMA (by omega),zLz (by omega)];simp[hi]
    ·rw[Array.getElem?_setIfInBounds_ne (Ne.symm hj)]
     by_cases h:off+(i+1)<=j/\j<off+(i+1)+l.length
     ·rw[zLz h,zLz (by omega)]
      have e:j-(off+i)=(j-(off+(i+1)))+1:=by omega
      rw[e];simp
     ·rw[zMA h,zMA (by omega)]
   ·rw[cZ k hk]
    unfold World.setCell;simp[Array.getElem?_modify,Ne.symm hk]
section tails
variable {P:Program} {a:Act} {w:World} {T:TypeId} {pos:String} {aft:Array Edge} {ops:Array Oper} {Q:Exit->Act->World->Prop} {rest:List Oper}
end tails
section ops
variable {P:Program} {a:Act} {w:World} {d:Option Tmp} {T:TypeId} {pos:String} {aft:Array Edge} {g:Option (Nat×Bool)}
end ops
section lists
variable {P:Program} {ops:Array Oper} {Q:Exit->Act->World->Prop} {rest:List Oper} {a:Act} {w:World} {o:Oper}
end lists
end Go.Eng
end
noncomputable section
namespace Go.Lift
open Go Go.RowKit Go.Eng
structure Comp(α:Type) where
 run:Nat->Option α
 mono:∀ {n m:Nat} {a:α},n<=m->run n=some a->run m=some a
namespace Comp
variable {α β σ ε:Type}
def pure(a:α):Comp α:=⟨fun _=>some a,fun _ h=>h⟩
def fail:Comp α:=⟨fun _=>none,fun _ h=>h⟩
def bind(c:Comp α)(f:α->Comp β):Comp β:=⟨fun n=>match c.run n with|none=>none|some a=>(f a).run n,by
 grind [mono]⟩
def gd(g:Bool)(c:Comp α)(d:α):Comp α:=match g with|true=>c|false=>pure d
def H3(o:Option α):Comp α:=match o with|some a=>pure a|none=>fail
inductive Step(σ ε:Type) where
 |next (s:σ)
 |done (e:ε)
def XO(body:σ->Comp (Step σ ε))(n:Nat):Nat->σ->Option ε
 |0,_=>none
 |k+1,s=>match (body s).run n with
  |none=>none
  |some (.next s')=>XO body n k s'
  |some (.done e)=>some e
theorem J7{body:σ->Comp (Step σ ε)}{n m:Nat}(xS:n<=m):∀ {k l:Nat} {s:σ} {e:ε},k<=l->XO body n k s=some e->XO body m l s=some e:=by
 intro k
 induction k with
 |zero=>intro l s e _ h;cases h
 |succ k ih =>
  intro l s e aL h;obtain⟨l,rfl⟩:∃l',l=l'+1:=⟨l-1,by omega⟩
  simp only[XO]at h |-
  cases hb:(body s).run n with
  |none=>grind
  |some x =>
   grind [mono]
def loop(body:σ->Comp (Step σ ε))(s:σ):Comp ε:=⟨fun n=>XO body n n s,fun xS h=>J7 xS xS h⟩
theorem run_pure{a b:α}{n:Nat}(h:(pure a).run n=some b):a=b:=by cases h;rfl
theorem run_bind{c:Comp α}{f:α->Comp β}{n:Nat}{b:β}(h:(c.bind f).run n=some b):∃a,c.run n=some a/\(f a).run n=some b:=by
 unfold bind at h;grind
theorem zBU{g:Bool}{c:Comp α}{d:α}{n:Nat}{a:α}(h:(gd g c d).run n=some a)(hg:g=true):c.run n=some a:=by subst hg;exact h
theorem rp{o:Option α}{n:Nat}{a:α}(h:(H3 o).run n=some a):o=some a:=by
 cases o with
 |none=>cases h
 |some x=>cases h;rfl
theorem qO{body:σ->Comp (Step σ ε)}{s:σ}{n:Nat}{e:ε}(h:(loop body s).run n=some e):XO body n n s=some e:=h
theorem td{body:σ->Comp (Step σ ε)}{s:σ}{n m:Nat}{e:ε}(h:XO body n m s=some e) :
  ∃m',m'<m/\∃st,(body s).run n=some st/\(∀s',st=.next s'->XO body n m' s'=some e)/\(∀e',st=.done e'->e'=e):=by
 cases m with
 |zero=>cases h
 |succ k =>
  simp only[XO]at h
  cases hb:(body s).run n with
  |none=>grind
  |some x =>
   rw[hb]at h;refine⟨k,by omega,x,rfl,fun s' hs=>?_,fun e' he=>?_⟩
   ·grind
   grind
open Classical in
def val(c:Comp α):Option α:=if h:∃a,∃n,c.run n=some a then some h.choose else none
theorem tV{c:Comp α}{n m:Nat}{a b:α}(h:c.run n=some a)(k:c.run m=some b):a=b:=by
 have h':=c.mono (Nat.le_max_left n m) h;have k':=c.mono (Nat.le_max_right n m) k
 grind
theorem vL{c:Comp α}{a:α}:c.val=some a↔∃n,c.run n=some a:=by
 unfold val;constructor
 ·intro h
  split at h
  ·grind
  ·cases h
 ·rintro⟨n,hn⟩
  have hx:∃a,∃n,c.run n=some a:=⟨a,n,hn⟩;rw[dif_pos hx];grind [tV]
theorem YR{c:Comp α}{n:Nat}{a:α}(h:c.run n=some a):c.val=some a:=vL.2 ⟨n,h⟩
theorem Aw{c:Comp α}:c.val=none↔∀n,c.run n=none:=by
 constructor
 ·intro h n
  cases hn:c.run n with
  |none=>rfl
  |some a=>grind [YR]
 ·intro h
  cases hv:c.val with
  |none=>rfl
  |some a=>grind [vL]
theorem Uh{c d:Comp α}(h:∀a,c.val=some a↔d.val=some a):c.val=d.val:=by
 cases hc:c.val with
 |none =>
  cases hd:d.val with
  |none=>rfl
  |some a=>grind
 |some a=>grind
@[simp] theorem zB(a:α):(pure a).val=some a:=YR (n:=0) rfl
@[simp] theorem zFM:(fail:Comp α).val=none:=Aw.2 fun _=>rfl
@[simp] theorem zFL(o:Option α):(H3 o).val=o:=by cases o<;>simp[H3]
theorem zA(c:Comp α)(f:α->Comp β):(c.bind f).val=c.val.bind fun a=>(f a).val:=by
 cases hc:c.val with
 |none =>
  simp_all [Aw,bind]
 |some a =>
  rw[zLX];obtain⟨n,hn⟩:=vL.1 hc;refine Uh fun b=>?_
  rw[vL,vL];constructor
  ·rintro⟨m,hm⟩
   obtain⟨x,h1,h2⟩:=run_bind hm;grind [tV]
  ·rintro⟨m,hm⟩
   refine⟨max n m,?_⟩;grind [mono,bind]
theorem Xu{p:Prop}[Decidable p](c d:Comp α):(if p then c else d).val=if p then c.val else d.val:=by grind
theorem Qm(g:Bool)(c:Comp α)(d:α):(gd g c d).val=if g then c.val else some d:=by cases g<;>simp[gd]
theorem VP{c d:Option α}(h:∀a,c=some a↔d=some a):c=d:=by
 cases hc:c with
 |none =>
  cases hd:d with
  |none=>rfl
  |some a=>grind
 |some a=>grind
theorem zM(body:σ->Comp (Step σ ε))(s:σ):(loop body s).val=(body s).val.bind fun|.next s'=>(loop body s').val|.done e=>some e:=by
 refine VP fun e=>?_
 constructor
 ·intro h
  obtain⟨n,hn⟩:=vL.1 h;obtain⟨m',hm,st,h1,h2,h3⟩:=td (qO hn);rw[YR h1,zLX]
  cases st with
  |next s' =>
   have:=h2 s' rfl;exact YR (n:=n) (J7 (zLb _) (Nat.le_of_lt hm) this)
  |done e'=>grind
 ·intro h
  cases hb:(body s).val with
  |none=>grind
  |some st =>
   rw[hb,zLX]at h;obtain⟨n,hn⟩:=vL.1 hb
   cases st with
   |next s' =>
    obtain⟨m,hm⟩:=vL.1 h;refine YR (n:=max n m+1) ?_;show XO body _ (max n m+1) s=some e
    simp only[XO];rw[(body s).mono (by omega:n<=max n m+1) hn]
    exact J7 (by omega) (by omega) (qO hm)
   |done e' =>
    refine YR (n:=n+1) ?_;show XO body _ (n+1) s=some e
    simp only[XO];rw[(body s).mono (by omega:n<=n+1) hn]
    exact h
end Comp
end Go.Lift
end
section
namespace Go.Lift
open Go Go.RowKit Go.Eng
abbrev zR:=Nat->Nat
def zb(k:Nat)(O:zR)(w:World)(O':zR)(w':World):Prop :=
 w.heap.size<=w'.heap.size/\∀b,b<w.heap.size->O b=k->O' b=k/\w'.heap[b]?=w.heap[b]?
theorem zb.refl(k:Nat)(O:zR)(w:World):zb k O w O w:=⟨zLb _,fun _ _ h=>⟨h,rfl⟩⟩
theorem zb.trans{k:Nat}{O O' O'':zR}{w w' w'':World}(h:zb k O w O' w')(h':zb k O' w' O'' w''):zb k O w O'' w'' :=
 ⟨zLg h.1 h'.1,fun b hb ho=>by
  obtain⟨h1,h2⟩:=h.2 b hb ho;obtain⟨h3,h4⟩:=h'.2 b (zLm hb h.1) h1;grind⟩
theorem zb.ext{k:Nat}{O:zR}{w w':World}(h:Ext w w'):zb k O w O w':=⟨h.size,fun b hb ho=>⟨ho,h.block b hb⟩⟩
def KX(j:Option Nat)(O:zR)(w:World)(O':zR)(w':World):Prop :=
 w.heap.size<=w'.heap.size/\∀b,b<w.heap.size->some (O b)≠j->O' b=O b/\w'.heap[b]?=w.heap[b]?
theorem KX.keep{j:Option Nat}{k:Nat}{O O':zR}{w w':World}(h:KX j O w O' w')(hk:some k≠j):zb k O w O' w' :=
 ⟨h.1,fun b hb ho=>by obtain⟨h1,h2⟩:=h.2 b hb (by grind);grind⟩
theorem KX.ext{O:zR}{w w':World}(h:Ext w w'):KX none O w O w':=⟨h.size,fun b hb _=>⟨rfl,h.block b hb⟩⟩
def OkO(O:zR)(w:World):Prop:=∀b,w.heap.size<=b->O b=0
theorem OkO.ext{O:zR}{w w':World}(h:OkO O w)(hE:Ext w w'):OkO O w':=fun b hb=>h b (zLg hE.size hb)
def tag(O:zR)(o:Option Nat)(k:Nat):zR:=fun b=>if o=some b then k else O b
theorem yk(O:zR)(b k:Nat):tag O (some b) k b=k:=by simp[tag]
theorem gH{O:zR}{o:Option Nat}{b k:Nat}(h:o≠some b):tag O o k b=O b:=by simp[tag,h]
theorem OkO.tag{O:zR}{w:World}(h:OkO O w){o:Option Nat}{k:Nat}(ho:∀g,o=some g->g<w.heap.size):OkO (tag O o k) w:=by
 intro b hb;by_cases hg:o=some b
 ·grind
 ·rw[gH hg];exact h b hb
theorem KX.tag{O:zR}{w w':World}{o:Option Nat}{k:Nat}(h:Ext w w')(ho:∀g,o=some g->w.heap.size<=g):KX none O w (Go.Lift.tag O o k) w' :=
 ⟨h.size,fun b hb _=>⟨gH (fun e=>by grind),h.block b hb⟩⟩
theorem KX.free{O:zR}{w:World}{o:Option Nat}{k:Nat}(h:∀g,o=some g->O g=k):KX (some k) O w (Go.Lift.tag O o 0) w :=
 ⟨zLb _,fun b _ hk=>⟨gH (fun e=>hk (by rw[h b e])),rfl⟩⟩
structure GR(α:Type) where
 agg:Bool
 sz:Nat
 rel:zR->World->List Value->α->Prop
 len:∀ {O w cs x},rel O w cs x->cs.length=sz
 one:∀ {O w cs x},rel O w cs x->∀c∈cs,c.oneCell'=true
 mono:∀ {O w O' w' cs x},zb 0 O w O' w'->rel O w cs x->rel O' w' cs x
variable {α β γ δ:Type}
def yD(agg:Bool)(cs:List Value):Value:=match agg with|true=>.agg cs.toArray|false=>cs.headD undef
def GR.v(r:GR α)(O:zR)(w:World)(v:Value)(x:α):Prop:=∃cs,r.rel O w cs x/\v=yD r.agg cs
theorem GR.yu(r:GR α){O w O' w' v x}(h:r.v O w v x)(hk:zb 0 O w O' w'):r.v O' w' v x:=by
 obtain⟨cs,h1,h2⟩:=h;exact⟨cs,r.mono hk h1,h2⟩
theorem GR.KD(r:GR α){O w w' v x}(h:r.v O w v x)(hE:Ext w w'):r.v O w' v x:=r.yu h (zb.ext hE)
def GR.fits(r:GR α):Prop:=r.agg=false->r.sz=1
theorem j6{agg:Bool}{cs:List Value}(h:agg=false->cs.length=1)(h1:∀c∈cs,c.oneCell'=true):(yD agg cs).cells=cs.toArray:=by
 cases agg with
 |true=>rfl
 |false =>
  have:=h rfl
  match cs,this with
  | [c],_ =>
   have:=h1 c (by simp)
   cases c<;>first|rfl|grind [Value.oneCell']
theorem GR.cells(r:GR α)(hr:r.fits){O w v x}(h:r.v O w v x):∃cs,r.rel O w cs x/\v=yD r.agg cs/\v.cells=cs.toArray:=by
 obtain⟨cs,h1,h2⟩:=h;refine⟨cs,h1,h2,?_⟩;rw[h2];exact j6 (fun ha=>by rw[r.len h1,hr ha]) (r.one h1)
theorem GR.Ze(r:GR α)(hr:r.fits){O w v x}(h:r.v O w v x):v.cells.size=r.sz:=by
 obtain⟨cs,h1,_,h3⟩:=r.cells hr h;rw[h3];simp[r.len h1]
theorem GR.cells_one(r:GR α)(hr:r.fits){O w v x}(h:r.v O w v x):∀c∈v.cells.toList,c.oneCell'=true:=by
 obtain⟨cs,h1,_,h3⟩:=r.cells hr h;rw[h3];simpa using r.one h1
def rC(agg:Bool)(sz:Nat)(cells:α->List Value)(hl:∀x,(cells x).length=sz)(ho:∀x,∀c∈cells x,c.oneCell'=true):GR α where
 agg:=agg
 sz:=sz
 rel:=fun _ _ cs x=>cs=cells x
 len:=fun h=>by grind
 one:=fun h=>by grind
 mono:=fun _ h=>h
def str(l:List UInt8):ByteArray:=⟨l.toArray⟩
def bs(s:ByteArray):List UInt8:=s.data.toList
@[simp] theorem zIH(l:List UInt8):bs (str l)=l:=by simp[bs,str]
@[simp] theorem EW(s:ByteArray):str (bs s)=s:=by simp[bs,str]
theorem XX(l:List UInt8):(str l).size=l.length:=rfl
theorem DF(a b:List UInt8):str a++str b=str (a++b):=by
 apply ByteArray.ext;simp[str]
theorem str_inj{a b:List UInt8}:str a=str b↔a=b:=⟨fun h=>by have:=zLq bs h;simpa using this,fun h=>by rw[h]⟩
abbrev vE:=List UInt8
def Ww(k:IntKind):GR Int:=rC false 1 (fun x=>[.int k x]) (fun _=>rfl) (fun _=>by simp[Value.oneCell'])
def Sl:GR Bool:=rC false 1 (fun x=>[.bool x]) (fun _=>rfl) (fun _=>by simp[Value.oneCell'])
def zEm:GR vE:=rC false 1 (fun x=>[.string (str x)]) (fun _=>rfl) (fun _=>by simp[Value.oneCell'])
theorem Eg{k:IntKind}{O w v x}:(Ww k).v O w v x↔v=.int k x:=⟨fun ⟨_,h1,h2⟩=>by rw[h2,h1];rfl,fun h=>⟨_,rfl,h⟩⟩
theorem kO{O w v x}:Sl.v O w v x↔v=.bool x:=⟨fun ⟨_,h1,h2⟩=>by rw[h2,h1];rfl,fun h=>⟨_,rfl,h⟩⟩
theorem Ef{O w v x}:zEm.v O w v x↔v=.string (str x):=⟨fun ⟨_,h1,h2⟩=>by rw[h2,h1];rfl,fun h=>⟨_,rfl,h⟩⟩
theorem zKb{agg:Bool}{sz:Nat}{cells:α->List Value}{hl ho}{O w v x}:(rC agg sz cells hl ho).v O w v x↔v=yD agg (cells x):=⟨fun ⟨_,h1,h2⟩=>by rw[h2,h1];rfl,fun h=>⟨_,rfl,h⟩⟩
def zHO:GR γ where
 agg:=true
 sz:=0
 rel:=fun _ _ cs _=>cs=[]
 len:=fun h=>by grind
 one:=fun h=>by grind
 mono:=fun _ h=>h
def zFc(r:GR α)(p:γ->α)(s:GR γ):GR γ where
 agg:=true
 sz:=r.sz+s.sz
 rel:=fun O w cs x=>∃c1 c2,cs=c1++c2/\r.rel O w c1 (p x)/\s.rel O w c2 x
 len:=fun ⟨c1,c2,h,h1,h2⟩=>by rw[h,zLa,r.len h1,s.len h2]
 one:=fun ⟨c1,c2,h,h1,h2⟩ c hc=>by
  rw[h,zLi]at hc;exact hc.elim (r.one h1 c) (s.one h2 c)
 mono:=fun hk ⟨c1,c2,h,h1,h2⟩=>⟨c1,c2,h,r.mono hk h1,s.mono hk h2⟩
def y5(r:GR α)(O:zR)(w:World):List Value->List α->Prop
 | [],[]=>True
 |v::vs,x::xs=>r.v O w v x/\y5 r O w vs xs
 |_,_=>False
theorem y5.mono{r:GR α}{O w O' w'}(hk:zb 0 O w O' w'):∀ {vs:List Value} {xs:List α},y5 r O w vs xs->y5 r O' w' vs xs
 | [],[],_=>trivial
 |v::vs,x::xs,h=>⟨r.yu h.1 hk,y5.mono hk h.2⟩
 | [],_::_,h=>h.elim
 |_::_,[],h=>h.elim
theorem y5.len{r:GR α}{O w}:∀ {vs:List Value} {xs:List α},y5 r O w vs xs->vs.length=xs.length
 | [],[],_=>rfl
 |v::vs,x::xs,h=>by simp[y5.len h.2]
 | [],_::_,h=>h.elim
 |_::_,[],h=>h.elim
theorem y5.get{r:GR α}{O w}:∀ {vs:List Value} {xs:List α},y5 r O w vs xs->∀(i:Nat) (x:α),xs[i]?=some x->∃v,vs[i]?=some v/\r.v O w v x
 | [],[],_,i,x,hx=>by grind
 |v::vs,y::xs,h,0,x,hx=>by simp at hx;subst hx;exact⟨v,rfl,h.1⟩
 |v::vs,y::xs,h,i+1,x,hx=>by simp at hx;simpa using y5.get h.2 i x hx
 | [],_::_,h,_,_,_=>h.elim
 |_::_,[],h,_,_,_=>h.elim
theorem y5.append{r:GR α}{O w}:∀ {vs us:List Value} {xs ys:List α},y5 r O w vs xs->y5 r O w us ys->y5 r O w (vs++us) (xs++ys)
 | [],_,[],_,_,k=>k
 |v::vs,_,x::xs,_,h,k=>⟨h.1,y5.append h.2 k⟩
 | [],_,_::_,_,h,_=>h.elim
 |_::_,_,[],_,h,_=>h.elim
theorem y5.take{r:GR α}{O w}:∀ {vs:List Value} {xs:List α},y5 r O w vs xs->∀n,y5 r O w (vs.take n) (xs.take n)
 | [],[],_,n=>by grind
 |v::vs,x::xs,h,0=>trivial
 |v::vs,x::xs,h,n+1=>⟨h.1,y5.take h.2 n⟩
 | [],_::_,h,_=>h.elim
 |_::_,[],h,_=>h.elim
theorem y5.drop{r:GR α}{O w}:∀ {vs:List Value} {xs:List α},y5 r O w vs xs->∀n,y5 r O w (vs.drop n) (xs.drop n)
 | [],[],_,n=>by grind
 |v::vs,x::xs,h,0=>h
 |v::vs,x::xs,h,n+1=>by simpa using y5.drop h.2 n
 | [],_::_,h,_=>h.elim
 |_::_,[],h,_=>h.elim
theorem y5.set{r:GR α}{O w}:∀ {vs:List Value} {xs:List α},y5 r O w vs xs->∀n {v x},r.v O w v x->y5 r O w (vs.set n v) (xs.set n x)
 | [],[],_,n,_,_,_=>by grind
 |_::vs,_::xs,h,0,_,_,k=>⟨k,h.2⟩
 |_::vs,_::xs,h,n+1,_,_,k=>⟨h.1,y5.set h.2 n k⟩
 | [],_::_,h,_,_,_,_=>h.elim
 |_::_,[],h,_,_,_,_=>h.elim
theorem y5.replicate{r:GR α}{O w v x}(h:r.v O w v x):∀n,y5 r O w (List.replicate n v) (List.replicate n x)
 |0=>trivial
 |n+1=>⟨h,y5.replicate h n⟩
theorem y5.size{r:GR α}(hr:r.fits){O w}:∀ {vs:List Value} {xs:List α},y5 r O w vs xs->∀v∈vs,v.cells.size=r.sz
 | [],[],_,v,hv=>by cases hv
 |u::vs,x::xs,h,v,hv=>by
  rcases zLd.1 hv with rfl|hv
  ·exact r.Ze hr h.1
  ·exact y5.size hr h.2 v hv
 | [],_::_,h,_,_=>h.elim
 |_::_,[],h,_,_=>h.elim
theorem y5.one{r:GR α}(hr:r.fits){O w}:∀ {vs:List Value} {xs:List α},y5 r O w vs xs->∀c∈flat vs,c.oneCell'=true
 | [],[],_,c,hc=>by grind [flat]
 |u::vs,x::xs,h,c,hc=>by
  simp only[flat,List.flatMap_cons,zLi]at hc;rcases hc with hc|hc
  ·exact r.cells_one hr h.1 c hc
  ·exact y5.one hr h.2 c hc
 | [],_::_,h,_,_=>h.elim
 |_::_,[],h,_,_=>h.elim
theorem y5.closed{agg:Bool}{sz:Nat}{cells:α->List Value}{hl ho}{O w}:∀ {vs:List Value} {xs:List α},y5 (rC agg sz cells hl ho) O w vs xs↔vs=xs.map fun x=>yD agg (cells x)
 | [],[]=>by simp[y5]
 |v::vs,x::xs=>by simp[y5,zKb,y5.closed (vs:=vs) (xs:=xs)]
 | [],_::_=>by simp[y5]
 |_::_,[]=>by simp[y5]
theorem pb{O O':zR}{w w':World}(hk:zb 0 O w O' w'){p:Addr}{v:Value}(hp:O p.block=0)(h:w.cell? p=some v):w'.cell? p=some v:=by
 have hb:p.block<w.heap.size:=by
  grind [World.cell?]
 have:=(hk.2 _ hb hp).2;grind [World.cell?_of_block]
def EJ(O:zR)(w:World)(u:Value)(vs:List Value):Prop:=vs≠[]->∀g,u.ownBlock=some g->g<w.heap.size/\O g=0
theorem EJ.keep{O O':zR}{w w':World}(hk:zb 0 O w O' w'){u:Value}{vs:List Value}(h:EJ O w u vs):EJ O' w' u vs:=fun hv g hg=>by
 obtain⟨h1,h2⟩:=h hv g hg;exact⟨zLm h1 hk.1,(hk.2 g h1 h2).1⟩
theorem NN{O O':zR}{w w':World}(hk:zb 0 O w O' w'){E:Nat}{u:Value}{vs:List Value}(h:SlV w E u vs)(hf:EJ O w u vs):SlV w' E u vs:=by
 obtain⟨a,cap,h1,h2,h3,h4⟩:=h;refine⟨a,cap,h1,h2,h3,?_⟩;rcases h4 with h4|⟨b,off,ha,hc⟩
 ·grind
 ·by_cases hv:vs=[]
  ·grind
  refine .inr ⟨b,off,ha,fun i x hx j hj=>?_⟩
  have:=hc i x hx j hj;have gF:j<x.cells.size:=by grind
  rw[Array.getElem?_eq_getElem gF]at this |-;exact pb hk (hf hv b (by rw[h1,ha];rfl)).2 this
def rSl(r:GR α):GR (List α) where
 agg:=false
 sz:=1
 rel:=fun O w cs xs=>∃u vs,cs=[u]/\SlV w r.sz u vs/\y5 r O w vs xs/\EJ O w u vs
 len:=fun ⟨u,vs,h,_⟩=>by grind
 one:=fun ⟨u,vs,h,⟨a,cap,h1,_⟩,_⟩ c hc=>by
  rw[h]at hc;simp at hc;subst hc;rw[h1];rfl
 mono:=fun hk ⟨u,vs,h,h1,h2,h3⟩=>⟨u,vs,h,NN hk h1 h3,h2.mono hk,h3.keep hk⟩
theorem Yk{r:GR α}{O w u xs}:(rSl r).v O w u xs↔∃vs,SlV w r.sz u vs/\y5 r O w vs xs/\EJ O w u vs :=
 ⟨fun ⟨cs,⟨u',vs,h,h1,h2,h3⟩,hu⟩=>by grind [rSl,yD],fun ⟨vs,h1,h2,h3⟩=>⟨[u],⟨u,vs,rfl,h1,h2,h3⟩,rfl⟩⟩
def Rd(r:GR α)(O:zR)(w:World)(u:Value)(xs:List α):Prop:=∃vs,SlV w r.sz u vs/\y5 r O w vs xs
theorem Rd.ext{r:GR α}{O w w' u xs}(h:Rd r O w u xs)(hE:Ext w w'):Rd r O w' u xs:=by
 obtain⟨vs,h1,h2⟩:=h;exact⟨vs,h1.ext hE,h2.mono (zb.ext hE)⟩
theorem Cr{r:GR α}{O w u xs}(h:(rSl r).v O w u xs):Rd r O w u xs:=by
 obtain⟨vs,h1,h2,_⟩:=Yk.1 h;exact⟨vs,h1,h2⟩
theorem uo(r:GR α)(O:zR)(w:World)(c:Nat):(rSl r).v O w (.slice none 0 c) []:=Yk.2 ⟨[],⟨none,c,rfl,by simp,by simp,.inl rfl⟩,trivial,fun h=>zLp rfl h⟩
def zo(k:Nat)(r:GR α)(T:Nat)(B:Nat->Prop)(O:zR)(w:World)(u:Value)(xs:List α):Prop :=
 ∃vs,OwnS w 0 T r.sz u vs/\y5 r O w vs xs/\∀g,u.ownBlock=some g->O g=k/\B g
theorem zo.rd{k:Nat}{r:GR α}{T B O w u xs}(h:zo k r T B O w u xs):Rd r O w u xs:=by
 obtain⟨vs,h1,h2,_⟩:=h;exact⟨vs,h1.slv,h2⟩
theorem Ir{w w':World}{B T E:Nat}{u:Value}{vs:List Value}(h:OwnS w B T E u vs)(hb:∀g,u.ownBlock=some g->w'.heap[g]?=w.heap[g]?):OwnS w' B T E u vs:=by
 refine⟨h.sz,h.row.1,?_⟩;rcases h.row.2 with h1|⟨b,cap,cur,h1,h2,h3,h4⟩
 ·grind
 ·exact .inr ⟨b,cap,cur,h1,h2,by rw[hb b (by rw[h1];rfl)];exact h3,h4⟩
theorem zo.keep{k:Nat}{r:GR α}{T B O w O' w' u xs}(h:zo k r T B O w u xs)(h0:zb 0 O w O' w')(hk:zb k O w O' w'):zo k r T B O' w' u xs:=by
 obtain⟨vs,h1,h2,h3⟩:=h;exact⟨vs,Ir h1 fun g hg=>(hk.2 g (h1.gK g hg) (h3 g hg).1).2,h2.mono h0,fun g hg=>⟨(hk.2 g (h1.gK g hg) (h3 g hg).1).1,(h3 g hg).2⟩⟩
theorem zo.ext{k:Nat}{r:GR α}{T B O w w' u xs}(h:zo k r T B O w u xs)(hE:Ext w w'):zo k r T B O w' u xs:=h.keep (zb.ext hE) (zb.ext hE)
theorem zo.nil(k:Nat)(r:GR α)(T:Nat)(B:Nat->Prop)(O:zR)(w:World):zo k r T B O w (.slice none 0 0) []:=⟨[],OwnS.nil _ _ _ _,trivial,fun g hg=>by cases hg⟩
theorem zo.tagged{k:Nat}{r:GR α}{T B O w u xs}(h:zo k r T B O w u xs):∀g,u.ownBlock=some g->O g=k:=by obtain⟨_,_,_,h3⟩:=h;grind
theorem zo.ge{k:Nat}{r:GR α}{T B O w u xs}(h:zo k r T B O w u xs):∀g,u.ownBlock=some g->B g/\g<w.heap.size:=by
 obtain⟨vs,h1,_,h3⟩:=h;exact fun g hg=>⟨(h3 g hg).2,h1.gK g hg⟩
theorem zo.freeze{k:Nat}{r:GR α}{T B O w u xs}(h:zo k r T B O w u xs)(hk:k≠0):(rSl r).v (tag O u.ownBlock 0) w u xs:=by
 have ht:=h.tagged;obtain⟨vs,h1,h2,h3⟩:=h;exact Yk.2 ⟨vs,h1.slv,h2.mono ((KX.free ht).keep (by grind)),fun _ g hg=>⟨h1.gK g hg,by grind [yk]⟩⟩
theorem zo.W5{k:Nat}{r:GR α}{T B O w u xs}(h:zo k r T B O w u xs):(rSl r).v (fun _=>0) w u xs:=by
 obtain⟨vs,h1,h2,h3⟩:=h;exact Yk.2 ⟨vs,h1.slv,h2.mono ⟨zLb _,fun _ _ _=>⟨rfl,rfl⟩⟩,fun _ g hg=>⟨h1.gK g hg,rfl⟩⟩
theorem Nz(w:World):OkO (fun _=>0) w:=fun _ _=>rfl
def Zo(r:GR α)(T B:Nat)(O:zR)(w:World)(u:Value)(xs:List α):Prop :=
 ∃vs,OwnS w B T r.sz u vs/\y5 r (tag O u.ownBlock 1) w vs xs
theorem Zo.ext{r:GR α}{T B O w w' u xs}(h:Zo r T B O w u xs)(hE:Ext w w'):Zo r T B O w' u xs:=by
 obtain⟨vs,h1,h2⟩:=h;exact⟨vs,h1.ext hE,h2.mono (zb.ext hE)⟩
theorem Zo.rd{r:GR α}{T B O w u xs}(h:Zo r T B O w u xs):Rd r (tag O u.ownBlock 1) w u xs:=by
 obtain⟨vs,h1,h2⟩:=h;exact⟨vs,h1.slv,h2⟩
theorem Zo.ge{r:GR α}{T B O w u xs}(h:Zo r T B O w u xs):∀g,u.ownBlock=some g->B<=g/\g<w.heap.size:=by
 obtain⟨vs,h1,h2⟩:=h;exact fun g hg=>⟨h1.JO g hg,h1.gK g hg⟩
theorem Zo.own{r:GR α}{T B O w u xs}(h:Zo r T B O w u xs)(k:Nat){B':Nat->Prop}(hk:k≠0)(hB:∀g,B<=g->B' g):zo k r T B' (tag O u.ownBlock k) w u xs:=by
 have tW:=h.ge;obtain⟨vs,h1,h2⟩:=h;refine⟨vs,h1.mono (Nat.zero_le _),h2.mono ⟨zLb _,fun b _ hb=>⟨?_,rfl⟩⟩,fun g hg=>⟨by grind [yk],hB g (tW g hg).1⟩⟩
 by_cases hg:u.ownBlock=some b
 ·grind [yk]
 grind [gH]
theorem Zo.val{r:GR α}{T B O w u xs}(h:Zo r T B O w u xs)(hO:∀g,u.ownBlock=some g->O g=0):(rSl r).v O w u xs:=by
 obtain⟨vs,h1,h2⟩:=h;refine Yk.2 ⟨vs,h1.slv,h2.mono ⟨zLb _,fun b _ hb=>⟨?_,rfl⟩⟩,fun _ g hg=>⟨h1.gK g hg,hO g hg⟩⟩
 grind [gH]
theorem _root_.Go.Eng.OwnS.Q0{w:World}{B B' T E:Nat}{u:Value}{vs:List Value}(h:OwnS w B T E u vs)(hb:∀g,u.ownBlock=some g->B'<=g):OwnS w B' T E u vs:=by
 refine⟨h.sz,h.row.1,?_⟩;rcases h.row.2 with h1|⟨b,cap,cur,h1,h2,h3⟩
 ·grind
 ·exact .inr ⟨b,cap,cur,h1,hb b (by rw[h1];rfl),h3⟩
def Fr(w0:World):Nat->Prop:=fun b=>w0.heap.size<=b
theorem zo.res{k:Nat}{r:GR α}{T O O0 w0 w u xs}(h:zo k r T (Fr w0) O w u xs)(hk:k≠0)(h0:∀b,b<w.heap.size->O b=0->O0 b=0):Zo r T w0.heap.size O0 w u xs:=by
 obtain⟨vs,h1,h2,h3⟩:=h;refine⟨vs,h1.Q0 fun g hg=>(h3 g hg).2,h2.mono ⟨zLb _,fun b hb ho=>⟨?_,rfl⟩⟩⟩
 grind [gH]
structure OwnB(k:Nat)(B:Nat->Prop)(O:zR)(w:World)(b:Nat)(cs:Array Value)(T:TypeId):Prop where
 own:Own w b cs T
 ge:B b
 tag:O b=k
theorem OwnB.keep{k:Nat}{B:Nat->Prop}{O O':zR}{w w':World}{b:Nat}{cs:Array Value}{T:TypeId}(h:OwnB k B O w b cs T)(hk:zb k O w O' w'):OwnB k B O' w' b cs T:=by
 obtain⟨h1,h2⟩:=hk.2 b h.own.lt h.tag;obtain⟨fr,h3,h4⟩:=h.own;exact⟨⟨fr,h2.trans h3,h4⟩,h.ge,h1⟩
theorem OwnB.ext{k:Nat}{B:Nat->Prop}{O:zR}{w w':World}{b:Nat}{cs:Array Value}{T:TypeId}(h:OwnB k B O w b cs T)(hE:Ext w w'):OwnB k B O w' b cs T:=h.keep (zb.ext hE)
def KV(r:GR α):GR α where
 agg:=false
 sz:=1
 rel:=fun O w cs x=>∃b cs' T,cs=[.pointer (some ⟨b,0,none⟩)]/\Own w b cs'.toArray T/\O b=0/\r.rel O w cs' x
 len:=fun ⟨_,_,_,h,_⟩=>by grind
 one:=fun ⟨_,_,_,h,_⟩ c hc=>by rw[h]at hc;simp at hc;subst hc;rfl
 mono:=fun hk ⟨b,cs',T,h,⟨fr,h1,h2⟩,h3,h4⟩=>by
  obtain⟨h5,h6⟩:=hk.2 b (zLy.1 h1).1 h3;exact⟨b,cs',T,h,⟨fr,h6.trans h1,h2⟩,h5,r.mono hk h4⟩
theorem OwnB.freeze{k:Nat}{B:Nat->Prop}{O:zR}{w:World}{b:Nat}{cs:List Value}{T:TypeId}(h:OwnB k B O w b cs.toArray T)(hk:k≠0){r:GR α}{x:α}(hr:r.rel O w cs x):(KV r).v (Go.Lift.tag O (some b) 0) w (.pointer (some ⟨b,0,none⟩)) x :=
 ⟨_,⟨b,cs,T,rfl,h.own,yk _ _ _,r.mono ((KX.free (o:=some b) (k:=k) fun g hg=>by cases hg;exact h.tag).keep (by grind)) hr⟩,rfl⟩
structure Base(A:Nat->Prop)(O:zR)(w0:World)(Oc:zR)(w:World):Prop where
 os:w.os=w0.os
 tape:w.tape=w0.tape
 output:w.output=w0.output
 size:w0.heap.size<=w.heap.size
 block:∀b,b<w0.heap.size->¬A b->w.heap[b]?=w0.heap[b]?
 ok:OkO Oc w
 old:∀b,b<w0.heap.size->¬A b->Oc b=O b
 zero:∀b,b<w.heap.size->Oc b=0->O b=0
 new:∀b,w0.heap.size<=b->A b
theorem Base.start{O:zR}{w0:World}(h:OkO O w0):Base (Fr w0) O w0 O w0:=⟨rfl,rfl,rfl,zLb _,fun _ _ _=>rfl,h,fun _ _ _=>rfl,fun _ _ h=>h,fun _ h=>h⟩
theorem Base.ext{O Oc:zR}{w0 w:World}(h:Base (Fr w0) O w0 Oc w):Ext w0 w:=⟨h.os,h.tape,h.output,h.size,fun b hb=>h.block b hb (fun e=>by unfold Fr at e;omega)⟩
variable {A:Nat->Prop}
theorem Base.step{O Oc:zR}{w0 w w':World}(h:Base A O w0 Oc w)(hE:Ext w w')(hO:OkO O w0):Base A O w0 Oc w' :=
 ⟨hE.os.trans h.os,hE.tape.trans h.tape,hE.output.trans h.output,zLg h.size hE.size,fun b hb hA=>(hE.block b (zLm hb h.size)).trans (h.block b hb hA),h.ok.ext hE,h.old,
  fun b _ ho=>by
   by_cases hb:b<w.heap.size
   ·exact h.zero b hb ho
   ·exact hO b (by have:=h.size;omega),h.new⟩
theorem Base.tag{O Oc:zR}{w0 w:World}(h:Base A O w0 Oc w){o:Option Nat}{k:Nat}(hk:k≠0)(ho:∀g,o=some g->A g/\g<w.heap.size):Base A O w0 (tag Oc o k) w :=
 ⟨h.os,h.tape,h.output,h.size,h.block,h.ok.tag fun g hg=>(ho g hg).2,fun b hb hA=>by rw[gH (fun e=>hA (ho b e).1)];exact h.old b hb hA,
  fun b hb hz=>by
   by_cases e:o=some b
   ·grind [yk]
   ·rw[gH e]at hz;exact h.zero b hb hz,h.new⟩
theorem Base.SV{O Oc:zR}{w0 w:World}(h:Base A O w0 Oc w)(hO:OkO O w0){o:Option Nat}(ho:∀g,o=some g->A g)(hz:∀g,o=some g->g<w0.heap.size->O g=0):Base A O w0 (Go.Lift.tag Oc o 0) w :=
 ⟨h.os,h.tape,h.output,h.size,h.block,fun b hb=>by
  unfold Go.Lift.tag;split
  ·rfl
  ·exact h.ok b hb,fun b hb hA=>by rw[gH (fun e=>hA (ho b e))];exact h.old b hb hA,
  fun b hb bX=>by
   by_cases e:o=some b
   ·by_cases gF:b<w0.heap.size
    ·grind
    ·exact hO b (by omega)
   ·rw[gH e]at bX;exact h.zero b hb bX,h.new⟩
theorem Base.res{O Oc:zR}{w0 w:World}(h:Base A O w0 Oc w)(r:GR α){v x}(hr:r.v Oc w v x):r.v O w v x:=r.yu hr ⟨zLb _,fun b hb ho=>⟨h.zero b hb ho,rfl⟩⟩
theorem Base.but{O Oc:zR}{w0 w w':World}{b:Nat}(h:Base A O w0 Oc w)(hb:A b)(hE:But b w w')(hO:OkO O w0):Base A O w0 Oc w' :=
 ⟨hE.os.trans h.os,hE.tape.trans h.tape,hE.output.trans h.output,zLg h.size hE.size,fun c hc hA=>(hE.block c (zLm hc h.size) (fun e=>hA (e ▸ hb))).trans (h.block c hc hA),
  fun c hc=>h.ok c (zLg hE.size hc),h.old,fun c _ ho=>by
   by_cases hc:c<w.heap.size
   ·exact h.zero c hc ho
   ·exact hO c (by have:=h.size;omega),h.new⟩
theorem KX.but{O:zR}{w w':World}{b k:Nat}(hE:But b w w')(hb:O b=k):KX (some k) O w O w' :=
 ⟨hE.size,fun c hc hk=>⟨rfl,hE.block c hc (fun e=>by grind)⟩⟩
end Go.Lift
end
section
namespace Go.Lift
open Go Go.RowKit Go.Eng
variable {α β γ δ:Type}
abbrev SP.vl(r:GR α)(O:zR)(x:α):SP:=.pr (fun w v=>r.v O w v x) (fun _ _ _ hE h=>r.KD h hE)
abbrev SP.ptr(r:GR α)(O:zR)(x:α):SP:=.pr (fun w p=>∃v,Y9 w p v/\r.v O w v x) (fun _ _ _ hE ⟨v,h1,h2⟩=>⟨v,h1.ext hE,r.KD h2 hE⟩)
abbrev SP.rd(r:GR α)(O:zR)(xs:List α):SP:=.pr (fun w u=>Rd r O w u xs) (fun _ _ _ hE h=>h.ext hE)
abbrev SP.UO(r:GR α)(T B:Nat)(O:zR)(xs:List α):SP:=.pr (fun w u=>Zo r T B O w u xs) (fun _ _ _ hE h=>h.ext hE)
def LIM:Nat:=1073741824
def idx(xs:List α)(i:Int):Comp α:=if 0<=i then Comp.H3 xs[i.toNat]? else Comp.fail
theorem Jm{xs:List α}{i:Int}{n:Nat}{x:α}(h:(idx xs i).run n=some x):0<=i/\xs[i.toNat]?=some x:=by
 unfold idx at h;split at h
 ·grind [Comp.rp]
 ·cases h
def sub(xs:List α)(l h:Int):Comp (List α):=if 0<=l/\l<=h/\h<=xs.length then Comp.pure ((xs.take h.toNat).drop l.toNat) else Comp.fail
theorem jh{xs ys:List α}{l h:Int}{n:Nat}(hr:(sub xs l h).run n=some ys):(0<=l/\l<=h/\h<=xs.length)/\(xs.take h.toNat).drop l.toNat=ys:=by
 unfold sub at hr;split at hr
 ·grind [Comp.run_pure]
 ·cases hr
def app(xs ys:List α):Comp (List α):=if xs.length+ys.length<=LIM then Comp.pure (xs++ys) else Comp.fail
theorem Gc{xs ys zs:List α}{n:Nat}(h:(app xs ys).run n=some zs):xs.length+ys.length<=LIM/\xs++ys=zs:=by
 unfold app at h;split at h
 ·grind [Comp.run_pure]
 ·cases h
def upd(xs:List α)(i:Int)(x:α):Comp (List α):=if 0<=i/\i<xs.length then Comp.pure (xs.set i.toNat x) else Comp.fail
theorem U7{xs ys:List α}{i:Int}{x:α}{n:Nat}(h:(upd xs i x).run n=some ys):(0<=i/\i<xs.length)/\xs.set i.toNat x=ys:=by
 unfold upd at h;split at h
 ·grind [Comp.run_pure]
 ·cases h
def mk(n:Int)(z:α):Comp (List α):=if 0<=n/\n<=LIM then Comp.pure (List.replicate n.toNat z) else Comp.fail
theorem run_mk{n:Int}{z:α}{ys:List α}{m:Nat}(h:(mk n z).run m=some ys):(0<=n/\n<=LIM)/\List.replicate n.toNat z=ys:=by
 unfold mk at h;split at h
 ·grind [Comp.run_pure]
 ·cases h
def Qs(s:vE)(i:Int):Comp Int:=(idx s i).bind fun b=>Comp.pure (b.toNat:Int)
def quo(k:IntKind)(a b:Int):Comp Int:=if b=0 then Comp.fail else Comp.pure (k.wrap (a.tdiv b))
def rem(a b:Int):Comp Int:=if b=0 then Comp.fail else Comp.pure (a.tmod b)
theorem U9{k:IntKind}{a b c:Int}{n:Nat}(h:(quo k a b).run n=some c):b≠0/\k.wrap (a.tdiv b)=c:=by
 unfold quo at h;split at h
 ·cases h
 grind [Comp.run_pure]
theorem U8{a b c:Int}{n:Nat}(h:(rem a b).run n=some c):b≠0/\a.tmod b=c:=by
 unfold rem at h;split at h
 ·cases h
 grind [Comp.run_pure]
def zHJ(k:IntKind)(a n:Int):Int:=k.wrap (a * 2 ^ (min n.toNat k.bits))
def zHH(k:IntKind)(a n:Int):Int:=a.fdiv (2 ^ (min n.toNat k.bits))
def cat(s t:vE):Comp vE:=if s.length+t.length<=1099511627776 then Comp.pure (s++t) else Comp.fail
theorem VA{s t u:vE}{n:Nat}(h:(cat s t).run n=some u):s.length+t.length<=1099511627776/\s++t=u:=by
 unfold cat at h;split at h
 ·grind [Comp.run_pure]
 ·cases h
def zIB(k:IntKind)(a b:Int):Int:=k.wrap ((BitVec.ofInt k.bits a &&& BitVec.ofInt k.bits b).toNat:Int)
def orB(k:IntKind)(a b:Int):Int:=k.wrap ((BitVec.ofInt k.bits a ||| BitVec.ofInt k.bits b).toNat:Int)
def zHC(k:IntKind)(a b:Int):Int:=k.wrap ((BitVec.ofInt k.bits a ^^^ BitVec.ofInt k.bits b).toNat:Int)
def Hb(k:IntKind)(a b:Int):Int:=k.wrap ((BitVec.ofInt k.bits a &&& ~~~ BitVec.ofInt k.bits b).toNat:Int)
section ops
variable {P:Program} {a:Act} {w:World} {d:Option Tmp} {T:TypeId} {pos:String} {aft:Array Edge} {g:Option (Nat×Bool)}
theorem VZ{x y:Operand}{X Y:TypeId}{k:IntKind}{m n:Int}(hx:a.eval x=.int k m)(hy:a.eval y=.int k n):Ok P ⟨d,.binOp .and X x y Y,T,pos,aft,g⟩ a w (SP.isv (.int k (zIB k m n))).holds:=AA hx hy (.inl rfl) fun _=>rfl
theorem zDI{x y:Operand}{X Y:TypeId}{k:IntKind}{m n:Int}(hx:a.eval x=.int k m)(hy:a.eval y=.int k n):Ok P ⟨d,.binOp .or X x y Y,T,pos,aft,g⟩ a w (SP.isv (.int k (orB k m n))).holds:=AA hx hy (.inr (.inl rfl)) fun _=>rfl
theorem VY{x y:Operand}{X Y:TypeId}{k:IntKind}{m n:Int}(hx:a.eval x=.int k m)(hy:a.eval y=.int k n):Ok P ⟨d,.binOp .xor X x y Y,T,pos,aft,g⟩ a w (SP.isv (.int k (zHC k m n))).holds:=AA hx hy (.inr (.inr (.inl rfl))) fun _=>rfl
theorem Dm{x y:Operand}{X Y:TypeId}{k:IntKind}{m n:Int}(hx:a.eval x=.int k m)(hy:a.eval y=.int k n):Ok P ⟨d,.binOp .andNot X x y Y,T,pos,aft,g⟩ a w (SP.isv (.int k (Hb k m n))).holds:=AA hx hy (.inr (.inr (.inr rfl))) fun _=>rfl
theorem VT{x y:Operand}{X Y:TypeId}{k k':IntKind}{m n:Int}(hx:a.eval x=.int k m)(hy:a.eval y=.int k' n)(h0:0<=n):Ok P ⟨d,.binOp .shr X x y Y,T,pos,aft,g⟩ a w (SP.isv (.int k (zHH k m n))).holds:=zDK hx hy h0
theorem VV{x y:Operand}{X Y:TypeId}{k k':IntKind}{m n:Int}(hx:a.eval x=.int k m)(hy:a.eval y=.int k' n)(h0:0<=n):Ok P ⟨d,.binOp .shl X x y Y,T,pos,aft,g⟩ a w (SP.isv (.int k (zHJ k m n))).holds:=zDL hx hy h0
theorem VW{x y:Operand}{X Y:TypeId}{k:IntKind}{m n:Int}(hx:a.eval x=.int k m)(hy:a.eval y=.int k n) :
  Ok P ⟨d,.call ⟨.builtin .max,#[x,y],#[X,Y]⟩,T,pos,aft,g⟩ a w (SP.isv (.int k (max m n))).holds:=zj (by
   have:(if n > m then n else m)=max m n:=by omega
   simp[execOp,resolve,invoke,builtin,hx,hy,Builtin.max_,Builtin.max2,this])
theorem zBP(s t:vE):decide (str s=str t)=decide (s=t):=by
 grind [str_inj]
theorem Nt{x y:Operand}{X Y:TypeId}{s t:vE}(hx:a.eval x=.string (str s))(hy:a.eval y=.string (str t)) :
  Ok P ⟨d,.binOp .eql X x y Y,T,pos,aft,g⟩ a w (SP.isv (.bool (decide (s=t)))).holds:=by
 grind [Vk,zBP]
theorem Np{x y:Operand}{X Y:TypeId}{s t:vE}(hx:a.eval x=.string (str s))(hy:a.eval y=.string (str t)) :
  Ok P ⟨d,.binOp .neq X x y Y,T,pos,aft,g⟩ a w (SP.isv (.bool (decide (s≠t)))).holds:=by
 grind [Vc,str_inj]
theorem Nu{x y:Operand}{X Y:TypeId}{s t u:vE}{n:Nat}(hx:a.eval x=.string (str s))(hy:a.eval y=.string (str t))(h:(cat s t).run n=some u) :
  Ok P ⟨d,.binOp .add X x y Y,T,pos,aft,g⟩ a w (SP.isv (.string (str u))).holds:=by
 obtain⟨h1,h2⟩:=VA h;have:=Vn (P:=P) (w:=w) (d:=d) (T:=T) (pos:=pos) (aft:=aft) (g:=g) (X:=X) (Y:=Y) hx hy (by grind [XX])
 grind [DF]
theorem Nq{x:Operand}{X:TypeId}{s:vE}{z sz by_}(hT:Ty P X .string z sz by_)(hx:a.eval x=.string (str s)) :
  Ok P ⟨d,.call ⟨.builtin .len,#[x],#[X]⟩,T,pos,aft,g⟩ a w (SP.isv (.int .i64 (s.length:Int))).holds:=Vh hT hx
theorem Dk{x i:Operand}{X:TypeId}{s:vE}{m:Int}{y:Int}{n:Nat}{k:IntKind}{z sz by_}(hT:Ty P X .string z sz by_)(hx:a.eval x=.string (str s))(hi:a.eval i=.int k m)(h:(Qs s m).run n=some y) :
  Ok P ⟨d,.index X x i,T,pos,aft,g⟩ a w (SP.isv (.int .u8 y)).holds:=by
 obtain⟨b,h1,h2⟩:=Comp.run_bind h;obtain⟨h3,h4⟩:=Jm h1;have h2:=Comp.run_pure h2
 have gF:m.toNat<s.length:=(zLf.1 h4).1;have:=I1 (P:=P) (w:=w) (d:=d) (T:=T) (pos:=pos) (aft:=aft) (g:=g) hT hx hi h3 (by grind [XX])
 grind [str,MR,E8]
theorem JC(s:vE)(l h:Nat):(str s).extract l h=str ((s.take h).drop l):=by
 apply ByteArray.ext;simp[str,ByteArray.data_extract,List.extract_toArray,List.extract_eq_take_drop,List.drop_take]
theorem p8{x h:Operand}{X:TypeId}{s u:vE}{n:Int}{k:IntKind}{m:Nat}{z sz by_}(hT:Ty P X .string z sz by_)(hx:a.eval x=.string (str s))(hh:a.eval h=.int k n)(hr:(sub s 0 n).run m=some u) :
  Ok P ⟨d,.slice X x none (some h) none,T,pos,aft,g⟩ a w (SP.isv (.string (str u))).holds:=by
 obtain⟨⟨h1,h2,h3⟩,h4⟩:=jh hr;have:=Ah (P:=P) (w:=w) (d:=d) (T:=T) (pos:=pos) (aft:=aft) (g:=g) hT hx hh h2 (by grind [XX])
 grind [JC]
theorem p7{x l:Operand}{X:TypeId}{s u:vE}{n:Int}{k:IntKind}{m:Nat}{z sz by_}(hT:Ty P X .string z sz by_)(hx:a.eval x=.string (str s))(hl:a.eval l=.int k n)(hr:(sub s n s.length).run m=some u) :
  Ok P ⟨d,.slice X x (some l) none none,T,pos,aft,g⟩ a w (SP.isv (.string (str u))).holds:=by
 obtain⟨⟨h1,h2,h3⟩,h4⟩:=jh hr;have:=Ag (P:=P) (w:=w) (d:=d) (T:=T) (pos:=pos) (aft:=aft) (g:=g) hT hx hl h1 (by grind [XX])
 grind [XX,JC]
theorem rP{x l h:Operand}{X:TypeId}{s u:vE}{n n':Int}{k k':IntKind}{m:Nat}{z sz by_}(hT:Ty P X .string z sz by_)(hx:a.eval x=.string (str s))(hl:a.eval l=.int k n)(hh:a.eval h=.int k' n')(hr:(sub s n n').run m=some u) :
  Ok P ⟨d,.slice X x (some l) (some h) none,T,pos,aft,g⟩ a w (SP.isv (.string (str u))).holds:=by
 obtain⟨⟨h1,h2,h3⟩,h4⟩:=jh hr;have:=nA (P:=P) (w:=w) (d:=d) (T:=T) (pos:=pos) (aft:=aft) (g:=g) hT hx hl hh h1 h2 (by grind [XX])
 grind [JC]
theorem uw{x:Operand}{X E:TypeId}{r:GR α}{O:zR}{xs:List α}{z sz by_}(hT:Ty P X (.slice E) z sz by_){u:Value}(hu:a.eval x=u)(hx:Rd r O w u xs) :
  Ok P ⟨d,.call ⟨.builtin .len,#[x],#[X]⟩,T,pos,aft,g⟩ a w (SP.isv (.int .i64 (xs.length:Int))).holds:=by
 obtain⟨vs,h1,h2⟩:=hx;have:=Vg (P:=P) (d:=d) (T:=T) (pos:=pos) (aft:=aft) (g:=g) hT hu h1
 rwa[h2.len]at this
theorem Gw{x i:Operand}{X e:TypeId}{r:GR α}{O:zR}{xs:List α}{y:α}{k:IntKind}{m:Int}{n:Nat}{z sz by_ dd z' E by_'}(hT:Ty P X (.slice e) z sz by_)(he:Ty P e dd z' E by_')(hE:r.sz=E){u:Value}(hu:a.eval x=u)(hx:Rd r O w u xs)(hi:a.eval i=.int k m)(h:(idx xs m).run n=some y) :
  Ok P ⟨d,.indexAddr X x i,T,pos,aft,g⟩ a w (SP.ptr r O y).holds:=by
 obtain⟨h0,h1⟩:=Jm h;obtain⟨vs,h2,h3⟩:=hx;obtain⟨v,h4,h5⟩:=h3.get _ _ h1;subst hE;intro K Q hK;exact I0 hT he hu h2 hi h0 h4 K Q fun p w' hE hp=>hK p w' hE ⟨v,hp,r.KD h5 hE⟩
theorem zBd{x:Operand}{X:TypeId}{r:GR α}(hr:r.fits){O:zR}{y:α}{dd z sz by_}(hT:Ty P X dd z sz by_)(hd:vN dd=r.agg)(hs:r.sz=sz){u:Value}(hu:a.eval x=u)(hx:(SP.ptr r O y).holds w u) :
  Ok P ⟨d,.load X x,T,pos,aft,g⟩ a w (SP.vl r O y).holds:=by
 obtain⟨v,h1,h2⟩:=hx;obtain⟨cs,h3,h4,h5⟩:=r.cells hr h2;intro K Q hK
 cases ha:r.agg with
 |false =>
  rw[ha]at hd h4;have hl:cs.length=1:=by rw[r.len h3,hr ha]
  match cs,hl with
  | [c],_ =>
   simp only[yD,List.headD_cons]at h4;subst h4;exact Iz hT hd hu h1 h5 K Q fun v' w' hE hv=>hK v' w' hE (by cases hv;exact r.KD h2 hE)
 |true =>
  rw[ha]at hd h4;simp only[yD]at h4;subst h4;exact KR hT hd hu h1 (by simp[r.len h3,hs]) K Q fun v' w' hE hv=>hK v' w' hE (by cases hv;exact r.KD h2 hE)
def zFJ(S:GR γ)(off:Nat)(r:GR α)(p:γ->α):Prop:=∀ {O w cs x},S.rel O w cs x->∃c1 c2 c3,cs=c1++(c2++c3)/\c1.length=off/\r.rel O w c2 (p x)
theorem VX{x:Operand}{X f ft off sz:Nat}{S:GR γ}(hS:S.agg=true){r:GR α}(hr:r.fits){p:γ->α}{O:zR}{y:γ}(aM:zFJ S off r p)(hF:Fld P X f ft off sz){u:Value}(hu:a.eval x=u)(hx:(SP.ptr S O y).holds w u) :
  Ok P ⟨d,.fieldAddr X x f,T,pos,aft,g⟩ a w (SP.ptr r O (p y)).holds:=by
 obtain⟨v,h1,cs,h2,h3⟩:=hx;obtain⟨c1,c2,c3,h4,h5,h6⟩:=aM h2;rw[hS]at h3;simp only[yD]at h3;subst h3;have hv:r.v O w (yD r.agg c2) (p y):=⟨c2,h6,rfl⟩
 obtain⟨cs',h7,h8,h9⟩:=r.cells hr hv;have bU:(yD r.agg c2).cells=c2.toArray:=j6 (fun ha=>by rw[r.len h6,hr ha]) (r.one h6)
 intro K Q hK;refine tJ (y:=yD r.agg c2) hF hu h1 (fun j hj=>?_) K Q fun p' w' hE hp=>hK p' w' hE ⟨_,hp,r.KD hv hE⟩
 grind
theorem mR{O:zR}{u u':Value}{vs vs':List Value}(h:EJ O w u vs)(hu:∀g,vs'≠[]->u'.ownBlock=some g->vs≠[]/\u.ownBlock=some g):EJ O w u' vs':=fun hv g hg=>by
 obtain⟨h1,h2⟩:=hu g hv hg;exact h h1 g h2
theorem Ae{x h:Operand}{X e:TypeId}{r:GR α}{O:zR}{xs ys:List α}{n:Int}{k:IntKind}{m:Nat}{z sz by_ dd z' E by_'}(hT:Ty P X (.slice e) z sz by_)(he:Ty P e dd z' E by_')(hE:r.sz=E){u:Value}(hu:a.eval x=u)(hx:(rSl r).v O w u xs)(hh:a.eval h=.int k n)(hr:(sub xs 0 n).run m=some ys) :
  Ok P ⟨d,.slice X x none (some h) none,T,pos,aft,g⟩ a w (SP.vl (rSl r) O ys).holds:=by
 obtain⟨⟨h1,h2,h3⟩,h4⟩:=jh hr;obtain⟨vs,s1,s2,s3⟩:=Yk.1 hx;subst hE;have fA:=s2.len
 obtain⟨p,c,hu',hc⟩:=s1.slice;have e4:ys=xs.take n.toNat:=h4.symm
 rw[hu']at s1 s3 hu;refine vC (v:=.slice p n.toNat c) (w':=w) ?_ (Ext.refl w) (Yk.2 ⟨vs.take n.toNat,s1.take (by omega),by rw[e4];exact s2.take _,mR s3 fun g hv hg=>⟨fun e=>hv (by grind),by
   cases p with
   |none=>grind [Value.ownBlock]
   |some q=>grind [Value.ownBlock]⟩⟩)
 have h1':n<=(c:Int):=by omega
 simp[execOp,Instr.sliceAt,Instr.slice,Instr.sliceBounds,hu,hh,hT.gf,he.zy,gY h2 h1'];simp[Addr.add]
theorem Ad{x l:Operand}{X e:TypeId}{r:GR α}{O:zR}{xs ys:List α}{n:Int}{k:IntKind}{m:Nat}{z sz by_ dd z' E by_'}(hT:Ty P X (.slice e) z sz by_)(he:Ty P e dd z' E by_')(hE:r.sz=E){u:Value}(hu:a.eval x=u)(hx:(rSl r).v O w u xs)(hl:a.eval l=.int k n)(hr:(sub xs n xs.length).run m=some ys) :
  Ok P ⟨d,.slice X x (some l) none none,T,pos,aft,g⟩ a w (SP.vl (rSl r) O ys).holds:=by
 obtain⟨⟨h1,h2,h3⟩,h4⟩:=jh hr;obtain⟨vs,s1,s2,s3⟩:=Yk.1 hx;subst hE;have fA:=s2.len
 have e4:ys=xs.drop n.toNat:=by simp_all
 obtain⟨p,c,hu',hc⟩:=s1.slice;rw[hu']at s1 s3 hu;refine vC (v:=_) (w':=w) ?_ (Ext.refl w) (Yk.2 ⟨vs.drop n.toNat,s1.drop (m:=n.toNat) (by omega),by rw[e4];exact s2.drop _,mR s3 fun g hv hg=>⟨fun e=>hv (by grind),?_⟩⟩)
 ·simp[execOp,Instr.sliceAt,Instr.slice,Instr.sliceBounds,hu,hl,hT.gf,he.zy,gY h1 (show n<=(vs.length:Int) by omega)]
 ·cases p with
  |none=>simp_all [Value.ownBlock]
  |some ad=>grind [Value.ownBlock,Addr.add]
theorem p6{x l h:Operand}{X e:TypeId}{r:GR α}{O:zR}{xs ys:List α}{n n':Int}{k k':IntKind}{m:Nat}{z sz by_ dd z' E by_'}(hT:Ty P X (.slice e) z sz by_)(he:Ty P e dd z' E by_')(hE:r.sz=E){u:Value}(hu:a.eval x=u)(hx:(rSl r).v O w u xs)(hl:a.eval l=.int k n)(hh:a.eval h=.int k' n')(hr:(sub xs n n').run m=some ys) :
  Ok P ⟨d,.slice X x (some l) (some h) none,T,pos,aft,g⟩ a w (SP.vl (rSl r) O ys).holds:=by
 obtain⟨⟨h1,h2,h3⟩,h4⟩:=jh hr;obtain⟨vs,s1,s2,s3⟩:=Yk.1 hx;subst hE;have fA:=s2.len
 obtain⟨p,c,hu',hc⟩:=s1.slice;rw[hu']at s1 s3 hu;have hl':(vs.take n'.toNat).length=n'.toNat:=by grind
 have s1':SlV w r.sz (.slice p (vs.take n'.toNat).length c) (vs.take n'.toNat):=by rw[hl'];exact s1.take (by omega)
 have s1'':=s1'.drop (m:=n.toNat) (by omega)
 refine vC (v:=_) (w':=w) ?_ (Ext.refl w) (Yk.2 ⟨(vs.take n'.toNat).drop n.toNat,s1'',by rw[<-h4];exact(s2.take _).drop _,mR s3 fun g hv hg=>⟨fun e=>hv (by grind),?_⟩⟩)
 ·have h5:n<=(n'.toNat:Int):=by omega
  have h6:n'<=(c:Int):=by omega
  simp only[execOp,Instr.sliceAt,Instr.slice,Instr.sliceBounds,hu,hl,hh,hT.gf,he.zy,gY (show 0<=n' by omega) h6,gY h1 h5,Sem.run_bind,Result.andThen,hl',Option.map_some,Option.elim]
  simp[hu,hl,hh,hT.gf,he.zy,gY (show 0<=n' by omega) h6,gY h1 h5]
 ·cases p with
  |none=>simp_all [Value.ownBlock]
  |some ad=>grind [Value.ownBlock,Addr.add]
end ops
end Go.Lift
end
section
namespace Go.Lift
open Go Go.RowKit Go.Eng
variable {α β γ δ ε:Type}
def IL(P:Program)(u:Value)(args:Array Value)(w:World)(φ:World->Value->Prop):Prop :=
 ∃f xs,(Deferred.ofValue u args >>= fun d=>invoke d.target d.args).run P w=.ok (.enter f xs) w/\Pure P f xs w φ
theorem Xm{P:Program}{f:FuncId}{fst cap args:Array Value}{w:World}{φ:World->Value->Prop}(hf:FnOk P f)(h:Pure P f (fst++args++cap) w φ):IL P (.func (.func f) fst cap) args w φ:=by
 obtain⟨fn,h1,h2,h3⟩:=hf.h;refine⟨f,_,?_,h⟩;simp only[Deferred.ofValue,Sem.run_bind,Sem.run_pure,Result.andThen,invoke,callFunc,run_program,h1];simp[h2,h3]
abbrev RS(β:Type):=zR->Nat->β->SP
def RS.v(r:GR β):RS β:=fun O _ y=>SP.vl r O y
def RS.c(enc:β->Value):RS β:=fun _ _ y=>SP.isv (enc y)
section ops
variable {P:Program} {a:Act} {w:World} {d:Option Tmp} {T:TypeId} {pos:String} {aft:Array Edge} {g:Option (Nat×Bool)}
theorem yR{o:Oper}{φ ψ:World->Value->Prop}(h:Ok P o a w φ)(hw:∀w' v,Ext w w'->φ w' v->ψ w' v):Ok P o a w ψ:=fun K Q hK=>h K Q fun v w' hE hv=>hK v w' hE (hw w' v hE hv)
theorem tI{X e E n B:Nat}{r:GR α}(hr:r.fits)(hE:r.sz=E+1){O:zR}(hO:OkO O w){vs:List Value}{xs:List α}{parts:Array (Nat×Operand)}{z sz by_ dd z' by_'}(hT:Ty P X (.slice e) z sz by_)(he:Ty P e dd z' (E+1) by_')(hB:B<=w.heap.size)
  (hp:Parts a 0 parts.toList vs) (hv:y5 r O w vs xs) (hn:vs.length=n) (hs:n * (E+1)<=16777216) :
  Ok P ⟨d,.buildSlice X n parts,T,pos,aft,g⟩ a w (fun w v=>(SP.UO r e B O xs).holds w v/\∃b,v=.slice (some ⟨b,0,none⟩) n n):=by
 have hp':(parts.map fun (i,x)=>(i,a.eval x))=(gy 0 vs).toArray:=by
  have:=Nk hp;omega
 intro K Q hK;refine rQ (B:=w.heap.size) hT he (zLb _) hp' (fun x hx=>by rw[hv.size hr x hx,hE]) hn hs K Q fun v w' hE' hv'=>hK v w' hE' ⟨⟨vs,?_,?_⟩,hv'.2⟩
 ·rw[hE];exact hv'.1.mono hB
 ·refine hv.mono ⟨hE'.size,fun b hb ho=>⟨?_,hE'.block b hb⟩⟩
  rw[gH (fun e=>by have:=hv'.1.JO b e;omega)];exact ho
theorem Bf{x y:Operand}{X e E B bytes:Nat}{r:GR α}(hE:r.sz=E+1){O:zR}{k k':IntKind}{m:Int}{zx:α}{ys:List α}{nf:Nat}{z sz by_ dd z'}(hT:Ty P X (.slice e) z sz by_)(he:Ty P e dd z' (E+1) bytes)(aD:bytes<=131072)(hz:z'.cells.size=E+1)(hB:B<=w.heap.size)
  (hx:a.eval x=.int k m) (hy:a.eval y=.int k' m) (hzx:∀O w,r.v O w z' zx) (h:(mk m zx).run nf=some ys) :
  Ok P ⟨d,.makeSlice X x y,T,pos,aft,g⟩ a w (SP.UO r e B O ys).holds:=by
 obtain⟨⟨h0,h1⟩,h2⟩:=run_mk h;unfold LIM at h1;intro K Q hK;have hb:bytes * m.toNat<=131072 * 1073741824:=Nat.mul_le_mul aD (by omega)
 refine Nv (B:=B) (n:=m.toNat) hT he hz hB hx hy (by omega) (by omega) (by omega) K Q fun v w' hE' hv'=>hK v w' hE' ⟨_,by rw[hE];exact hv',by grind [y5.replicate]⟩
theorem pG{x y:Operand}{X e E B bytes:Nat}{r:GR α}(hE:r.sz=E+1){O:zR}{k k':IntKind}{m:Int}{u:Unit}{nf:Nat}{z sz by_ dd z'}(hT:Ty P X (.slice e) z sz by_)(he:Ty P e dd z' (E+1) bytes)(aD:bytes<=131072)(hB:B<=w.heap.size)
  (hx:a.eval x=.int k 0) (hy:a.eval y=.int k' m) (h:(if 0<=m/\m<=LIM then Comp.pure () else Comp.fail).run nf=some u) :
  Ok P ⟨d,.makeSlice X x y,T,pos,aft,g⟩ a w (SP.UO r e B O ([]:List α)).holds:=by
 split at h
 ·rename_i h1
  unfold LIM at h1;intro K Q hK;have hb:bytes * m.toNat<=131072 * 1073741824:=Nat.mul_le_mul aD (by omega)
  have hm:m=((m.toNat:Nat):Int):=by omega
  refine Nw (B:=B) (n:=m.toNat) hT he hB hx (hy.trans (by rw[<-hm])) (by omega) (by omega) K Q fun v w' hE' hv'=>hK v w' hE' ⟨[],by rw[hE];exact hv',trivial⟩
 ·cases h
end ops
section tails
variable {P:Program} {a:Act} {w:World} {T:TypeId} {pos:String} {aft:Array Edge} {ops:Array Oper} {Q:Exit->Act->World->Prop} {rest:List Oper} {A:Nat->Prop}
structure OkB(A:Nat->Prop)(w0:World)(B:Nat->Prop):Prop where
 sub:∀g,B g->A g
 new:∀g,w0.heap.size<=g->B g
theorem N0{A:Nat->Prop}{O0 O:zR}{w0 w:World}(h:Base A O0 w0 O w):OkB A w0 A:=⟨fun _ h=>h,h.new⟩
theorem zDa{A:Nat->Prop}{O0 O:zR}{w0 w:World}(h:Base A O0 w0 O w):OkB A w0 (Fr w0):=⟨h.new,fun _ h=>h⟩
theorem wY{O0 O:zR}{w0 w w':World}{u u':Value}(hB:Base A O0 w0 O w)(sY:OkO O0 w0)(hA:Appd w w' u u')(hb:∀g,u.ownBlock=some g->A g){k:Nat}(hk:k≠0)(hu:∀g,u'.ownBlock=some g->g<w'.heap.size)(ht:∀g,u.ownBlock=some g->O g=k) :
  Base A O0 w0 (tag O u'.ownBlock k) w'/\KX (some k) O w (tag O u'.ownBlock k) w':=by
 have hs:=hB.size;have aN:=hA.by_.size
 have h1:Base A O0 w0 O w':=⟨hA.by_.os.trans hB.os,hA.by_.tape.trans hB.tape,hA.by_.output.trans hB.output,by omega,fun b gF bY=>(hA.by_.block b (by omega) (fun e=>bY (hb b e.symm))).trans (hB.block b gF bY),
  fun b hb'=>hB.ok b (by omega),hB.old,fun b _ ho=>by
   by_cases gF:b<w.heap.size
   ·exact hB.zero b gF ho
   ·exact sY b (by omega),hB.new⟩
 refine⟨h1.tag hk fun g hg=>⟨?_,hu g hg⟩,aN,fun b gF eX=>?_⟩
 ·rcases hA.at_ with h8|h8
  ·grind
  ·exact hB.new g (by grind)
 ·have fD:u.ownBlock≠some b:=fun e=>eX (by grind)
  refine⟨gH fun e=>?_,hA.by_.block b gF (Ne.symm fD)⟩
  rcases hA.at_ with h8|h8
  ·grind
  grind
theorem Dl{x i:Operand}{X e E k:Nat}{r:GR α}(hE:r.sz=E){B:Nat->Prop}{O:zR}{xs:List α}{u:Value}{kk:IntKind}{m:Int}{d:Option Tmp}{g:Option (Nat×Bool)}{z sz by_ dd z' by_'}(hT:Ty P X (.slice e) z sz by_)(he:Ty P e dd z' E by_')(hxu:a.eval x=u)(hO:zo k r e B O w u xs)(hi:a.eval i=.int kk m)(hm:0<=m/\m<xs.length) :
  Ok P ⟨d,.indexAddr X x i,T,pos,aft,g⟩ a w (SP.elt u (m.toNat * E)).holds:=by
 obtain⟨vs,h1,h2,h3⟩:=hO;have:=h2.len
 grind [Ai]
end tails
theorem Zo.nil(r:GR α)(T B:Nat)(O:zR)(w:World):Zo r T B O w (.slice none 0 0) []:=⟨[],OwnS.nil _ _ _ _,trivial⟩
section
variable {A:Nat->Prop}
theorem zBc{O0 O:zR}{w0 w w':World}(sY:OkO O0 w0)(hB:Base A O0 w0 O w)(hE:Ext w w'){r:GR α}{T B:Nat}{u:Value}{xs:List α}(h:Zo r T B O w' u xs)(hb:B=w.heap.size)(k:Nat)(hk:k≠0) :
  ∃O',Base A O0 w0 O' w'/\KX none O w O' w'/\zo k r T (Fr w0) O' w' u xs:=by
 subst hb;have hs:=hB.size
 refine⟨tag O u.ownBlock k,(hB.step hE sY).tag hk fun g hg=>?_,KX.tag hE fun g hg=>(h.ge g hg).1,h.own k hk fun g hg=>by unfold Fr;omega⟩
 have:=h.ge g hg;exact⟨hB.new g (by omega),by omega⟩
theorem zEQ{O0 O:zR}{w0 w w':World}(sY:OkO O0 w0)(hB:Base A O0 w0 O w)(hE:Ext w w'){cs:Array Value}{T:Nat}{u:Value}(h:(SP.box w.heap.size cs T).holds w' u)(k:Nat)(hk:k≠0) :
  ∃O' b,Base A O0 w0 O' w'/\KX none O w O' w'/\u=.pointer (some ⟨b,0,none⟩)/\OwnB k (Fr w0) O' w' b cs T:=by
 obtain⟨b,h1,h2,h3⟩:=h;have hs:=hB.size
 refine⟨tag O (some b) k,b,(hB.step hE sY).tag hk fun g hg=>?_,KX.tag hE fun g hg=>?_,h2,h3,by unfold Fr;omega,yk _ _ _⟩
 ·cases hg;exact⟨hB.new _ (by omega),h3.lt⟩
 grind
theorem V4{O0 O:zR}{w0 w:World}(sY:OkO O0 w0)(hB:Base A O0 w0 O w){k:Nat}{r:GR α}{T:Nat}{u:Value}{xs:List α}(h:zo k r T (Fr w0) O w u xs)(hk:k≠0) :
  ∃O',Base A O0 w0 O' w/\KX (some k) O w O' w/\(rSl r).v O' w u xs :=
 ⟨_,hB.SV sY (fun g hg=>hB.new g (h.ge g hg).1) (fun g hg gF=>zLp (h.ge g hg).1 (by unfold Fr;omega)),KX.free h.tagged,h.freeze hk⟩
end
theorem tX{r:GR α}(hr:r.fits){O w u x}(h:(KV r).v O w u x):(SP.ptr r O x).holds w u:=by
 obtain⟨cs,⟨b,cs',T,h1,h2,h3,h4⟩,hu⟩:=h;rw[h1]at hu;simp[KV,yD]at hu;have hv:r.v O w (yD r.agg cs') x:=⟨cs',h4,rfl⟩
 have hc:(yD r.agg cs').cells=cs'.toArray:=j6 (fun ha=>by rw[r.len h4,hr ha]) (r.one h4)
 exact⟨_,⟨b,0,hu,fun j hj=>by rw[hc]at hj |-;rw[h2.cell];simp⟩,hv⟩
instance:Inhabited (Comp α):=⟨Comp.fail⟩
def ZT(cs:List Value)(off:Nat)(vs:List Value):List Value:=cs.take off++(vs++cs.drop (off+vs.length))
theorem tQ{cs vs:List Value}{off:Nat}(h:off+vs.length<=cs.length)(j:Nat):(ZT cs off vs)[j]?=if off<=j/\j<off+vs.length then vs[j-off]? else cs[j]?:=by
 unfold ZT;have e:(cs.take off).length=off:=by grind
 grind
theorem py(off:Nat)(vs:List Value)(cs:Array Value)(h:off+vs.length<=cs.size) :
  (vs.zipIdx.foldl (fun cs (p:Value×Nat)=>cs.setIfInBounds (off+p.2) p.1) cs).toList=ZT cs.toList off vs:=by
 apply List.ext_getElem?;simp_all [tQ,wH]
inductive Fill(pl:Nat->Option (Nat×Nat)):List Value->List (Nat×Value)->List Value->Prop
 |nil {cs}:Fill pl cs [] cs
 |cons {i v vs off n cs rest out} (hp:pl i=some (off,n)) (hc:v.cells=vs.toArray) (hn:vs.length=n) (ho:off+n<=cs.length) (h:Fill pl (ZT cs off vs) rest out):Fill pl cs ((i,v)::rest) out
theorem Fill.run{pl:Nat->Option (Nat×Nat)}:∀ {cs:List Value} {ps:List (Nat×Value)} {out:List Value},Fill pl cs ps out->∀ca:Array Value,ca.toList=cs->Instr.fill pl ca ps=some out.toArray:=by
 intro cs ps out h
 induction h with
 |nil=>intro ca nB;simp[Instr.fill,<-nB]
 | @cons i v vs off n cs rest out hp hc hn ho h ih =>
  intro ca nB;have hs:ca.size=cs.length:=by grind
  simp_all [Instr.fill,py]
structure Plc(P:Program)(X:TypeId)(ps:Array (Nat×Nat)):Prop where
 u:P.underlying X=some (.struct (P.fieldsOf X))
 h:∀w:World,((P.fieldsOf X).mapM fun f=>(do pure (f.offset,<-sizeOf f.type):Sem (Nat×Nat))).run P w=.ok ps w
section ops
variable {P:Program} {a:Act} {w:World} {d:Option Tmp} {T:TypeId} {pos:String} {aft:Array Edge} {g:Option (Nat×Bool)}
theorem pI{x:Operand}{ad:Addr}(hx:a.eval x=.pointer (some ad)):Ok P ⟨d,.nilCheck x,T,pos,aft,g⟩ a w (SP.isv (.pointer (some ad))).holds:=zj (by
 simp[execOp,hx,Instr.sureAddr])
theorem Ix{X:TypeId}{ps:Array (Nat×Nat)}(hP:Plc P X ps){dd z sz by_}(hT:Ty P X dd z sz by_){parts:Array (Nat×Operand)}{uP:List (Nat×Value)}(hv:parts.toList.map (fun p=>(p.1,a.eval p.2))=uP){zc out:List Value}(hz:z.cells=zc.toArray)(hf:Fill (ps[·]?) zc uP out){v:Value}(he:.agg out.toArray=v) :
  Ok P ⟨d,.build X parts,T,pos,aft,g⟩ a w (SP.isv v).holds:=by
 have h1:=hP.u;have h2:=hP.h
 subst he;refine zj ?_;have e1:(parts.map fun (i,x)=>(i,a.eval x)).toList=uP:=by simp_all
 have hu:(underlying X).run P w=.ok (.struct (P.fieldsOf X)) w:=by simp[underlying,h1]
 simp only[execOp,Instr.build,Sem.run_bind,hT.kc,hu,Result.andThen,h2,e1,hf.run z.cells (by rw[hz])]
 simp
theorem Af{x:Operand}{X X':TypeId}{dd z sz by_}{b off:Nat}{l1 vs l2:List Value}{cs:Array Value}(hT:Ty P X dd z sz by_)(hd:vN dd=true)(hx:a.eval x=.pointer (some ⟨b,off,none⟩))(hO:Own w b cs X')(hc:cs.toList=l1++(vs++l2))(ho:l1.length=off)(hs:vs.length=sz) :
  Ok P ⟨d,.load X x,T,pos,aft,g⟩ a w (SP.isv (.agg vs.toArray)).holds:=by
 refine KR hT hd (u:=.pointer (some ⟨b,off,none⟩)) hx ⟨b,off,rfl,fun j hj=>?_⟩ (by omega)
 simp only[Value.cells,List.size_toArray]at hj |-;rw[hO.cell];rw[<-Array.getElem?_toList,hc,zLo (by omega),zLn (by omega)]
 grind
end ops
theorem Xo{P:Program}{T b off:Nat}:∀(l:List Value) (i:Nat) (w:World) (cs:Array Value),(∀v∈l,v.oneCell'=true)->Own w b cs T->off+i+l.length<=cs.size ->
  ∃w' cs',(storeCells ⟨b,off,none⟩ l i).run P w=.ok () w'/\Own w' b cs' T/\cs'.size=cs.size/\(∀j,cs'[j]?=if off+i<=j/\j<off+i+l.length then l[j-(off+i)]? else cs[j]?) /\
   w'.os=w.os/\w'.tape=w.tape/\w'.output=w.output/\w'.heap.size=w.heap.size/\∀k,k≠b->w'.heap[k]?=w.heap[k]?
 | [],i,w,cs,_,hO,_=>⟨w,cs,rfl,hO,rfl,fun j=>by grind,rfl,rfl,rfl,rfl,fun _ _=>rfl⟩
 |v::l,i,w,cs,h1,hO,hs=>by
   simp only[zLh]at hs;have hi:off+i<cs.size:=by omega
   have hc:w.cell? ⟨b,off+i,none⟩=some cs[off+i]:=by rw[hO.cell,Array.getElem?_eq_getElem hi]
   obtain⟨w',cs',h2,h3,h4,h5,h6,h7,h8,h9,cZ⟩:=Xo (P:=P) (off:=off) l (i+1) (w.setCell ⟨b,off+i,none⟩ v) _ (fun x hx=>h1 x (by grind)) (hO.set (off+i) v) (by grind)
   refine⟨w',cs',?_,h3,by grind,fun j=>?_,h6,h7,h8,by simp_all,fun k hk=>?_⟩
   ·have e:(⟨b,off,none⟩:Addr).add i=⟨b,off+i,none⟩:=by rw[kC]
    simp only[storeCells,Sem.run_bind,e,run_store _ _ _ _ _ (h1 v (by simp)),hc,hO.frozen (off+i) hi]
    exact h2
   ·rw[h5 j,zLh]
    by_cases hj:j=off+i
    ·grind
    grind
   ·rw[cZ k hk]
    unfold World.setCell;grind
section tails
variable {P:Program} {a:Act} {w:World} {T:TypeId} {pos:String} {aft:Array Edge} {ops:Array Oper} {Q:Exit->Act->World->Prop} {rest:List Oper}
end tails
theorem ZQ{k:Nat}{r:GR α}{T B O w u xs}(h:zo k r T B O w u xs):u.oneCell'=true:=by
 obtain⟨vs,h1,_⟩:=h;obtain⟨a,cap,h2,_⟩:=h1.slv;rw[h2];rfl
section ops
variable {P:Program} {a:Act} {w:World} {d:Option Tmp} {T:TypeId} {pos:String} {aft:Array Edge} {g:Option (Nat×Bool)}
end ops
end Go.Lift
end
section
namespace Go.Eng
open Go Go.RowKit
variable {D:List Deferred}
structure InvJ(E:World->World->Prop)(J:(Nat->Bool)->Act->World->Prop)(N:Nat)(D:List Deferred)(os:List Oper)(Φ:Z9)(cs:List Bool)(a:Act)(w:World)(S:Nat->Bool)(a':Act)(w':World):Prop where
 fit:a'.fitD N D
 ext:E w w'
 Xz:∀t,KZ os Φ cs a S t w' (a'.get t)
 inv:J S a' w'
def yh(S:Nat->Bool)(i:Nat):Nat->Bool:=fun j=>S j || Nat.beq j i
def zAP(E:World->World->Prop)(J:(Nat->Bool)->Act->World->Prop)(P:Program)(os:List Oper)(Φ:Z9)(cs:List Bool)(a:Act)(w:World)(i:Nat)(o:Oper):Prop :=
 ∀S a' w',E w w'->J S a' w'->S i=false->(∀k,((bitsOf os).getD k 0).testBit i=true->S k=false)->(∀e∈o.after,Region.binds .any e=true->S e.on=true) ->
  (∀t,XL o t=true->KZ os Φ cs a (fun j=>Nat.blt j i) t w' (a'.get t))->act os cs i=true ->
  ∀(K:Act->World->Prop) (Q:Exit->Act->World->Prop),(∀v w'',E w' w''->J (yh S i) (a'.put o.dst v) w''->pred Φ i w'' v->K (a'.put o.dst v) w'')->o.wp P a' w' K Q
theorem Bs{E:World->World->Prop}{J:(Nat->Bool)->Act->World->Prop}(ht:∀a b c,E a b->E b c->E a c){N:Nat}{os:List Oper}{Φ:Z9}{cs:List Bool}{a:Act}{w:World}{S:Nat->Bool}{a':Act}{w' w'':World}
  (kA:zz N os=true) (fF:Go.Eng.Good E os Φ cs) (hI:InvJ E J N D os Φ cs a w S a' w') (hd:yH os S) {i:Nat} {o:Oper} (ho:os[i]?=some o) (hi:S i=false)
  (hE:E w' w'') {v:Value} (hv:Left os Φ cs i w'' v) (hJ:J (yh S i) (a'.put o.dst v) w''):InvJ E J N D os Φ cs a w (yh S i) (a'.put o.dst v) w'':=by
 refine⟨ZS hI.fit _ _,ht _ _ _ hI.ext hE,fun t=>?_,hJ⟩
 by_cases fY:o.dst=some t
 ·have aJ:lw os (yh S i) t=some i:=by
   refine Kf os 0 none (Nat.zero_le _) ⟨o,by omega,by simp[writes,fY]⟩ fun j oj hj sI hw=>?_
   simp at sI;have oH:oj.dst=some t:=by
    unfold writes at hw
    cases hd:oj.dst with
    |none=>grind
    |some d=>simp_all
   have hp:=((zS kA sI).2.1 t oH).2 i o ho (by omega) (.inr fY)
   unfold qt at hp;rw[Nat.max_eq_left (by omega),Nat.min_eq_right (by omega)]at hp
   cases bK:S j with
   |false=>rfl
   |true=>have:=vQ hd hp bK;grind
  unfold KZ;rw[aJ,fY];simp only[];rw[yZ hI.fit ((zS kA ho).2.1 t fY).1];exact hv
 ·have aJ:lw os (yh S i) t=lw os S t:=by
   grind [JI,writes,yh,zU]
  have fB:(a'.put o.dst v).get t=a'.get t:=by
   cases hd:o.dst with
   |none=>rfl
   |some d=>grind [vk]
  have hk:=hI.Xz t;unfold KZ at hk |-;rw[aJ,fB]
  cases hl:lw os S t with
  |none=>grind
  |some j =>
   rw[hl]at hk;exact⟨fun h=>fF.qk _ _ _ _ hE (hk.on h),hk.off⟩
theorem pP{E:World->World->Prop}{J:(Nat->Bool)->Act->World->Prop}(hr:∀w,E w w)(ht:∀a b c,E a b->E b c->E a c){P:Program}{Q:Exit->Act->World->Prop}{N:Nat}{os:List Oper}{Φ:Z9}{cs:List Bool}{a:Act}{w:World}{S:Nat->Bool}{a':Act}{w':World}
  (sJ:∀(i:Nat) (o:Oper) S a' w',os[i]?=some o->o.guard≠none->act os cs i=false->S i=false->(∀e∈o.after,Region.binds .any e=true->S e.on=true)->J S a' w'->J (yh S i) (a'.put o.dst undef) w')
  (kA:zz N os=true) (fF:Go.Eng.Good E os Φ cs) (hI:InvJ E J N D os Φ cs a w S a' w') (hd:yH os S) {i:Nat} {o:Oper} (ho:os[i]?=some o) (hi:S i=false)
  (fW:∀e∈o.after,Region.binds .any e=true->S e.on=true) (sB:zAP E J P os Φ cs a w i o)
  (K:Act->World->Prop) (hK:∀a'' w'',InvJ E J N D os Φ cs a w (yh S i) a'' w''->K a'' w'') :
  if Region.wanted o (yielded os.toArray a'.tmps) then o.wp P a' w' K Q else K (a'.put o.dst undef) w':=by
 have dL:yH os (yh S i):=by
  intro j oj e sI he hb hj;simp only[yh,zLx]at hj |-;rcases hj with hj|hj
  ·exact .inl (hd j oj e sI he hb hj)
  simp_all
 have fI:act os cs i=true->o.wp P a' w' K Q:=fun fP =>
  sB S a' w' hI.ext hI.inv hi
   (fun k hk=>by
    cases hS:S k with
    |false=>rfl
    |true=>have:=vQ hd hk hS;grind)
   fW
   (fun t ht=>by
    have:=hI.Xz t;unfold KZ at this |-;grind [H4,JA]) fP K Q
   (fun v w'' hE hJ hv=>hK _ _ (Bs ht kA fF hI hd ho hi hE ⟨fun _=>hv,fun h=>by grind⟩ hJ))
 have hsk:act os cs i=false->o.guard≠none->K (a'.put o.dst undef) w':=fun fP hg =>
  hK _ _ (Bs ht kA fF hI hd ho hi (hr _) ⟨(fun h=>by grind),fun _=>rfl⟩ (sJ i o S a' w' ho hg fP hi fW hI.inv))
 cases hg:o.guard with
 |none =>
  simp_all [Region.wanted,Ks]
 |some p =>
  obtain⟨g,want⟩:=p;obtain⟨_,_,h3⟩:=zS kA ho;obtain⟨_,og,d,cL,fY,aJ⟩:=h3 g want hg;have bR:=hI.Xz d
  unfold KZ at bR;have xS:d∈names os o:=by
   grind [names]
  rw[H4 kA hd ho hi fW xS,aJ]at bR;simp only[]at bR;have fP:=Kr (cs:=cs) (Zt kA) ho hg
  have eS:d<a'.tmps.size:=by rw[hI.fit.size];exact((zS kA cL).2.1 d fY).1
  have fB:a'.tmps[d]?=some (a'.get d):=by
   simp[Act.get,zLv,Array.getElem?_eq_getElem eS]
  have hy:yielded os.toArray a'.tmps g=(match a'.get d with|.bool b=>some b|_=>none):=by
   grind [yielded]
  cases sX:act os cs g with
  |false =>
   have h:=bR.off sX;rw[sX]at fP;have hw:Region.wanted o (yielded os.toArray a'.tmps)=false:=by
    grind [Region.wanted,undef]
   grind
  |true =>
   have h:=fF.guards i o g want ho hg _ _ (bR.on sX);rw[sX,Bool.true_and]at fP;have hw:Region.wanted o (yielded os.toArray a'.tmps)=act os cs i:=by
    grind [Region.wanted]
   grind
theorem zLM{E:World->World->Prop}{J:(Nat->Bool)->Act->World->Prop}(hr:∀w,E w w)(ht:∀a b c,E a b->E b c->E a c){P:Program}{Q:Exit->Act->World->Prop}{N:Nat}{os:List Oper}{Φ:Z9}{cs:List Bool}{a:Act}{w:World}
  (sJ:∀(i:Nat) (o:Oper) S a' w',os[i]?=some o->o.guard≠none->act os cs i=false->S i=false->(∀e∈o.after,Region.binds .any e=true->S e.on=true)->J S a' w'->J (yh S i) (a'.put o.dst undef) w')
  (kA:zz N os=true) (fF:Go.Eng.Good E os Φ cs) (sB:∀i o,os[i]?=some o->zAP E J P os Φ cs a w i o)
  (hQ:∀a' w',InvJ E J N D os Φ cs a w (fun j=>Nat.blt j os.length) a' w'->Q .normal a' w') :
  ∀(fuel:Nat) (listed:Array Bool),listed.size=os.length->os.length<=fuel+(listed.toList.countP (·=true))->yH os (fun j=>listed.getD j false)->∀a' w',InvJ E J N D os Φ cs a w (fun j=>listed.getD j false) a' w' ->
   wpAny P .any os.toArray Q fuel listed a' w':=by
 have full:∀(fuel:Nat) (listed:Array Bool),listed.size=os.length->(∀i,i<os.length->listed.getD i false=true)->∀a' w',InvJ E J N D os Φ cs a w (fun j=>listed.getD j false) a' w'->wpAny P .any os.toArray Q fuel listed a' w':=by
  intro fuel listed hs fH a' w' hI;have tP:Region.ready .any os.toArray listed=[]:=by
   grind [Region.ready,List.filter_eq_nil_iff]
  have oM:(fun j=>listed.getD j false)=(fun j=>Nat.blt j os.length):=by
   grind [za]
  have hQ':Q .normal a' w':=hQ a' w' (by grind)
  cases fuel with
  |zero=>exact⟨tP,hQ'⟩
  |succ fuel=>exact⟨fun _=>hQ',fun i hi=>by grind⟩
 intro fuel
 induction fuel with
 |zero =>
  intro listed hs hc hd a' w' hI;have hc':listed.toList.countP (·=true)=listed.toList.length:=by
   grind
  rw[List.countP_eq_length]at hc';refine full 0 listed hs (fun i hi=>?_) a' w' hI
  have hi':i<listed.size:=by omega
  have aK:=hc' listed[i] (by simp)
  simp_all
 |succ fuel ih =>
  intro listed hs hc hd a' w' hI;by_cases fH:∀i,i<os.length->listed.getD i false=true
  ·grind
  ·have hex:∃i,i<os.length/\listed.getD i false=false/\∀j,j<i->listed.getD j false=true:=by
    have key:∀n,(∀j,j<n->listed.getD j false=true)\/∃i,i<n/\listed.getD i false=false/\∀j,j<i->listed.getD j false=true:=by
     intro n
     induction n with
     |zero=>grind
     |succ n ihn =>
      rcases ihn with h|⟨i,h1,h2⟩
      ·grind
      grind
    grind
   refine⟨fun tP=>?_,fun i hi=>?_⟩
   ·exfalso
    obtain⟨i,gF,hif,hj⟩:=hex;have hrm:i∈Region.ready .any os.toArray listed:=by
     unfold Region.ready;rw[List.mem_filter];refine⟨by grind,?_⟩
     have hl':listed.getD i true=false:=by
      grind
     have ho:os[i]?=some os[i]:=zMD gF;simp only[hl',Bool.not_false,Bool.true_and,List.getElem?_toArray,ho,Option.map_some,Option.getD_some];rw[Array.all_eq_true'];intro e he
     cases hb:Region.binds .any e with
     |false=>rfl
     |true=>simp[hj e.on ((zS kA ho).1 e he hb)]
    grind
   ·unfold Region.ready at hi
    rw[List.mem_filter]at hi;obtain⟨gF,hi⟩:=hi;have gF:i<os.length:=by grind
    have ho:os[i]?=some os[i]:=zMD gF;simp only[zLZ,Bool.not_eq_true',List.getElem?_toArray,ho,Option.map_some,Option.getD_some]at hi;obtain⟨lV,fW⟩:=hi;have hi':i<listed.size:=by omega
    have aK:listed.getD i false=false:=by
     grind
    have hpre':∀e∈os[i].after,Region.binds .any e=true->listed.getD e.on false=true:=by
     grind [Array.all_eq_true']
    have fT:=pP (Q:=Q) hr ht sJ kA fF hI hd ho aK hpre' (sB i _ ho) (wpAny P .any os.toArray Q fuel (listed.setIfInBounds i true)) (fun a'' w'' hI'=>by
     refine ih _ (by grind) ?_ ?_ a'' w'' ?_
     ·have bU:(listed.setIfInBounds i true).toList.countP (·=true)=listed.toList.countP (·=true)+1:=by
       rw[Array.toList_setIfInBounds,List.countP_set (by omega)]
       have:listed[i]=false:=by simpa[zLv,hi'] using aK
       grind
      omega
     ·intro j oj e sI he hb hj
      simp only[getD_set_true _ _ _ hi']at hj |-;simp only[zLx]at hj |-;rcases hj with hj|hj
      ·exact .inl (hd j oj e sI he hb hj)
      ·obtain rfl:=zLY hj
       grind
     ·have:(fun j=>(listed.setIfInBounds i true).getD j false)=yh (fun j=>listed.getD j false) i:=funext fun j=>getD_set_true _ _ _ hi'
      grind)
    unfold wpOp;grind
inductive OblsJ(E:World->World->Prop)(J:(Nat->Bool)->Act->World->Prop)(P:Program)(all:List Oper)(Φ:List SP)(a:Act)(w:World):Nat->List Oper->List SP->Prop
 |nil {i}:OblsJ E J P all Φ a w i [] []
 |cons {i o os φ φs} (h:∀S a' w',E w w'->J S a' w'->S i=false->(∀k,((bitsOf all).getD k 0).testBit i=true->S k=false)->(∀e∈o.after,Region.binds .any e=true->S e.on=true) ->
   (∀t,XL o t=true->XQ all Φ a i t w' (a'.get t))->act all (Φ.map SP.vD) i=true ->
   ∀(K:Act->World->Prop) (Q:Exit->Act->World->Prop),(∀v w'',E w' w''->J (yh S i) (a'.put o.dst v) w''->φ.holds w'' v->K (a'.put o.dst v) w'')->o.wp P a' w' K Q)
   (hs:OblsJ E J P all Φ a w (i+1) os φs):OblsJ E J P all Φ a w i (o::os) (φ::φs)
theorem I3{E J P all Φ a w i os φs}(h:OblsJ E J P all Φ a w i os φs):φs.length=os.length:=by
 induction h with
 |nil=>rfl
 |cons _ _ ih=>grind
theorem J4{E J P all a w}{Φ:List SP}:∀ {i os φs},OblsJ E J P all Φ a w i os φs->(∀j,φs[j]?=Φ[i+j]?)->(∀j,os[j]?=all[i+j]?) ->
  ∀j o,j<φs.length->all[i+j]?=some o->zAP E J P all (Φ.map SP.holds) (Φ.map SP.vD) a w (i+j) o
 |_,_,_,.nil,_,_=>by grind
 |i,_,_,.cons (φ:=φ) h hs,hφ,xC=>by
   intro j o hj ho
   cases j with
   |zero =>
    have h1:=xC 0;simp only[List.getElem?_cons_zero,Nat.add_zero]at h1 ho;rw[ho]at h1;cases h1;have h0:=hφ 0
    simp only[List.getElem?_cons_zero,Nat.add_zero]at h0;have hi:i<Φ.length:=(zLf.1 h0.symm).1
    have hp:pred (Φ.map SP.holds) i=φ.holds:=by
     grind [kf]
    intro S a' w' hE hJ dM aO fW hK fP K Q sZ;refine h S a' w' hE hJ dM aO fW (fun t ht=>(JL (by omega)).1 (hK t ht)) fP K Q fun v w'' h1 h2 h3=>sZ v w'' h1 h2 ?_
    show pred (Φ.map SP.holds) i w'' v
    rw[hp];exact h3
   |succ j =>
    have e:i+(j+1)=i+1+j:=by omega
    rw[e]at ho |-;refine J4 hs (fun j=>?_) (fun j=>?_) j o (by grind) ho
    ·have:=hφ (j+1)
     grind
    ·have:=xC (j+1)
     grind
theorem Nc{E:World->World->Prop}(J:(Nat->Bool)->Act->World->Prop)(hr:∀w,E w w)(ht:∀a b c,E a b->E b c->E a c)(hdr:∀w,E w { w with drawn:=w.drawn+1 }){P:Program}{Q:Exit->Act->World->Prop}{N:Nat}{os:List Oper}{a:Act}{w:World}(Φ:List SP)
  (hA:a.fitD N D) (fZ:AllSt E Φ) (sB:OblsJ E J P os Φ a w 0 os Φ)
  (sJ:∀(i:Nat) (o:Oper) S a' w',os[i]?=some o->o.guard≠none->act os (Φ.map SP.vD) i=false->S i=false->(∀e∈o.after,Region.binds .any e=true->S e.on=true)->J S a' w'->J (yh S i) (a'.put o.dst undef) w')
  (aP:J (fun _=>false) a { w with drawn:=w.drawn+1 }) (kA:zz N os=true) (hg:ZM os Φ=true)
  (hQ:∀a' w',a'.fitD N D->E w w'->(∀t,XQ os Φ a Φ.length t w' (a'.get t))->J (fun j=>Nat.blt j os.length) a' w'->Q .normal a' w'):wpAny P .any os.toArray Q os.toArray.size (Array.replicate os.toArray.size false) a { w with drawn:=w.drawn+1 }:=by
 have fA:=I3 sB;have fF:Go.Eng.Good E os (Φ.map SP.holds) (Φ.map SP.vD):=by
  refine⟨?_,?_⟩
  ·intro i w w' v hE hp
   by_cases hi:i<Φ.length
   ·rw[kf Φ i hi]at hp |-;exact fZ.at i w w' v hE hp
   ·simp[pred,hi]
  ·intro i o g want ho xQ w v hp
   unfold ZM at hg;rw[zME]at hg;have:=hg o (zLe ho)
   rw[xQ]at this;by_cases hi:g<Φ.length
   ·rw[kf Φ g hi]at hp
    grind [SP.lL]
   grind [SP.isBool,undef]
 have eY:(fun j=>(Array.replicate os.toArray.size false).getD j false)=fun _=>false:=by
  funext j
  simp[zLv];grind
 refine zLM (D:=D) (N:=N) (a:=a) (w:=w) hr ht sJ kA fF (fun i o ho=>?_) (fun a' w' hI=>?_) _ _ (by simp) ?_ ?_ _ _ ?_
 ·have hi:i<os.length:=(zLf.1 ho).1
  have:=J4 sB (by simp) (by simp) i o (by omega) (by grind)
  grind
 ·refine hQ a' w' hI.fit hI.ext (fun t=>?_) hI.inv
  have:=hI.Xz t;simp_all [JL]
 ·simp
 ·intro i o e _ _ _ h
  simp[zLv]at h;grind
 ·have h0:=Ja (E:=E) (N:=N) (D:=D) (os:=os) (Φ:=Φ.map SP.holds) (cs:=Φ.map SP.vD) (S:=fun _=>false) (fun _ _=>rfl) hA (hdr w)
  refine⟨h0.fit,?_,?_,?_⟩
  ·grind
  ·rw[eY];exact h0.Xz
  grind
end Go.Eng
end
section
namespace Go.Lift
open Go Go.RowKit Go.Eng
variable {α β γ δ ε:Type}
structure ET(T:Nat->Prop)(B:Nat)(w w':World):Prop where
 os:w'.os=w.os
 tape:w'.tape=w.tape
 output:w'.output=w.output
 size:w.heap.size<=w'.heap.size
 block:∀b,b<w.heap.size->b<B->¬T b->w'.heap[b]?=w.heap[b]?
theorem ET.refl(T:Nat->Prop)(B:Nat)(w:World):ET T B w w:=⟨rfl,rfl,rfl,zLb _,fun _ _ _ _=>rfl⟩
theorem ET.trans{T:Nat->Prop}{B:Nat}{a b c:World}(h:ET T B a b)(k:ET T B b c):ET T B a c :=
 ⟨k.os.trans h.os,k.tape.trans h.tape,k.output.trans h.output,zLg h.size k.size,fun x hx hB hT=>(k.block x (zLm hx h.size) hB hT).trans (h.block x hx hB hT)⟩
def cap(O:zR)(B:Nat):zR:=fun b=>if b<B then O b else 1
theorem N6{O:zR}{w:World}:zb 0 O w (cap O w.heap.size) w:=⟨zLb _,fun b hb ho=>⟨by unfold cap;grind,rfl⟩⟩
theorem GR.cap(r:GR α){O:zR}{w:World}{v:Value}{x:α}(h:r.v O w v x):r.v (Go.Lift.cap O w.heap.size) w v x:=r.yu h N6
theorem QZ{O:zR}{B b:Nat}(h:cap O B b=0):b<B/\O b=0:=by
 grind [cap]
theorem ET.keep{O:zR}{T:Nat->Prop}{B:Nat}{w w':World}(h:ET T B w w')(h0:∀b,T b->O b≠0):zb 0 (cap O B) w (cap O B) w' :=
 ⟨h.size,fun b hb ho=>⟨ho,by obtain⟨h1,h2⟩:=QZ ho;exact h.block b hb h1 (fun e=>h0 b e h2)⟩⟩
def lq(r:GR α)(O:zR)(w:World)(p:Value)(x:α):Prop:=∃b off v,p=.pointer (some ⟨b,off,none⟩)/\O b=0/\r.v O w v x/\∀j,j<v.cells.size->w.cell? ⟨b,off+j,none⟩=v.cells[j]?
theorem lq.keep{r:GR α}{O O':zR}{w w':World}{p:Value}{x:α}(h:lq r O w p x)(hk:zb 0 O w O' w')(hs:0<r.sz)(hr:r.fits):lq r O' w' p x:=by
 obtain⟨b,off,v,h1,h2,h3,h4⟩:=h;have pV:=r.Ze hr h3
 have hb:b<w.heap.size:=by
  grind [World.cell?]
 refine⟨b,off,v,h1,(hk.2 b hb h2).1,r.yu h3 hk,fun j hj=>?_⟩
 grind [pb]
abbrev SP.zHQ(r:GR α)(O:zR)(x:α)(hs:0<r.sz)(hr:r.fits):SP:=.pr (fun w p=>lq r O w p x) (fun _ _ _ hE h=>h.keep (zb.ext hE) hs hr)
theorem lq.ptr{r:GR α}{O:zR}{w:World}{p:Value}{x:α}(h:lq r O w p x):(SP.ptr r O x).holds w p:=by
 obtain⟨b,off,v,h1,h2,h3,h4⟩:=h;exact⟨v,⟨b,off,h1,h4⟩,h3⟩
theorem Wk{S:Nat->Bool}{i j:Nat}(h:Nat.beq j i=false):yh S i j=S j:=by simp[yh,h]
theorem kI(S:Nat->Bool)(i:Nat):yh S i i=true:=by simp[yh]
def zFT(b:Bool)(off:Nat)(v:Value)(cs:Array Value):Array Value:=bif b then cs.setIfInBounds off v else cs
def qy(S:Nat->Bool):List (Nat×Nat×Value)->Array Value->Array Value
 | [],cs=>cs
 |(i,off,v)::l,cs=>qy S l (zFT (S i) off v cs)
theorem KU{S S':Nat->Bool}:∀ {l:List (Nat×Nat×Value)} {cs:Array Value},(∀p∈l,S p.1=S' p.1)->qy S l cs=qy S' l cs
 | [],_,_=>rfl
 |(i,off,v)::l,cs,h=>by
   simp only[qy];have h1:S i=S' i:=h (i,off,v) (by simp)
   rw[h1];exact KU fun p hp=>h p (by grind)
def zAR(k:Nat)(B:Nat->Prop)(O:zR)(b:Nat)(T:TypeId)(cs:Array Value)(l:List (Nat×Nat×Value))(S:Nat->Bool)(w:World):Prop:=OwnB k B O w b (qy S l cs) T
theorem zAR.pure{k:Nat}{B:Nat->Prop}{O:zR}{b:Nat}{T:TypeId}{cs:Array Value}{l:List (Nat×Nat×Value)}{S:Nat->Bool}{w w':World}(h:zAR k B O b T cs l S w)(hE:Ext w w'){i:Nat}(hi:(l.all fun p=>!Nat.beq p.1 i)=true):zAR k B O b T cs l (yh S i) w':=by
 unfold zAR at *;rw[KU (S:=yh S i) (S':=S) fun p hp=>Wk (by grind)]
 exact h.ext hE
section ops
variable {P:Program} {a:Act} {w:World} {d:Option Tmp} {T:TypeId} {pos:String} {aft:Array Edge} {g:Option (Nat×Bool)}
end ops
theorem all_nil{p:β->Prop}:∀x∈([]:List β),p x:=by simp
theorem all_cons{p:β->Prop}{y:β}{l:List β}(h:p y)(hs:∀x∈l,p x):∀x∈y::l,p x:=by
 grind
section ops
variable {P:Program} {a:Act} {w:World} {d:Option Tmp} {T:TypeId} {pos:String} {aft:Array Edge} {g:Option (Nat×Bool)}
theorem wk{r:GR α}(hr:r.fits){O w u x}(h:(KV r).v O w u x):lq r O w u x:=by
 obtain⟨cs,⟨b,cs',T,h1,h2,h3,h4⟩,hu⟩:=h;rw[h1]at hu;simp[KV,yD]at hu;have hv:r.v O w (yD r.agg cs') x:=⟨cs',h4,rfl⟩
 have hc:(yD r.agg cs').cells=cs'.toArray:=j6 (fun ha=>by rw[r.len h4,hr ha]) (r.one h4)
 exact⟨b,0,_,hu,h3,hv,fun j hj=>by rw[hc]at hj |-;rw[h2.cell];simp⟩
theorem Nr{x i:Operand}{X e:TypeId}{r:GR α}(hs:0<r.sz)(hr:r.fits){O:zR}{xs:List α}{y:α}{k:IntKind}{m:Int}{n:Nat}{z sz by_ dd z' E by_'}(hT:Ty P X (.slice e) z sz by_)(he:Ty P e dd z' E by_')(hE:r.sz=E){u:Value}(hu:a.eval x=u)(hx:(rSl r).v O w u xs)(hi:a.eval i=.int k m)(h:(idx xs m).run n=some y) :
  Ok P ⟨d,.indexAddr X x i,T,pos,aft,g⟩ a w (SP.zHQ r O y hs hr).holds:=by
 obtain⟨h0,h1⟩:=Jm h;obtain⟨vs,h2,h3,h4⟩:=Yk.1 hx;obtain⟨v,h5,h6⟩:=h3.get _ _ h1;have gF:m.toNat<vs.length:=(zLf.1 h5).1
 have fD:vs≠[]:=fun e=>by grind
 subst hE;obtain⟨p,cap,e1,e2,e3,e4⟩:=h2;rcases e4 with e4|⟨b,off,hp,hc⟩
 ·grind
 have hEs:=e3 v (zLe h5);have hb:=h4 fD b (by rw[e1,hp];rfl)
 refine vC (v:=.pointer (some ⟨b,off+m.toNat * r.sz,none⟩)) (w':=w) ?_ (Ext.refl w) ⟨b,off+m.toNat * r.sz,v,rfl,hb.2,h6,fun j hj=>?_⟩
 ·have hlt':m<(vs.length:Int):=by omega
  rw[e1,hp]at hu;simp[execOp,Instr.indexAt,asIntOf,hi,hu,hT.gf,he.zy,h0,hlt',kC]
 grind
theorem Ns{x:Operand}{X f ft off sz:Nat}{S:GR γ}(hS:S.agg=true){r:GR α}(hs:0<r.sz)(hr:r.fits){p:γ->α}{O:zR}{y:γ}(aM:zFJ S off r p)(hF:Fld P X f ft off sz){u:Value}(hu:a.eval x=u)(hx:lq S O w u y) :
  Ok P ⟨d,.fieldAddr X x f,T,pos,aft,g⟩ a w (SP.zHQ r O (p y) hs hr).holds:=by
 obtain⟨b,o,v,h1,hb,⟨cs,h2,h3⟩,h4⟩:=hx;obtain⟨c1,c2,c3,e4,e5,e6⟩:=aM h2;rw[hS]at h3;simp only[yD]at h3;subst h3;have bU:(yD r.agg c2).cells=c2.toArray:=j6 (fun ha=>by rw[r.len e6,hr ha]) (r.one e6)
 intro K Q hK;refine ZI hF (hu.trans h1) K Q fun v' w' hE hv=>hK v' w' hE ⟨b,o+off,yD r.agg c2,hv,hb,r.KD ⟨c2,e6,rfl⟩ hE,fun j hj=>?_⟩
 rw[bU]at hj |-;simp only[List.size_toArray]at hj;have h5:=h4 (off+j) (by grind [Value.cells])
 subst e4;simp only[Value.cells,List.getElem?_toArray]at h5 |-;rw[zLo (by omega),zLn (by omega),show off+j-c1.length=j by omega]at h5
 rw[zMD hj]at h5 |-;rw[Nat.add_assoc];exact hE.cell h5
end ops
def AP(r:GR α)(T:Nat)(O:zR)(w:World)(u:Value)(ys:List α)(ψ:Value->Value->Prop):Ending->World->Prop :=
 fun e w'=>∃v u',e=.returned v/\Appd w w' u u'/\Zo r T 0 O w' u' ys/\ψ v u'
theorem zo.arg{k:Nat}{r:GR α}{T B O w u xs}(h:zo k r T B O w u xs)(hk:k≠0):Zo r T 0 O w u xs:=by
 obtain⟨vs,h1,h2,h3⟩:=h;exact⟨vs,h1,h2.mono ⟨zLb _,fun b _ hb=>⟨by grind [gH],rfl⟩⟩⟩
section tails
variable {P:Program} {a:Act} {w:World} {T:TypeId} {pos:String} {aft:Array Edge} {ops:Array Oper} {Q:Exit->Act->World->Prop} {rest:List Oper} {A:Nat->Prop}
end tails
def Ez:Value->Bool
 |.slice p _ _=>p.isNone
 |_=>false
theorem MD{r:GR α}{O w u xs}(hc:Ez u=true)(h:Rd r O w u xs):xs=[]:=by
 obtain⟨vs,⟨p,c,h1,h2,h3,h4⟩,h5⟩:=h;rw[h1]at hc
 cases p with
 |none =>
  have hv:vs=[]:=by
   grind
  subst hv
  cases xs with
  |nil=>rfl
  |cons x xs=>simp[y5]at h5
 |some p=>grind [Ez]
variable {P:Program} {a:Act} {w:World} {T:TypeId} {pos:String} {aft:Array Edge} {g:Option (Nat×Bool)} {d:Option Tmp}
def ins(x:Int):List Int->List Int
 | []=>[x]
 |y::ys=>if x<=y then x::y::ys else y::ins x ys
end Go.Lift
end
section
namespace Go.Eng
open Go Go.RowKit
variable {D:List Deferred}
abbrev SP.tt:SP:=.pr (fun _ _=>True) (fun _ _ _ _ h=>h)
theorem zBQ(E:World->World->Prop):StE E SP.tt:=fun _ _ _ _ h=>h
theorem CJ{os:List Oper}{S:Nat->Bool}(hd:yH os S){i:Nat}{o:Oper}(ho:os[i]?=some o)(fW:∀e∈o.after,Region.binds .any e=true->S e.on=true):yH os (yh S i):=by
 intro j oj e sI he hb hj;simp only[yh,zLx]at hj |-;rcases hj with hj|hj
 ·exact .inl (hd j oj e sI he hb hj)
 simp_all
theorem zFP{E:World->World->Prop}{J:(Nat->Bool)->Act->World->Prop}(hr:∀w,E w w)(ht:∀a b c,E a b->E b c->E a c){P:Program}{Q:Exit->Act->World->Prop}{N:Nat}{os:List Oper}{Φ:Z9}{cs:List Bool}{a:Act}{w:World}
  (sJ:∀(i:Nat) (o:Oper) S a' w',os[i]?=some o->o.guard≠none->act os cs i=false->S i=false->(∀e∈o.after,Region.binds .any e=true->S e.on=true)->J S a' w'->J (yh S i) (a'.put o.dst undef) w')
  (kA:zz N os=true) (fF:Go.Eng.Good E os Φ cs) (sB:∀i o,os[i]?=some o->zAP E J P os Φ cs a w i o)
  (hQ:∀a' w',InvJ E J N D os Φ cs a w (fun j=>Nat.blt j os.length) a' w'->Q .normal a' w') :
  ∀(n i:Nat),i+n=os.length->∀a' w',InvJ E J N D os Φ cs a w (fun j=>Nat.blt j i) a' w'->wpOps P os.toArray Q (List.range' i n) a' w':=by
 intro n
 induction n with
 |zero =>
  intro i hi a' w' hI;obtain rfl:i=os.length:=by omega
  exact hQ a' w' hI
 |succ n ih =>
  intro i hi a' w' hI;have gF:i<os.length:=by omega
  have ho:os[i]?=some os[i]:=zMD gF;have dL:yH os (fun j=>Nat.blt j i):=by
   intro j oj e sI he hb hj;simp only[za,zLr]at hj |-;have:=(zS kA sI).1 e he hb
   omega
  have fT:=pP (Q:=Q) hr ht sJ kA fF hI dL ho (by grind [za]) (fun e he hb=>by
   simp only[za,zLr];exact(zS kA ho).1 e he hb) (sB i _ ho) (wpOps P os.toArray Q (List.range' (i+1) n)) (fun a'' w'' hI'=>by
   refine ih (i+1) (by omega) a'' w'' ?_
   have:(fun j=>Nat.blt j (i+1))=yh (fun j=>Nat.blt j i) i:=funext fun j=>by
    show Nat.blt j (i+1)=(Nat.blt j i || Nat.beq j i)
    grind [za,zU]
   grind)
  rw[List.range'_succ,wpOps];grind
def rM:World->World->Prop:=fun _ _=>True
inductive OblsX(J:(Nat->Bool)->Act->World->Prop)(P:Program)(N:Nat)(D:List Deferred)(all:List Oper)(Φ:List SP)(a:Act):Nat->List Oper->List SP->Prop
 |nil {i}:OblsX J P N D all Φ a i [] []
 |cons {i o os φ φs} (h:∀S a' w',a'.fitD N D->J S a' w'->S i=false->(∀k,((bitsOf all).getD k 0).testBit i=true->S k=false)->(∀k,((bitsOf all).getD i 0).testBit k=true->yh S i k=true) ->
   (∀t,XL o t=true->XQ all Φ a i t w' (a'.get t))->act all (Φ.map SP.vD) i=true ->
   ∀(K:Act->World->Prop) (Q:Exit->Act->World->Prop),(∀v w'',J (yh S i) (a'.put o.dst v) w''->φ.holds w'' v->K (a'.put o.dst v) w'')->o.wp P a' w' K Q)
   (hs:OblsX J P N D all Φ a (i+1) os φs):OblsX J P N D all Φ a i (o::os) (φ::φs)
theorem I2{J P N a}{all:List Oper}{Φ:List SP}{i os φs}(h:OblsX J P N D all Φ a i os φs):φs.length=os.length:=by
 induction h with
 |nil=>rfl
 |cons _ _ ih=>grind
def JX(J:(Nat->Bool)->Act->World->Prop)(N:Nat)(D:List Deferred)(os:List Oper):(Nat->Bool)->Act->World->Prop:=fun S a w=>a.fitD N D/\yH os S/\J S a w
theorem Gy{J:(Nat->Bool)->Act->World->Prop}{P:Program}{N:Nat}{all:List Oper}{Φ:List SP}{a:Act}{w:World}:∀ {i os φs},OblsX J P N D all Φ a i os φs->(∀j,os[j]?=all[i+j]?)->OblsJ rM (JX J N D all) P all Φ a w i os φs
 |_,_,_,.nil,_=>.nil
 |i,o::os,φ::φs,.cons h hs,xC=>by
   refine .cons (fun S a' w' _ hJ dM aO fW hK fP K Q sZ=>?_) (Gy hs fun j=>?_)
   ·have ho:all[i]?=some o:=by have:=xC 0;grind
    have hd:=CJ hJ.2.1 ho fW;refine h S a' w' hJ.1 hJ.2.2 dM aO (fun k hk=>vQ hd hk (by simp[yh,zU])) hK fP K Q fun v w'' h1 h2=>sZ v w'' trivial ⟨ZS hJ.1 _ _,hd,h1⟩ h2
   ·have:=xC (j+1)
    grind
def zHM(P:Program)(ops:Array Oper)(draw:Bool)(Q:Exit->Act->World->Prop)(a:Act)(w:World):Prop:=match draw with
 |true=>wpAny P .any ops Q ops.size (Array.replicate ops.size false) a { w with drawn:=w.drawn+1 }
 |false=>wpOps P ops Q (List.range ops.size) a w
theorem Nb(J:(Nat->Bool)->Act->World->Prop){P:Program}{Q:Exit->Act->World->Prop}{N:Nat}{os:List Oper}{a:Act}{w:World}{draw:Bool}(Φ:List SP)
  (hA:a.fitD N D) (fZ:AllSt rM Φ) (sB:OblsX J P N D os Φ a 0 os Φ)
  (sJ:∀(i:Nat) (o:Oper) S a' w',os[i]?=some o->act os (Φ.map SP.vD) i=false->a'.fitD N D->S i=false->(∀k,((bitsOf os).getD i 0).testBit k=true->yh S i k=true)->J S a' w'->J (yh S i) (a'.put o.dst undef) w')
  (aP:∀w1,Ext w w1->J (fun _=>false) a w1) (kA:zz N os=true) (hg:ZM os Φ=true)
  (hQ:∀a' w',a'.fitD N D->(∀t,XQ os Φ a Φ.length t w' (a'.get t))->J (fun j=>Nat.blt j os.length) a' w'->Q .normal a' w'):zHM P os.toArray draw Q a w:=by
 have hskip':∀(i:Nat) (o:Oper) S a' w',os[i]?=some o->o.guard≠none->act os (Φ.map SP.vD) i=false->S i=false->(∀e∈o.after,Region.binds .any e=true->S e.on=true)->JX J N D os S a' w'->JX J N D os (yh S i) (a'.put o.dst undef) w' :=
  fun i o S a' w' ho _ fP dM fW hJ=>by
   have hd:=CJ hJ.2.1 ho fW;exact⟨ZS hJ.1 _ _,hd,sJ i o S a' w' ho fP hJ.1 dM (fun k hk=>vQ hd hk (by simp[yh,zU])) hJ.2.2⟩
 have hJ:=Gy (w:=w) sB (by simp)
 have nC:yH os (fun _=>false):=fun _ _ _ _ _ _ h=>by cases h
 cases draw with
 |true =>
  exact Nc (E:=rM) (JX J N D os) (fun _=>trivial) (fun _ _ _ _ _=>trivial) (fun _=>trivial) Φ hA fZ hJ hskip' ⟨hA,nC,aP _ (Ext.drawn w)⟩ kA hg
   (fun a' w' h1 _ h2 h3=>hQ a' w' h1 h2 h3.2.2)
 |false =>
  have fA:=I2 sB;have fF:Go.Eng.Good rM os (Φ.map SP.holds) (Φ.map SP.vD):=by
   refine⟨?_,?_⟩
   ·intro i w w' v hE hp
    by_cases hi:i<Φ.length
    ·rw[kf Φ i hi]at hp |-;exact fZ.at i w w' v hE hp
    ·simp[pred,hi]
   ·intro i o g want ho xQ w v hp
    unfold ZM at hg;rw[zME]at hg;have:=hg o (zLe ho)
    rw[xQ]at this;by_cases hi:g<Φ.length
    ·rw[kf Φ g hi]at hp
     grind [SP.lL]
    grind [SP.isBool,undef]
  show wpOps P os.toArray Q (List.range os.toArray.size) a w
  have pV:os.toArray.size=os.length:=by simp
  rw[List.range_eq_range'];have h0:=Ja (E:=rM) (N:=N) (D:=D) (os:=os) (Φ:=Φ.map SP.holds) (cs:=Φ.map SP.vD) (S:=fun j=>Nat.blt j 0) (a:=a) (w:=w) (w':=w) (by grind [za]) hA trivial
  have oM:(fun j=>Nat.blt j 0)=fun _:Nat=>false:=funext fun j=>by grind [za]
  have:=zFP (E:=rM) (J:=JX J N D os) (D:=D) (N:=N) (a:=a) (w:=w) (Q:=Q) (fun _=>trivial) (fun _ _ _ _ _=>trivial) hskip' kA fF (fun i o ho=>by
   have hi:i<os.length:=(zLf.1 ho).1;have:=J4 hJ (by simp) (by simp) i o (by omega) (by grind)
   simpa using this) (fun a' w' hI=>hQ a' w' hI.fit (fun t=>by
    have:=hI.Xz t;rw[<-fA]at this;exact(JL (zLb _)).1 this) hI.inv.2.2) os.length 0 (by simp) a w ⟨h0.fit,h0.ext,h0.Xz,by rw[oM];exact⟨hA,nC,aP w (Ext.refl w)⟩⟩
  omega
def Cv(q:Act->World->Prop):Exit->Act->World->Prop
 |.normal,a,w=>q a w
 |_,_,_=>False
theorem As{P:Program}{Q:Exit->Act->World->Prop}{q:Act->World->Prop}{o:Oper}{a:Act}{w:World}{K:Act->World->Prop}(h:o.wp P a w K (Cv q)\/(o.asks P a w/\LetsOut (Cv q))):o.wp P a w K Q:=by
 rcases h with h|⟨_,_,_,h⟩
 ·refine Au ?_
  unfold Oper.wp at h |-;generalize (execOp a.eval o).run P w=r at h
  cases r with
  |ok x w' =>
   cases x<;>simp only[Oper.upon]at h |- <;>
    first
     |exact h
     |(refine Calls.mono h fun e w'' he=>?_;cases e<;>first|exact he|exact he.elim|(obtain⟨_,_,he⟩:=he;exact he.elim))
  |halt x w'=>cases x<;>simp only[Oper.upon]at h |-<;>exact h.elim
 ·exact h.elim
theorem uW{P:Program}{ops:Array Oper}{W:OpW}{q:Act->World->Prop}(xA:W.Mono)(hW:∀(i:Nat) o,ops[i]?=some o->∀a w K,o.wp P a w K (fun _ _ _=>False)->W o a w K):∀(l:List Nat) (a:Act) (w:World),wpOps P ops (Cv q) l a w->XB W ops q l a w
 | [],_,_,h=>h
 |i::rest,a,w,h=>by
  simp only[XB,gOp,wpOps]at h |-;split
  ·rename_i ho;simp only[ho]at h;exact uW xA hW rest a w h
  ·rename_i o ho
   simp only[ho]at h;split
   ·rename_i hw;rw[zLz hw]at h;exact xA.h _ _ _ _ _ (fun a w=>uW xA hW rest a w) (hW i o ho _ _ _ (As h))
   ·rename_i hw;rw[zMA hw]at h;exact uW xA hW rest _ w h
theorem uX{P:Program}{ops:Array Oper}{W:OpW}{q:Act->World->Prop}(xA:W.Mono)(hW:∀(i:Nat) o,ops[i]?=some o->∀a w K,o.wp P a w K (fun _ _ _=>False)->W o a w K):∀(fuel:Nat) (listed:Array Bool) (a:Act) (w:World),wpAny P .any ops (Cv q) fuel listed a w->D7 W ops q fuel listed a w
 |0,_,_,_,h=>h
 |fuel+1,listed,a,w,h=>⟨h.1,fun i hi=>by
  have h1:=h.2 i hi;unfold wpOp at h1;unfold gOp;split
  ·rename_i ho;simp only[ho]at h1;exact uX xA hW fuel _ a w h1
  ·rename_i o ho
   simp only[ho]at h1;split
   ·rename_i hw;rw[zLz hw]at h1;exact xA.h _ _ _ _ _ (fun a w=>uX xA hW fuel _ a w) (hW i o ho _ _ _ (As h1))
   ·rename_i hw;rw[zMA hw]at h1;exact uX xA hW fuel _ _ w h1⟩
theorem zBY{P:Program}{ops:Array Oper}{W:OpW}{q:Act->World->Prop}(xA:W.Mono)(hW:∀(i:Nat) o,ops[i]?=some o->∀a w K,o.wp P a w K (fun _ _ _=>False)->W o a w K){draw:Bool}{a:Act}{w:World}(h:zHM P ops draw (Cv q) a w):zAA W ops draw q a w:=by
 cases draw with
 |true=>exact uX xA hW _ _ _ _ h
 |false=>exact uW xA hW _ _ _ h
end Go.Eng
end
section
namespace Go.Lift
open Go Go.RowKit Go.Eng
variable {α β γ δ ε:Type}
section tails
variable {P:Program} {a:Act} {w:World} {T:TypeId} {pos:String} {aft:Array Edge} {g0:Option (Nat×Bool)} {K:Act->World->Prop} {Q:Exit->Act->World->Prop} {A:Nat->Prop}
theorem rA{o:Oper}{v:Value}{w':World}(h:(execOp a.eval o).run P w=.ok (.value v) w')(hK:K (a.put o.dst v) w'):o.wp P a w K Q:=by
 unfold Oper.wp;rw[h];exact hK
theorem EM{o:Oper}{w':World}(h:(execOp a.eval o).run P w=.ok .skip w')(hK:K (a.put o.dst undef) w'):o.wp P a w K Q:=by
 unfold Oper.wp;rw[h];exact hK
theorem qI{x y:Operand}{t e E bytes k:Nat}{d0:Option Tmp}{dd:TypeDesc}{z z':Value}{sz by_:Nat}{r:GR α}(hr:r.fits)(hE:r.sz=E+1)(hT:Ty P t (.slice e) z sz by_)(he:Ty P e dd z' (E+1) bytes)(hz:z'.cells.size=E+1)(aD:bytes<=131072)
  {O O0:zR} {w0:World} (sY:OkO O0 w0) (hB:Base A O0 w0 O w) {u:Value} {xs:List α} {B:Nat->Prop} (xD:OkB A w0 B) (hx:a.eval x=u) (hO:zo k r e B O w u xs) {u':Value} {ys zs:List α} (hy:a.eval y=u') (hN:Rd r O w u' ys) {n:Nat} (aQ:(app xs ys).run n=some zs) (hk:k≠0)
  (hK:∀u2 w2 O2,zo k r e B O2 w2 u2 zs->Base A O0 w0 O2 w2->KX (some k) O w O2 w2->K (a.put d0 u2) w2):Oper.wp P ⟨d0,.call ⟨.builtin .append,#[x,y],#[t,t]⟩,T,pos,aft,g0⟩ a w K Q:=by
 obtain⟨hl,hzs⟩:=Gc aQ;unfold LIM at hl;have bA:=hO.tagged
 have tW:=hO.ge;obtain⟨vs,h1,h2,h3⟩:=hO;obtain⟨us,h4,h5⟩:=hN;have dR:=h2.len
 have sS:=h5.len;have hb:(vs.length+us.length) * bytes<=1073741824 * 131072:=Nat.mul_le_mul (by omega) aD
 rw[hE]at h1 h4;obtain⟨u2,w2,fI,h6,h7⟩:=Xp (ty:=T) hT he hz h1 h4 (h5.one hr) (by omega) (by omega) (Nat.zero_le _)
 refine rA (v:=u2) (w':=w2) (by simp[execOp,resolve,invoke,builtin,hx,hy,fI]) ?_
 obtain⟨nF,sP⟩:=wY hB sY h7 (fun g hg=>xD.sub g (tW g hg).1) hk (fun g hg=>h6.gK g hg) bA
 refine hK u2 w2 (tag O u2.ownBlock k) ⟨vs++us,by grind,?_,fun g hg=>⟨by grind [yk],?_⟩⟩ nF sP
 ·rw[<-hzs]
  have k0:=sP.keep (k:=0) (by grind)
  exact(h2.mono k0).append (h5.mono k0)
 ·rcases h7.at_ with h8|h8
  ·grind
  ·exact xD.new g (by have:=h8 g hg;have:=hB.size;omega)
theorem tL{x y:Operand}{X T' b off k:Nat}{O O0:zR}{w0:World}{A B:Nat->Prop}(sY:OkO O0 w0)(hB:Base A O0 w0 O w)(xD:OkB A w0 B){vs:List Value}{cs cs':Array Value}{v:Value}{dd z by_}(hT:Ty P X dd z vs.length by_)(hx:a.eval x=.pointer (some ⟨b,off,none⟩))(hy:a.eval y=v)(hv:v.cells=vs.toArray)(h1:∀v∈vs,v.oneCell'=true)
  (hO:OwnB k B O w b cs T') (ho:off+vs.length<=cs.size) (he:(ZT cs.toList off vs).toArray=cs')
  (hK:∀w',OwnB k B O w' b cs' T'->Base A O0 w0 O w'->KX (some k) O w O w'->K a w'):Oper.wp P ⟨none,.store X x y,T,pos,aft,g0⟩ a w K Q:=by
 obtain⟨w',cs2,h2,h3,h4,h5,h6,h7,h8,h9,cZ⟩:=Xo (P:=P) (off:=off) vs 0 w cs h1 hO.own (by omega)
 have e:cs2=cs':=by
  rw[<-he];apply Array.ext_getElem?;intro j;have hl:cs.toList.length=cs.size:=Array.length_toList
  have e2:=tQ (vs:=vs) (cs:=cs.toList) (off:=off) (by omega) j
  grind
 subst e;have hb:But b w w':=⟨h6,h7,h8,by omega,fun k _ hk=>cZ k hk⟩
 refine EM (w':=w') ?_ (hK w' ⟨h3,hO.ge,hO.tag⟩ (hB.but (xD.sub _ hO.ge) hb sY) (KX.but hb hO.tag));simp[execOp,Instr.storeAt,Instr.sureAddr,hx,hy,storeVar,hv,hT.zy,h2]
theorem AU{x y:Operand}{X E B n:Nat}{vs:List Value}{u p v:Value}{dd z by_}(hT:Ty P X dd z E by_)(hx:a.eval x=p)(hp:nq u (n * E) p)(hO:OwnS w B X E u vs)(hy:a.eval y=v)(hv:v.cells.size=E)(h1:∀c∈v.cells.toList,c.oneCell'=true)(hn:n<vs.length)
  (hK:∀w',OwnS w' B X E u (vs.set n v)->Appd w w' u u->K a w'):Oper.wp P ⟨none,.store X x y,T,pos,aft,g0⟩ a w K Q:=by
 obtain⟨b,hb,rfl⟩:=hp;rcases hO.row.2 with ⟨_,h2⟩|⟨g,cap,cur,hu,mM,hg,dP,dQ,xG,m9⟩
 ·omega
 ·rw[hu]at hb
  simp only[Value.ownBlock,zLw]at hb;subst hb;have hnE:n * E+E<=vs.length * E:=by
   have:(n+1) * E<=vs.length * E:=Nat.mul_le_mul_right _ hn;grind
  have dS:vs.length * E<=cap * E:=Nat.mul_le_mul_right _ dP;obtain⟨w',cs',h2,h3,h4,h5,h6,h7,h8,h9,cZ⟩:=kX (P:=P) (off:=n * E) v.cells.toList 0 w cur h1 hg (by grind)
  refine EM (w':=w') ?_ (hK w' ⟨?_,?_,.inr ⟨g,cap,cs',by grind,mM,h3,by grind,dQ,by omega,?_⟩⟩ ⟨⟨h6,h7,h8,by omega,fun k _ hk=>cZ k (fun e=>hk (by rw[hu,e];rfl))⟩,.inl rfl⟩)
  ·simp[execOp,Instr.storeAt,Instr.sureAddr,hx,hy,storeVar,hv,hT.zy,h2]
  ·intro c hc
   rcases List.mem_or_eq_of_mem_set hc with h|h
   ·exact hO.sz c h
   grind
  ·have hs':∀c∈vs.set n v,c.cells.size=E:=by
    intro c hc;rcases List.mem_or_eq_of_mem_set hc with h|h
    ·exact hO.sz c h
    grind
   rw[yT hs']
  ·apply List.ext_getElem?
   intro j;rw[B7 vs n v hO.sz hv hn j,List.length_set,List.getElem?_take];grind
theorem C9{x y:Operand}{X E k:Nat}{r:GR α}(hr:r.fits)(hE:r.sz=E){O O0:zR}{w0:World}(sY:OkO O0 w0)(hB:Base A O0 w0 O w){B:Nat->Prop}(xD:OkB A w0 B){xs ys:List α}{u p v:Value}{m:Int}{vx:α}{dd z by_}(hT:Ty P X dd z E by_)(hx:a.eval x=p)(hp:nq u (m.toNat * E) p)(hO:zo k r X B O w u xs)(hy:a.eval y=v)(hv:r.v O w v vx){n:Nat}(hupd:(upd xs m vx).run n=some ys)(hk:k≠0)
  (hK:∀w',zo k r X B O w' u ys->Base A O0 w0 O w'->KX (some k) O w O w'->K a w'):Oper.wp P ⟨none,.store X x y,T,pos,aft,g0⟩ a w K Q:=by
 obtain⟨hm,sQ⟩:=U7 hupd;have tW:=hO.ge
 have bA:=hO.tagged;obtain⟨vs,h1,h2,h3⟩:=hO;have fA:=h2.len
 rw[hE]at h1;refine AU hT hx hp h1 hy (by rw[r.Ze hr hv,hE]) (r.cells_one hr hv) (by omega) fun w' h4 h5=>?_
 have sP:KX (some k) O w O w':=⟨h5.by_.size,fun b hb eX=>⟨rfl,h5.by_.block b hb (fun e=>eX (by grind))⟩⟩
 have k0:=sP.keep (k:=0) (by grind)
 have hs:=hB.size;have aN:=h5.by_.size
 refine hK w' ⟨vs.set m.toNat v,by grind,by rw[<-sQ];exact(h2.mono k0).set _ (r.yu hv k0),h3⟩ ?_ sP
 exact⟨h5.by_.os.trans hB.os,h5.by_.tape.trans hB.tape,h5.by_.output.trans hB.output,by omega,fun b hb bY=>(h5.by_.block b (by omega) (fun e=>bY (xD.sub b (tW b e.symm).1))).trans (hB.block b hb bY),
  fun b hb'=>hB.ok b (by omega),hB.old,fun b _ ho=>by
   by_cases gF:b<w.heap.size
   ·exact hB.zero b gF ho
   ·exact sY b (by omega),hB.new⟩
end tails
structure EqR(P:Program)(T:TypeId)(r:GR α)[DecidableEq α](D:Nat):Prop where
 run:∀d w O1 w1 O2 w2 cs ds x y,r.rel O1 w1 cs x->r.rel O2 w2 ds y->(Op.equalIn (d+D) T (yD r.agg cs) (yD r.agg ds)).run P w=.ok (decide (x=y)) w
 part:∀w O1 w1 l1 cs l2 x,r.rel O1 w1 cs x->(part T (l1++(cs++l2)).toArray l1.length).run P w=.ok (yD r.agg cs) w
theorem lP [BEq α][LawfulBEq α][DecidableEq α](a b:α):(a == b)=decide (a=b):=by
 grind
section
variable {P:Program}
theorem mw(l1:List Value)(v:Value)(l2:List Value):(l1++([v]++l2)).toArray[l1.length]?=some v:=by simp
theorem HG{T:TypeId}{k:IntKind}{z sz by_}(h:Ty P T (.int k) z sz by_):EqR P T (Ww k) 1 where
 run:=fun d w O1 w1 O2 w2 cs ds x y h1 h2=>by
  have e1:cs=[.int k x]:=h1;have e2:ds=[.int k y]:=h2
  subst e1;subst e2;show (Op.equalIn (d+1) T (.int k x) (.int k y)).run P w=_
  rw[run_equalIn_int w d T k k x y h.u,lP]
 part:=fun w O1 w1 l1 cs l2 x h1=>by
  have e1:cs=[.int k x]:=h1;subst e1;exact run_part_plain w (by simp[Program.plainKey,h.u]) (mw _ _ _)
theorem CH{T:TypeId}{z sz by_}(h:Ty P T .bool z sz by_):EqR P T Sl 1 where
 run:=fun d w O1 w1 O2 w2 cs ds x y h1 h2=>by
  have e1:cs=[.bool x]:=h1;have e2:ds=[.bool y]:=h2
  subst e1;subst e2;show (Op.equalIn (d+1) T (.bool x) (.bool y)).run P w=_
  rw[run_equalIn_bool' w d T x y h.u,lP]
 part:=fun w O1 w1 l1 cs l2 x h1=>by
  have e1:cs=[.bool x]:=h1;subst e1;exact run_part_plain w (by simp[Program.plainKey,h.u]) (mw _ _ _)
theorem tO(x:vE):(str x).toList=x:=by grind [ByteArray.toList_eq,str]
theorem HF{T:TypeId}{z sz by_}(h:Ty P T .string z sz by_):EqR P T zEm 1 where
 run:=fun d w O1 w1 O2 w2 cs ds x y h1 h2=>by
  have e1:cs=[.string (str x)]:=h1;have e2:ds=[.string (str y)]:=h2
  subst e1;subst e2;show (Op.equalIn (d+1) T (.string (str x)) (.string (str y))).run P w=_
  rw[run_equalIn_string w d T _ _ h.u,tO,tO,lP]
 part:=fun w O1 w1 l1 cs l2 x h1=>by
  have e1:cs=[.string (str x)]:=h1;subst e1;exact run_part_plain w (by simp[Program.plainKey,h.u]) (mw _ _ _)
theorem BZ{T:TypeId}{dd z sz by_}(h:Ty P T dd z sz by_)(hd:vN dd=true)(w:World)(l1 cs l2:List Value)(hl:cs.length=sz):(part T (l1++(cs++l2)).toArray l1.length).run P w=.ok (.agg cs.toArray) w:=by
 have e:(l1++(cs++l2)).toArray.extract l1.length (l1.length+sz)=cs.toArray:=by
  grind
 simp only[part,Sem.run_bind,h.YU,hd,Result.andThen_ok,if_true,h.zy,e,Sem.run_pure]
inductive EqFs(P:Program)(r:GR γ)(D:Nat):List Field->(γ->γ->Bool)->Prop
 |nil:EqFs P r D [] (fun _ _=>true)
 |cons {α:Type} [DecidableEq α] {f:Field} {fs:List Field} {ri:GR α} {p:γ->α} {b:γ->γ->Bool} {Di:Nat} (hn:f.name ≠ "_") (hs:zFJ r f.offset ri p) (he:EqR P f.type ri Di) (hD:Di<=D) (h:EqFs P r D fs b):EqFs P r D (f::fs) (fun x y=>decide (p x=p y) && b x y)
theorem EqFs.run{r:GR γ}{D:Nat}{fs:List Field}{b:γ->γ->Bool}(h:EqFs P r D fs b):∀d w O1 w1 cs x O2 w2 ds y,r.rel O1 w1 cs x->r.rel O2 w2 ds y->(Op.eqFields (d+D) cs.toArray ds.toArray fs).run P w=.ok (b x y) w:=by
 induction h with
 |nil=>simp[Op.eqFields]
 | @cons α _ f fs ri p b Di hn hs he hD h ih =>
  intro d w O1 w1 cs x O2 w2 ds y h1 h2;have hih:=ih d w O1 w1 cs x O2 w2 ds y h1 h2
  obtain⟨a1,a2,a3,ea,la,ra⟩:=hs h1;obtain⟨b1,b2,b3,eb,lb,rb⟩:=hs h2;have p1:=he.part w O1 w1 a1 a2 a3 (p x) ra
  have p2:=he.part w O2 w2 b1 b2 b3 (p y) rb;rw[la,<-ea]at p1;rw[lb,<-eb]at p2;have q:=he.run (d+(D-Di)) w O1 w1 O2 w2 a2 b2 (p x) (p y) ra rb
  rw[show d+(D-Di)+Di=d+D by omega]at q
  simp only[Op.eqFields,hn,ne_eq,not_false_eq_true,if_true,Sem.run_bind,p1,p2,q,Result.andThen_ok,Sem.run_ite];by_cases hxy:p x=p y
  ·grind
  ·simp[hxy]
end
section ops
variable {P:Program} {a:Act} {w:World} {d:Option Tmp} {T:TypeId} {pos:String} {aft:Array Edge} {g:Option (Nat×Bool)}
end ops
section ops
variable {P:Program} {a:Act} {w:World} {d:Option Tmp} {T:TypeId} {pos:String} {aft:Array Edge} {g:Option (Nat×Bool)}
end ops
theorem KX.trans{j:Option Nat}{O O' O'':zR}{w w' w'':World}(h:KX j O w O' w')(k:KX j O' w' O'' w''):KX j O w O'' w'' :=
 ⟨zLg h.1 k.1,fun b hb ho=>by
  obtain⟨h1,h2⟩:=h.2 b hb ho;obtain⟨h3,h4⟩:=k.2 b (zLm hb h.1) (by grind)
  grind⟩
def zFK(k:Nat)(B:Nat->Prop)(O:zR)(w:World)(b:Nat)(T:TypeId)(r:GR α)(x:α):Prop:=∃cs,OwnB k B O w b cs.toArray T/\r.rel O w cs x
theorem zFK.ext{k:Nat}{B:Nat->Prop}{O:zR}{w w':World}{b:Nat}{T:TypeId}{r:GR α}{x:α}(h:zFK k B O w b T r x)(hE:Ext w w'):zFK k B O w' b T r x:=by
 obtain⟨cs,h1,h2⟩:=h;exact⟨cs,h1.ext hE,r.mono (zb.ext hE) h2⟩
section
variable {P:Program} {a:Act} {w:World} {T:TypeId} {pos:String} {aft:Array Edge} {g0:Option (Nat×Bool)} {K:Act->World->Prop} {Q:Exit->Act->World->Prop} {A:Nat->Prop} {ops:Array Oper} {rest:List Oper}
end
theorem Base.rel{A:Nat->Prop}{O Oc:zR}{w0 w:World}(h:Base A O w0 Oc w)(r:GR α){cs:List Value}{x:α}(hr:r.rel Oc w cs x):r.rel O w cs x:=r.mono ⟨zLb _,fun b hb ho=>⟨h.zero b hb ho,rfl⟩⟩ hr
inductive ResAt(P:Program)(a:Act)(w:World):ResultVar->Value->Prop
 |tmp {t:Nat} {v:Value} (h:a.get t=v):ResAt P a w (.tmp t) v
 |agg {t X b X':Nat} {cs:Array Value} {dd z sz by_} (h:a.get t=.pointer (some ⟨b,0,none⟩)) (hT:Ty P X dd z sz by_) (hd:vN dd=true) (hs:cs.size=sz) (hO:Own w b cs X'):ResAt P a w (.cell t X) (.agg cs)
 |one {t X b X':Nat} {v:Value} {dd z sz by_} (h:a.get t=.pointer (some ⟨b,0,none⟩)) (hT:Ty P X dd z sz by_) (hd:vN dd=false) (hO:Own w b #[v] X'):ResAt P a w (.cell t X) v
def lz(a:Act):ResultVar->Sem Value
 |.tmp t=>pure (a.tmps.getD t undef)
 |.cell c t=>do loadVar t (<-asAddr (a.tmps.getD c undef))
theorem ResAt.run{P:Program}{a:Act}{w:World}{r:ResultVar}{v:Value}(h:ResAt P a w r v):(lz a r).run P w=.ok v w:=by
 cases h with
 |tmp h =>
  have e1:a.tmps.getD _ undef=v:=h;simp_all [lz]
 | @agg t X b X' cs dd z sz by_ h hT hd hs hO =>
  subst hs;have e1:a.tmps.getD t undef=.pointer (some ⟨b,0,none⟩):=h
  simp only[zLv]at e1;simp[lz,e1,asAddr,loadVar,hT.YU,hd,hT.zy,_root_.Go.Eng.run_loadCells (P:=P) (w:=w) (b:=b) (off:=0) (cs:=cs) (fun j _=>by rw[hO.cell];simp)]
 | @one t X b X' v dd z sz by_ h hT hd hO =>
  have e1:a.tmps.getD t undef=.pointer (some ⟨b,0,none⟩):=h;simp only[zLv]at e1;have hc:w.cell? ⟨b,0,none⟩=some v:=by rw[hO.cell];rfl
  simp[lz,e1,asAddr,loadVar,hT.YU,hd,hc]
section
variable {P:Program} {a:Act} {w:World} {T:TypeId} {pos:String} {aft:Array Edge} {g:Option (Nat×Bool)} {d:Option Tmp}
end
theorem p9{P:Program}{a:Act}{w:World}{d:Option Tmp}{T:TypeId}{pos:String}{aft:Array Edge}{g:Option (Nat×Bool)}{X e n k:Nat}{z sz by_ dd z' by_'}(hT:Ty P X (.array n e) z sz by_)(he:Ty P e dd z' k by_'){parts:Array (Nat×Operand)}{uP:List (Nat×Value)}(hv:parts.toList.map (fun p=>(p.1,a.eval p.2))=uP){zc out:List Value}(hz:z.cells=zc.toArray)(hf:Fill (fun i=>some (i * k,k)) zc uP out){v:Value}(hev:.agg out.toArray=v) :
  Ok P ⟨d,.build X parts,T,pos,aft,g⟩ a w (SP.isv v).holds:=by
 subst hev;refine zj ?_;have e1:(parts.map fun (i,x)=>(i,a.eval x)).toList=uP:=by simp_all
 simp only[execOp,Instr.build,Sem.run_bind,hT.kc,hT.gf,Result.andThen,he.zy,e1,hf.run z.cells (by rw[hz])]
 simp
end Go.Lift
end
section
namespace Go.Den
open Go Go.RowKit Go.Eng Go.Lift
variable {α β γ δ:Type}
inductive Ty
 |int (k:IntKind)|bool|str|sl (e:Ty)|nil|cons (a b:Ty)|arr (n:Nat) (e:Ty)|box (e:Ty)|fn (a r:Ty)|seq (a:Ty)|slo (e:Ty)|mp (a b:Ty)
def Ty.D:Ty->Type
 |.int _=>Int
 |.bool=>Bool
 |.str=>vE
 |.sl e=>List e.D
 |.nil=>Unit
 |.cons a b=>a.D×b.D
 |.arr _ e=>List e.D
 |.box e=>e.D
 |.fn a r=>a.D->Comp r.D
 |.seq a=>Comp (List a.D)
 |.slo e=>Option (List e.D)
 |.mp a b=>List (a.D×b.D)
def zHa:IntKind->Nat
 |.i8=>0|.i16=>1|.i32=>2|.i64=>3|.u8=>4|.u16=>5|.u32=>6|.u64=>7
def Hj(k l:IntKind):Bool:=Nat.beq (zHa k) (zHa l)
theorem Xx{k l:IntKind}(h:Hj k l=true):k=l:=by cases k<;>cases l<;>first|rfl|cases h
def Ty.beq:Ty->Ty->Bool
 |.int k,.int l=>Hj k l
 |.bool,.bool=>true
 |.str,.str=>true
 |.sl a,.sl b=>a.beq b
 |.nil,.nil=>true
 |.cons a b,.cons c d=>a.beq c && b.beq d
 |.arr n a,.arr m b=>Nat.beq n m && a.beq b
 |.box a,.box b=>a.beq b
 |.fn a b,.fn c d=>a.beq c && b.beq d
 |.seq a,.seq b=>a.beq b
 |.slo a,.slo b=>a.beq b
 |.mp a b,.mp c d=>a.beq c && b.beq d
 |_,_=>false
theorem Ty.wB:∀ {a b:Ty},a.beq b=true->a=b:=by
 intro a
 induction a with
 |int k=>intro b h;cases b<;>first|grind [Ty.beq,Xx]|grind [Ty.beq]
 |bool=>grind [Ty.beq]
 |str=>grind [Ty.beq]
 |nil=>grind [Ty.beq]
 |sl a ih=>intro b h;cases b<;>simp[Ty.beq]at h;rw[ih h]
 |box a ih=>intro b h;cases b<;>simp[Ty.beq]at h;rw[ih h]
 |seq a ih=>intro b h;cases b<;>simp[Ty.beq]at h;rw[ih h]
 |slo a ih=>intro b h;cases b<;>simp[Ty.beq]at h;rw[ih h]
 |cons a c iha ihc=>intro b h;cases b<;>simp[Ty.beq]at h;grind
 |fn a c iha ihc=>intro b h;cases b<;>simp[Ty.beq]at h;grind
 |mp a c iha ihc=>intro b h;cases b<;>simp[Ty.beq]at h;grind
 |arr n a ih=>intro b h;cases b<;>simp[Ty.beq]at h;grind
def Ty.cast{a b:Ty}(h:a=b)(x:a.D):b.D:=h ▸ x
def Ty.to(a b:Ty)(x:a.D):Option b.D:=if h:a.beq b=true then some (Ty.cast (Ty.wB h) x) else none
theorem Ty.jN{a b:Ty}{x:a.D}{y:b.D}(h:a.to b x=some y):∃e:a=b,Ty.cast e x=y:=by
 unfold Ty.to at h;grind
def Ty.agg:Ty->Bool
 |.nil|.cons .. | .arr ..=>true
 |_=>false
def Ty.sz:Ty->Nat
 |.nil=>0
 |.cons a b=>a.sz+b.sz
 |.arr n e=>n * e.sz
 |_=>1
def Ty.Hl:(t:Ty)->t.D
 |.int _=>(0:Int)
 |.bool=>false
 |.str=>([]:vE)
 |.sl e=>([]:List e.D)
 |.nil=>()
 |.cons a b=>(a.Hl,b.Hl)
 |.arr _ e=>([]:List e.D)
 |.box e=>e.Hl
 |.fn a r=>fun _=>(Comp.fail:Comp r.D)
 |.seq a=>(Comp.fail:Comp (List a.D))
 |.slo e=>(none:Option (List e.D))
 |.mp a b=>([]:List (a.D×b.D))
def zFa(r:GR α)(s:GR β):GR (α×β):=zFc (γ:=α×β) r Prod.fst ⟨s.agg,s.sz,fun O w cs x=>s.rel O w cs x.2,fun h=>s.len h,fun h=>s.one h,fun hk h=>s.mono hk h⟩
def jf(r:GR α)(O:zR)(w:World):List Value->List α->Prop
 |cs,[]=>cs=[]
 |cs,x::xs=>∃c1 c2,cs=c1++c2/\r.rel O w c1 x/\jf r O w c2 xs
theorem jf.len{r:GR α}{O w}:∀ {xs:List α} {cs},jf r O w cs xs->cs.length=xs.length * r.sz
 | [],cs,h=>by rw[show cs=[] from h];simp
 |x::xs,cs,⟨c1,c2,h,h1,h2⟩=>by rw[h,zLa,r.len h1,h2.len,zLh,Nat.add_mul];omega
theorem jf.one{r:GR α}{O w}:∀ {xs:List α} {cs},jf r O w cs xs->∀c∈cs,c.oneCell'=true
 | [],cs,h,c,hc=>by rw[show cs=[] from h]at hc;cases hc
 |x::xs,cs,⟨c1,c2,h,h1,h2⟩,c,hc=>by
  rw[h,zLi]at hc;exact hc.elim (r.one h1 c) (h2.one c)
theorem jf.mono{r:GR α}{O w O' w'}(hk:zb 0 O w O' w'):∀ {xs:List α} {cs},jf r O w cs xs->jf r O' w' cs xs
 | [],cs,h=>h
 |x::xs,cs,⟨c1,c2,h,h1,h2⟩=>⟨c1,c2,h,r.mono hk h1,h2.mono hk⟩
def zHP(n:Nat)(r:GR α):GR (List α) where
 agg:=true
 sz:=n * r.sz
 rel:=fun O w cs xs=>xs.length=n/\jf r O w cs xs
 len:=fun ⟨h,h1⟩=>by rw[h1.len,h]
 one:=fun ⟨_,h1⟩=>h1.one
 mono:=fun hk ⟨h,h1⟩=>⟨h,h1.mono hk⟩
abbrev Hp(α:Type):=zR->World->List Value->α->Prop
def tup:List Value->Value
 | []=>undef
 | [v]=>v
 |vs=>.tuple vs.toArray
def kh(vs:List Value)(v:Value):Prop:=vs=[]\/v=tup vs
def rFn(P:Program)(q:Bool)(a:Hp α)(r:Hp β):GR (α->Comp β) where
 agg:=false
 sz:=1
 rel:=fun O w cs F=>∃u,cs=[u]/\(u.oneCell'=true/\(q=true->∃g cb,u=.func (.func g) #[] cb/\FnOk P g))/\∀O' w',OkO O' w'->zb 0 O w O' w'->∀vs x,a O' w' vs x->∀n y,(F x).run n=some y->IL P u vs.toArray w' (fun w'' v=>∃rs,kh rs v/\r O' w'' rs y)
 len:=fun ⟨_,h,_⟩=>by grind
 one:=fun ⟨_,h,h1,_⟩ c hc=>by grind
 mono:=fun hk ⟨u,h,h1,h2⟩=>⟨u,h,h1,fun O' w' ho hk'=>h2 O' w' ho (hk.trans hk')⟩
def kD:(t:Ty)->t.D->List Value
 |.int k,x=>[.int k x]
 |.bool,x=>[.bool x]
 |.str,x=>[.string (str x)]
 |.cons a b,x=>kD a x.1++kD b x.2
 |.arr _ e,x=>(x:List e.D).flatMap (kD e)
 |_,_=>[]
def gj(t:Ty)(x:t.D):Value:=yD t.agg (kD t x)
def Ty.nar:Ty->Bool
 |.int _|.bool|.str|.nil=>true
 |.cons a b=>a.nar && b.nar
 |_=>false
def JR{κ ν:Type}(ek:κ->Value)(r:GR ν)(O:zR)(w:World):List MapEntry->List (κ×ν)->Prop
 | [],[]=>True
 |e::es,x::xs=>e.key=ek x.1/\r.v O w e.val x.2/\JR ek r O w es xs
 |_,_=>False
theorem JR.mono{κ ν:Type}{ek:κ->Value}{r:GR ν}{O w O' w'}(hk:zb 0 O w O' w'):∀ {es:List MapEntry} {xs:List (κ×ν)},JR ek r O w es xs->JR ek r O' w' es xs
 | [],[],h=>h
 | [],_::_,h=>h.elim
 |_::_,[],h=>h.elim
 |_::_,_::_,⟨h1,h2,h3⟩=>⟨h1,r.yu h2 hk,JR.mono hk h3⟩
def rMp{κ ν:Type}(ek:κ->Value)(r:GR ν):GR (List (κ×ν)) where
 agg:=false
 sz:=1
 rel:=fun O w cs xs=>(cs=[.map none]/\xs=[])\/∃b es clock,cs=[.map (some b)]/\w.heap[b]?=some (.map es clock)/\JR ek r O w es.toList xs/\O b=0
 len:=fun h=>by grind
 one:=fun h c hc=>by rcases h with ⟨h,_⟩|⟨_,_,_,h,_⟩<;>(rw[h]at hc;simp at hc;subst hc;rfl)
 mono:=fun hk h=>by
  rcases h with h|⟨b,es,clock,h1,h2,h3,h4⟩
  ·grind
  ·obtain⟨h5,h6⟩:=hk.2 b (zLy.1 h2).1 h4
   exact .inr ⟨b,es,clock,h1,h6.trans h2,h3.mono hk,h5⟩
def zID(P:Program)(L:Nat)(args:Array Value)(w:World)(R:Bool->World->Prop):Prop :=
 YieldAt Fence.wide 0 P L args w fun e w'=>∃b,e=.returned (.bool b)/\R b w'
structure Rng(P:Program)(L:Nat)(a:Hp α)(xs:List α)(O:zR)(w:World)(J:List α->zR->World->Prop)(Jx:zR->World->Prop):Prop where
 ext:∀pre O1 w1 w2,J pre O1 w1->Ext w1 w2->J pre O1 w2
 extx:∀O1 w1 w2,Jx O1 w1->Ext w1 w2->Jx O1 w2
 ok:∀pre O1 w1,J pre O1 w1->OkO O1 w1
 okx:∀O1 w1,Jx O1 w1->OkO O1 w1
 y:∀pre d post O1 w1 vs,xs=pre++d::post->J pre O1 w1->a O1 w1 vs d->zID P L vs.toArray w1 fun b w2=>∃O2,zb 0 O1 w1 O2 w2/\match b with
  |true=>J (pre++[d]) O2 w2
  |false=>Jx O2 w2
 z:J [] O w
def zKa(P:Program)(a:Hp α):GR (Comp (List α)) where
 agg:=false
 sz:=1
 rel:=fun O w cs C=>∃f us,cs=[.func (.func f) #[] (us:List Value).toArray]/\FnOk P f/\∀O' w',OkO O' w'->zb 0 O w O' w'->∀n xs,C.run n=some xs->∀L J Jx,Rng P L a xs O' w' J Jx ->
  Calls P f (Value.func (.yield L) #[] #[]::us).toArray w' fun e w''=>e=.returned (.tuple #[])/\((∃O'',J xs O'' w'')\/∃O'',Jx O'' w'')
 len:=fun ⟨_,_,h,_⟩=>by grind
 one:=fun ⟨_,_,h,_⟩ c hc=>by rw[h]at hc;simp at hc;subst hc;rfl
 mono:=fun hk ⟨f,us,h,h1,h2⟩=>⟨f,us,h,h1,fun O' w' ho hk'=>h2 O' w' ho (hk.trans hk')⟩
def zKZ(r:GR α):GR (Option (List α)) where
 agg:=false
 sz:=1
 rel:=fun O w cs x=>match x with
  |none=>cs=[.slice none 0 0]
  |some xs=>(rSl r).rel O w cs xs
 len:=fun {O w cs x} h=>by
  grind [rSl]
 one:=fun {O w cs x} h c hc=>by
  cases x with
  |none=>rw[show cs=_ from h]at hc;simp at hc;subst hc;rfl
  |some xs=>exact(rSl r).one h c hc
 mono:=fun {O w O' w' cs x} hk h=>by
  cases x with
  |none=>exact h
  |some xs=>exact(rSl r).mono hk h
def Ty.two:Ty->Bool
 |.cons _ (.cons _ .nil)=>true
 |_=>false
def Ty.sem(P:Program):(t:Ty)->GR t.D×Hp t.D
 |.int k=>(Ww k,fun _ _ _ _=>False)
 |.bool=>(Sl,fun _ _ _ _=>False)
 |.str=>(zEm,fun _ _ _ _=>False)
 |.sl e=>(rSl (e.sem P).1,fun _ _ _ _=>False)
 |.nil=>(zHO,fun _ _ vs _=>vs=[])
 |.cons a b=>(zFa (a.sem P).1 (b.sem P).1,fun O w vs x=>∃v vs',vs=v::vs'/\(a.sem P).1.v O w v x.1/\(b.sem P).2 O w vs' x.2)
 |.arr n e=>(zHP n (e.sem P).1,fun _ _ _ _=>False)
 |.box e=>(KV (e.sem P).1,fun _ _ _ _=>False)
 |.fn a r=>(rFn P a.two (a.sem P).2 (r.sem P).2,fun _ _ _ _=>False)
 |.seq a=>(zKa P (a.sem P).2,fun _ _ _ _=>False)
 |.slo e=>(zKZ (e.sem P).1,fun _ _ _ _=>False)
 |.mp a b=>(rMp (gj a) (b.sem P).1,fun _ _ _ _=>False)
abbrev Ty.gr(P:Program)(t:Ty):GR t.D:=(t.sem P).1
abbrev Ty.args(P:Program)(t:Ty):Hp t.D:=(t.sem P).2
theorem Ty.jI(P:Program)(t:Ty):(t.gr P).agg=t.agg:=by cases t<;>rfl
theorem Ty.yr(P:Program)(t:Ty):(t.gr P).sz=t.sz:=by
 induction t with
 |cons a b iha ihb=>show (a.gr P).sz+(b.gr P).sz=_;rw[iha,ihb];rfl
 |arr n e ih=>show n * (e.gr P).sz=_;rw[ih];rfl
 |_=>rfl
theorem Ty.fits(P:Program)(t:Ty):(t.gr P).fits:=by
 intro h;rw[Ty.jI]at h;rw[Ty.yr];cases t<;>first|rfl|cases h
theorem Ty.wZ(P:Program)(t:Ty){O w O' w' vs x}(hk:zb 0 O w O' w')(h:t.args P O w vs x):t.args P O' w' vs x:=by
 induction t generalizing vs with
 |cons a b iha ihb =>
  obtain⟨v,vs',h1,h2,h3⟩:=h;exact⟨v,vs',h1,GR.yu _ h2 hk,ihb h3⟩
 |nil=>exact h
 |_=>exact h.elim
def zEs(k:IntKind):Value->Option Int
 |.int l n=>match Hj k l with
  |true=>some n
  |false=>none
 |_=>none
def Sx:Value->Option Bool
 |.bool b=>some b
 |_=>none
def zEq:Value->Option vE
 |.string s=>some (bs s)
 |_=>none
def zEr(α:Type):Value->Option (List α)
 |.slice none 0 _=>some []
 |_=>none
theorem I6{k:IntKind}{v:Value}{n:Int}(h:zEs k v=some n):v=.int k n:=by
 unfold zEs at h;grind [Xx]
theorem Dr{v:Value}{b:Bool}(h:Sx v=some b):v=.bool b:=by
 unfold Sx at h;grind
theorem I4{v:Value}{b:vE}(h:zEq v=some b):v=.string (str b):=by
 unfold zEq at h;grind [EW]
theorem I5{v:Value}{b:List α}(h:zEr α v=some b):b=[]/\∃c,v=.slice none 0 c:=by
 unfold zEr at h;grind
def oNl(α:Type):Value->Option (Option α)
 |.slice none 0 0=>some none
 |_=>none
theorem N1{v:Value}{b:Option α}(h:oNl α v=some b):b=none/\v=.slice none 0 0:=by
 unfold oNl at h;grind
def oMn(α:Type):Value->Option (List α)
 |.map none=>some []
 |_=>none
theorem N2{v:Value}{b:List α}(h:oMn α v=some b):b=[]/\v=.map none:=by
 unfold oMn at h;grind
def hd1(f:Value->Option α):List Value->Option (α×List Value)
 | []=>none
 |c::r=>match f c with
  |some x=>some (x,r)
  |none=>none
theorem XZ{f:Value->Option α}{cs r:List Value}{x:α}(h:hd1 f cs=some (x,r)):∃c,cs=c::r/\f c=some x:=by
 cases cs with
 |nil=>cases h
 |cons c cs =>
  simp only[hd1]at h;grind
def two(f:List Value->Option (α×List Value))(g:List Value->Option (β×List Value))(cs:List Value):Option ((α×β)×List Value):=match f cs with
 |some (x,r)=>match g r with
  |some (y,r)=>some ((x,y),r)
  |none=>none
 |none=>none
theorem Az{f:List Value->Option (α×List Value)}{g:List Value->Option (β×List Value)}{cs r:List Value}{x:α×β}(h:two f g cs=some (x,r)):∃r1,f cs=some (x.1,r1)/\g r1=some (x.2,r):=by
 unfold two at h;grind
def many(f:List Value->Option (α×List Value)):Nat->List Value->Option (List α×List Value)
 |0,r=>some ([],r)
 |n+1,cs=>match two f (many f n) cs with
  |some (x,r)=>some (x.1::x.2,r)
  |none=>none
def Zx:(t:Ty)->List Value->Option (t.D×List Value)
 |.int k=>hd1 (zEs k)
 |.bool=>hd1 Sx
 |.str=>hd1 zEq
 |.sl e=>hd1 (zEr e.D)
 |.nil=>fun r=>some ((),r)
 |.cons a b=>two (Zx a) (Zx b)
 |.arr n e=>many (Zx e) n
 |.box _=>fun _=>none
 |.fn _ _=>fun _=>none
 |.seq _=>fun _=>none
 |.slo e=>hd1 (oNl (List e.D))
 |.mp a b=>hd1 (oMn (a.D×b.D))
theorem J3(P:Program)(t:Ty):∀ {cs:List Value} {x:t.D} {r:List Value},Zx t cs=some (x,r)->∃c1,cs=c1++r/\∀O w,(t.gr P).rel O w c1 x:=by
 induction t with
 |int k =>
  intro cs x r h;obtain⟨c,rfl,h1⟩:=XZ h;exact⟨[c],rfl,fun _ _=>by rw[I6 h1];rfl⟩
 |bool =>
  intro cs x r h;obtain⟨c,rfl,h1⟩:=XZ h;exact⟨[c],rfl,fun _ _=>by rw[Dr h1];rfl⟩
 |str =>
  intro cs x r h;obtain⟨c,rfl,h1⟩:=XZ h;exact⟨[c],rfl,fun _ _=>by rw[I4 h1];rfl⟩
 |sl e ih =>
  intro cs x r h;obtain⟨c,rfl,h1⟩:=XZ h;refine⟨[c],rfl,fun O w=>?_⟩
  obtain⟨e1,c,rfl⟩:=I5 h1;rw[show x=[] from e1]
  exact⟨_,[],rfl,⟨none,c,rfl,by simp,by simp,.inl rfl⟩,trivial,fun h=>zLp rfl h⟩
 |nil=>intro cs x r h;cases h;exact⟨[],rfl,fun _ _=>rfl⟩
 |cons a b iha ihb =>
  intro cs x r h;obtain⟨r1,h1,h2⟩:=Az h;obtain⟨c1,e1,k1⟩:=iha h1;obtain⟨c2,e2,k2⟩:=ihb h2;exact⟨c1++c2,by grind,fun O w=>⟨c1,c2,rfl,k1 O w,k2 O w⟩⟩
 |arr n e ih =>
  have key:∀n {cs:List Value} {xs:List e.D} {r:List Value},many (Zx e) n cs=some (xs,r)->∃c1,cs=c1++r/\xs.length=n/\∀O w,jf (e.gr P) O w c1 xs:=by
   intro n
   induction n with
   |zero=>intro cs xs r h;simp only[many]at h;cases h;exact⟨[],rfl,rfl,fun _ _=>rfl⟩
   |succ n ihn =>
    intro cs xs r h;simp only[many]at h
    cases h2:two (Zx e) (many (Zx e) n) cs with
    |none=>grind
    |some p =>
     obtain⟨y,r2⟩:=p;rw[h2]at h;cases h;obtain⟨r1,h3,h4⟩:=Az h2;obtain⟨c1,e1,k1⟩:=ih h3;obtain⟨c2,e2,l2,k2⟩:=ihn h4;exact⟨c1++c2,by grind,by grind,fun O w=>⟨c1,c2,rfl,k1 O w,k2 O w⟩⟩
  intro cs x r h;obtain⟨c1,e1,l1,k1⟩:=key n h;exact⟨c1,e1,fun O w=>⟨l1,k1 O w⟩⟩
 |box e ih=>intro cs x r h;cases h
 |fn a r iha ihr=>intro cs x r h;cases h
 |seq a iha=>intro cs x r h;cases h
 |slo e ih =>
  intro cs x r h;obtain⟨c,rfl,h1⟩:=XZ h;refine⟨[c],rfl,fun O w=>?_⟩
  obtain⟨e1,rfl⟩:=N1 h1;rw[show x=none from e1];exact rfl
 |mp a b iha ihb =>
  intro cs x r h;obtain⟨c,rfl,h1⟩:=XZ h;refine⟨[c],rfl,fun O w=>?_⟩
  obtain⟨e1,rfl⟩:=N2 h1;exact .inl ⟨rfl,e1⟩
def H8:Option (α×List Value)->Option α
 |some (x,[])=>some x
 |_=>none
theorem tq{o:Option (α×List Value)}{x:α}(h:H8 o=some x):o=some (x,[]):=by
 unfold H8 at h;grind
def qi:Value->Option (List Value)
 |.agg cs=>some cs.toList
 |_=>none
def ofV(t:Ty)(v:Value):Option t.D:=match t.agg with
 |true=>match qi v with
  |some cs=>H8 (Zx t cs)
  |none=>none
 |false=>H8 (Zx t [v])
theorem KL(P:Program){t:Ty}{v:Value}{x:t.D}(h:ofV t v=some x)(O:zR)(w:World):(t.gr P).v O w v x:=by
 unfold ofV at h
 cases ha:t.agg with
 |true =>
  rw[ha]at h;simp only at h
  cases hv:qi v with
  |none=>grind
  |some cs =>
   rw[hv]at h;obtain⟨c1,e1,k1⟩:=J3 P t (tq h);refine⟨c1,k1 O w,?_⟩;rw[Ty.jI,ha];obtain rfl:v=.agg cs.toArray:=by
    unfold qi at hv;split at hv
    ·cases hv;simp
    ·cases hv
   grind [yD]
 |false =>
  rw[ha]at h;obtain⟨c1,e1,k1⟩:=J3 P t (tq h);refine⟨c1,k1 O w,?_⟩;grind [Ty.jI,yD]
def eqI(m n:Int):Bool:=decide (m=n)
def eqB(s t:Bool):Bool:=decide (s=t)
def eqS(s t:vE):Bool:=decide (s=t)
def adB(a b:Bool):Bool:=a && b
def eqA(f:α->α->Bool):List α->List α->Bool
 |x::xs,y::ys=>f x y && eqA f xs ys
 | [],[]=>true
 |_,_=>false
def Ty.eqb:(t:Ty)->t.D->t.D->Bool
 |.int _,x,y=>eqI x y
 |.bool,x,y=>eqB x y
 |.str,x,y=>eqS x y
 |.nil,_,_=>true
 |.cons a .nil,x,y=>a.eqb x.1 y.1
 |.cons a b,x,y=>adB (a.eqb x.1 y.1) (b.eqb x.2 y.2)
 |.arr _ e,x,y=>eqA e.eqb x y
 |_,_,_=>false
theorem Ty.CI(a b:Ty)(x y:(Ty.cons a b).D):(Ty.cons a b).eqb x y=(a.eqb x.1 y.1 && b.eqb x.2 y.2):=by
 cases b<;>simp[Ty.eqb,adB]
structure EqT(P:Program)(T:TypeId)(t:Ty)(D:Nat):Prop where
 run:∀d w O1 w1 O2 w2 cs ds x y,(t.gr P).rel O1 w1 cs x->(t.gr P).rel O2 w2 ds y->(Op.equalIn (d+D) T (yD t.agg cs) (yD t.agg ds)).run P w=.ok (t.eqb x y) w
 part:∀w O1 w1 l1 cs l2 x,(t.gr P).rel O1 w1 cs x->(part T (l1++(cs++l2)).toArray l1.length).run P w=.ok (yD t.agg cs) w
section
variable {P:Program} {T:TypeId}
theorem u9{k:IntKind}{z sz by_}(h:Eng.Ty P T (.int k) z sz by_):EqT P T (.int k) 1 :=
 ⟨(HG h).run,(HG h).part⟩
theorem QJ{z sz by_}(h:Eng.Ty P T .bool z sz by_):EqT P T .bool 1 :=
 ⟨(CH h).run,(CH h).part⟩
theorem V6{z sz by_}(h:Eng.Ty P T .string z sz by_):EqT P T .str 1 :=
 ⟨(HF h).run,(HF h).part⟩
inductive EqTs(P:Program)(D:Nat):List Field->Ty->Nat->Prop
 |nil {off}:EqTs P D [] .nil off
 |cons {f:Field} {fs:List Field} {a b:Ty} {off Di:Nat} (hn:f.name ≠ "_") (ho:f.offset=off) (he:EqT P f.type a Di) (hD:Di<=D) (h:EqTs P D fs b (off+a.sz)):EqTs P D (f::fs) (.cons a b) off
theorem EqTs.run{D:Nat}{fs:List Field}{t:Ty}{off:Nat}(h:EqTs P D fs t off):∀d w O1 w1 l1 cs x O2 w2 l2 ds y,l1.length=off->l2.length=off->(t.gr P).rel O1 w1 cs x->(t.gr P).rel O2 w2 ds y->(Op.eqFields (d+D) (l1++cs).toArray (l2++ds).toArray fs).run P w=.ok (t.eqb x y) w:=by
 induction h with
 |nil=>simp[Op.eqFields,Ty.eqb]
 | @cons f fs a b off Di hn ho he hD h ih =>
  intro d w O1 w1 l1 cs x O2 w2 l2 ds y dT dU h1 h2;obtain⟨a1,a2,ea,ra,ra2⟩:=h1;obtain⟨b1,b2,eb,rb,rb2⟩:=h2;have ha1:a1.length=a.sz:=by rw[(a.gr P).len ra,Ty.yr]
  have tC:b1.length=a.sz:=by rw[(a.gr P).len rb,Ty.yr]
  have hih:=ih d w O1 w1 (l1++a1) a2 x.2 O2 w2 (l2++b1) b2 y.2 (by grind) (by grind) ra2 rb2
  rw[zLt,zLt,<-ea,<-eb]at hih;have p1:=he.part w O1 w1 l1 a1 a2 x.1 ra
  have p2:=he.part w O2 w2 l2 b1 b2 y.1 rb;rw[dT,<-ho,<-ea]at p1;rw[dU,<-ho,<-eb]at p2;have q:=he.run (d+(D-Di)) w O1 w1 O2 w2 a1 b1 x.1 y.1 ra rb
  rw[show d+(D-Di)+Di=d+D by omega]at q
  rw[Ty.CI];simp only[Op.eqFields,hn,ne_eq,not_false_eq_true,if_true,Sem.run_bind,p1,p2,q,Result.andThen_ok,Sem.run_ite]
  cases hxy:a.eqb x.1 y.1 with
  |true=>grind
  |false=>simp
theorem Yg{t:Ty}{D:Nat}{z sz by_}{fs:Array Field}(hT:Eng.Ty P T (.struct fs) z sz by_)(ha:t.agg=true)(hs:t.sz=sz)(hp:P.stoodInHeld T=false)(h:EqTs P D fs.toList t 0):EqT P T t (D+1) where
 run:=fun d w O1 w1 O2 w2 cs ds x y h1 h2=>by
  rw[ha];show (Op.equalIn (d+D+1) T (.agg cs.toArray) (.agg ds.toArray)).run P w=_
  have:=h.run d w O1 w1 [] cs x O2 w2 [] ds y rfl rfl h1 h2;rw[List.nil_append,List.nil_append]at this;rw[run_equalIn_struct w (d+D) T _ _ (by rw[fieldsOf_eq' hT.u];exact hT.u) hp,fieldsOf_eq' hT.u,this]
 part:=fun w O1 w1 l1 cs l2 x h1=>by
  rw[ha];exact BZ hT rfl w l1 cs l2 (by rw[(t.gr P).len h1,Ty.yr,hs])
where
  fieldsOf_eq' {P:Program} {T:TypeId} {fs:Array Field} (h:P.underlying T=some (.struct fs)):P.fieldsOf T=fs:=by grind [Program.fieldsOf]
theorem CG{e:TypeId}{t:Ty}{D k:Nat}(he:EqT P e t D)(hk:t.sz=k)(d:Nat)(w:World){O1 w1 O2 w2} :
  ∀(xs ys:List t.D) (cs ds p1 p2:List Value) (m:Nat),p1.length=m * k->p2.length=m * k->xs.length=ys.length->jf (t.gr P) O1 w1 cs xs->jf (t.gr P) O2 w2 ds ys ->
   (Op.eqItems (d+D) e k (p1++cs).toArray (p2++ds).toArray (List.range' m xs.length)).run P w=.ok (eqA t.eqb xs ys) w
 | [],[],cs,ds,p1,p2,m,h1,h2,_,_,_=>by simp[Op.eqItems,eqA]
 | [],_::_,_,_,_,_,_,_,_,h,_,_=>by simp at h
 |_::_,[],_,_,_,_,_,_,_,h,_,_=>by simp at h
 |x::xs,y::ys,cs,ds,p1,p2,m,h1,h2,h,⟨c1,c2,ec,rc,rc2⟩,⟨d1,d2,ed,rd,rd2⟩=>by
   have q1:=he.part w O1 w1 p1 c1 c2 x rc;have q2:=he.part w O2 w2 p2 d1 d2 y rd
   rw[h1,<-ec]at q1;rw[h2,<-ed]at q2;have q3:=he.run d w O1 w1 O2 w2 c1 d1 x y rc rd
   have dN:c1.length=k:=by rw[(t.gr P).len rc,Ty.yr,hk]
   have hd1:d1.length=k:=by rw[(t.gr P).len rd,Ty.yr,hk]
   have ih:=CG he hk d w xs ys c2 d2 (p1++c1) (p2++d1) (m+1) (by grind) (by grind) (by grind) rc2 rd2
   rw[zLt,zLt,<-ec,<-ed]at ih;simp only[zLh,List.range'_succ,Op.eqItems,Sem.run_bind,q1,q2,q3,Result.andThen_ok,Sem.run_ite,ih,eqA]
   cases hxy:t.eqb x y with
   |true=>simp
   |false=>simp
theorem K0{e:TypeId}{n:Nat}{t:Ty}{D k:Nat}{z sz by_ z' dd' by_'}(hT:Eng.Ty P T (.array n e) z sz by_)(nK:Eng.Ty P e dd' z' k by_')(hs:n * k=sz)(hk:t.sz=k)(he:EqT P e t D):EqT P T (.arr n t) (D+1) where
 run:=fun d w O1 w1 O2 w2 cs ds x y h1 h2=>by
  show (Op.equalIn (d+D+1) T (.agg cs.toArray) (.agg ds.toArray)).run P w=_
  obtain⟨i,hi,_,pV,_⟩:=nK.info;have hc:P.cellsOf e=k:=by grind [Program.cellsOf]
  rw[run_equalIn_array w (d+D) _ _ hT.u hi,hc];have:=CG he hk d w x y cs ds [] [] 0 (by simp) (by simp) (by rw[h1.1,h2.1]) h1.2 h2.2
  rw[List.nil_append,List.nil_append,h1.1,<-List.range_eq_range']at this;exact this
 part:=fun w O1 w1 l1 cs l2 x h1=>BZ hT rfl w l1 cs l2 (by rw[((Ty.arr n t).gr P).len h1,Ty.yr,<-hs,<-hk];rfl)
end
section ops
variable {P:Program} {a:Act} {w:World} {d:Option Tmp} {T:TypeId} {pos:String} {aft:Array Edge} {g:Option (Nat×Bool)}
theorem Vj{x y:Operand}{X Y:TypeId}{t:Ty}{Dp:Nat}(hE:EqT P X t Dp)(ha:t.agg=true)(hD:Dp<=10000)(hg:P.eqGuardType P.depth X=false){O1 O2:zR}{w1 w2:World}{p q:t.D}(h1:(t.gr P).v O1 w1 (a.eval x) p)(h2:(t.gr P).v O2 w2 (a.eval y) q) :
  Ok P ⟨d,.binOp .eql X x y Y,T,pos,aft,g⟩ a w (SP.isv (.bool (t.eqb p q))).holds:=by
 obtain⟨cs,h3,hx⟩:=h1;obtain⟨ds,h4,hy⟩:=h2;have e:=hE.run (10000-Dp) w _ _ _ _ cs ds p q h3 h4
 rw[show 10000-Dp+Dp=10000 by omega,ha]at e
 rw[Ty.jI,ha]at hx hy;simp_all [zj,yD,execOp,run_eqGuard_agg,run_eql_struct]
theorem Vb{x y:Operand}{X Y:TypeId}{t:Ty}{Dp:Nat}(hE:EqT P X t Dp)(ha:t.agg=true)(hD:Dp<=10000)(hg:P.eqGuardType P.depth X=false){O1 O2:zR}{w1 w2:World}{p q:t.D}(h1:(t.gr P).v O1 w1 (a.eval x) p)(h2:(t.gr P).v O2 w2 (a.eval y) q) :
  Ok P ⟨d,.binOp .neq X x y Y,T,pos,aft,g⟩ a w (SP.isv (.bool (!t.eqb p q))).holds:=by
 obtain⟨cs,h3,hx⟩:=h1;obtain⟨ds,h4,hy⟩:=h2;have e:=hE.run (10000-Dp) w _ _ _ _ cs ds p q h3 h4
 rw[show 10000-Dp+Dp=10000 by omega,ha]at e
 rw[Ty.jI,ha]at hx hy;simp_all [zj,yD,execOp,run_eqGuard_agg,run_neq_struct]
end ops
end Go.Den
end
section
namespace Go.Den
open Go Go.RowKit Go.Eng Go.Lift
variable {α κ ν:Type}
def mgB(eq:κ->κ->Bool):List (κ×ν)->κ->Option ν
 | [],_=>none
 |p::ps,x=>bif eq x p.1 then some p.2 else mgB eq ps x
def mpB(eq:κ->κ->Bool):List (κ×ν)->κ->ν->List (κ×ν)
 | [],x,y=>[(x,y)]
 |p::ps,x,y=>bif eq x p.1 then (x,y)::ps else p::mpB eq ps x y
def zEo(o:Option α)(z:α):α:=match o with
 |some x=>x
 |none=>z
def isS(o:Option α):Bool:=match o with
 |some _=>true
 |none=>false
def X8(eq:κ->κ->Bool):List MapEntry->List κ->κ->Nat->Option (Nat×Value)
 |e::es,y::ys,x,i=>bif eq x y then some (i,e.val) else X8 eq es ys x (i+1)
 |_,_,_,_=>none
theorem Rz{f:α->α->Bool}(hf:∀x y,f x y=true->x=y):∀ {xs ys:List α},eqA f xs ys=true->xs=ys
 | [],[],_=>rfl
 | [],_::_,h=>by cases h
 |_::_,[],h=>by cases h
 |x::xs,y::ys,h=>by
  simp only[eqA,zLZ]at h;rw[hf x y h.1,Rz hf h.2]
def Ty.clo:Ty->Bool
 |.int _|.bool|.str|.nil=>true
 |.cons a b=>a.clo && b.clo
 |.arr _ e=>e.clo
 |_=>false
theorem zEG{m n:Int}(h:eqI m n=true):m=n:=of_decide_eq_true h
theorem V8{m n:Bool}(h:eqB m n=true):m=n:=of_decide_eq_true h
theorem zEF{m n:vE}(h:eqS m n=true):m=n:=of_decide_eq_true h
theorem zEE:∀ {t:Ty} {x y:t.D},t.eqb x y=true->x=y:=by
 intro t
 induction t with
 |int k=>intro x y h;exact zEG h
 |bool=>intro x y h;exact V8 h
 |str=>intro x y h;exact zEF h
 |nil=>intro x y _;rfl
 |cons a b iha ihb =>
  intro x y h;rw[Ty.CI,zLZ]at h;grind [Prod.ext]
 |arr n e ih=>intro x y h;exact Rz (fun _ _=>ih) h
 |_=>intro x y h;cases h
def sml:Value->Bool
 |.int .. | .bool _|.string _=>true
 |_=>false
theorem HM:∀ {t:Ty},t.clo=true->∀ {x:t.D},∀c∈kD t x,sml c=true:=by
 intro t
 induction t with
 |int k=>intro _ x c hc;simp[kD]at hc;subst hc;rfl
 |bool=>intro _ x c hc;simp[kD]at hc;subst hc;rfl
 |str=>intro _ x c hc;simp[kD]at hc;subst hc;rfl
 |nil=>grind [kD]
 |cons a b iha ihb =>
  intro h x c hc;simp only[Ty.clo,zLZ]at h;grind [kD]
 |arr n e ih =>
  intro h x c hc;have key:∀(xs:List e.D),c∈xs.flatMap (kD e)->sml c=true:=fun xs hc=>by
   rw[List.mem_flatMap]at hc;obtain⟨y,_,hy⟩:=hc;exact ih h c hy
  exact key x hc
 |_=>intro h;cases h
theorem V9{P:Program}:∀ {t:Ty},t.clo=true->∀ {O w cs} {x:t.D},(t.gr P).rel O w cs x->cs=kD t x:=by
 intro t
 induction t with
 |int k=>intro _ O w cs x h;exact h
 |bool=>intro _ O w cs x h;exact h
 |str=>intro _ O w cs x h;exact h
 |nil=>intro _ O w cs x h;exact h
 |cons a b iha ihb =>
  intro hc O w cs x h;simp only[Ty.clo,zLZ]at hc;obtain⟨c1,c2,h1,h2,h3⟩:=h;rw[h1,iha hc.1 h2,ihb hc.2 h3];rfl
 |arr n e ih =>
  intro hc O w cs x h;have key:∀ {xs:List e.D} {cs},jf (e.gr P) O w cs xs->cs=xs.flatMap (kD e):=by
   intro xs
   induction xs with
   |nil=>intro cs h;exact h
   |cons y ys ih2 =>
    intro cs ⟨c1,c2,h1,h2,h3⟩;rw[h1,ih hc h2,ih2 h3];simp
  exact key h.2
 |_=>intro h;cases h
theorem S6{P:Program}{t:Ty}(hc:t.clo=true){O w v}{x:t.D}(h:(t.gr P).v O w v x):v=gj t x:=by
 obtain⟨cs,h1,h2⟩:=h;rw[h2,V9 hc h1,Ty.jI];rfl
theorem BJ:∀ {n:Nat} {c:Value},sml c=true->Instr.sameBits n c c=true:=by
 intro n c h;cases c<;>first|(cases n<;>simp[Instr.sameBits];done)|(rename_i s;cases n<;>simp[Instr.sameBits,(Go.MapKept.bytes_beq s s).2 rfl];done)|cases h
theorem NU{t:Ty}(hc:t.clo=true)(x:t.D):Instr.sameBits 10000 (gj t x) (gj t x)=true:=by
 have h:=HM hc (x:=x);unfold gj
 cases ha:t.agg with
 |true =>
  show Instr.sameBits (9999+1) (.agg _) (.agg _)=true
  simp only[Instr.sameBits,beq_self_eq_true,Bool.true_and,zME];intro p hp;have:p.1=p.2:=by
   grind [List.mem_iff_getElem?]
  grind [BJ,List.of_mem_zip]
 |false =>
  show Instr.sameBits 10000 ((kD t x).headD undef) _=true
  cases he:kD t x with
  |nil=>cases t<;>simp_all [Ty.agg,kD,Ty.clo]
  |cons c cs=>exact BJ (h c (by grind))
structure KeyB(P:Program)(kT:TypeId)(t:Ty):Prop where
 clo:t.clo=true
 check:∀e x w,(Instr.checkKey e 10000 kT (gj t x)).run P w=.ok () w
 find:∀(es:List MapEntry) (ys:List t.D) (x:t.D) (w:World),es.map (·.key)=ys.map (gj t)->(Instr.findKey kT (gj t x) es).run P w=.ok (X8 t.eqb es ys x 0) w
theorem KT{P:Program}{kT:TypeId}{t:Ty}(fV:∀x y w,(Op.equal kT (gj t x) (gj t y)).run P w=.ok (t.eqb x y) w):∀(es:List MapEntry) (ys:List t.D) (x:t.D) (w:World) (i:Nat),es.map (·.key)=ys.map (gj t)->(Instr.findAsking kT (gj t x) es i).run P w=.ok (X8 t.eqb es ys x i) w
 | [],ys,x,w,i,h=>by simp[Instr.findAsking,X8]
 |e::es,[],x,w,i,h=>by simp at h
 |e::es,y::ys,x,w,i,h=>by
  simp only[List.map_cons,List.cons.injEq]at h;simp only[Instr.findAsking,h.1,Sem.run_bind,fV,Result.andThen_ok,X8]
  cases hxy:t.eqb x y with
  |true=>simp
  |false=>simp[KT fV es ys x w (i+1) h.2]
theorem nH{dd:TypeDesc}(hd:vN dd=true)(k:Value)(e:MapEntry)(es:List MapEntry)(i:Nat):Instr.findNow dd k (e::es) i=none:=by
 have:Instr.sameNow dd k e.key=none:=by cases dd<;>first|(cases hd;done)|rfl
 grind [Instr.findNow]
theorem uj{P:Program}{O:zR}{w:World}:∀ {t:Ty},t.nar=true->∀(x:t.D),(t.gr P).rel O w (kD t x) x:=by
 intro t
 induction t with
 |int k=>intro _ x;rfl
 |bool=>intro _ x;rfl
 |str=>intro _ x;rfl
 |nil=>intro _ x;rfl
 |cons a b iha ihb =>
  intro h x;simp only[Ty.nar,zLZ]at h;exact⟨_,_,rfl,iha h.1 x.1,ihb h.2 x.2⟩
 |_=>intro h;cases h
theorem mc:∀ {t:Ty},t.nar=true->t.clo=true:=by
 intro t
 induction t with
 |cons a b iha ihb =>
  simp_all [Ty.nar,Ty.clo]
 |int k=>intro _;rfl
 |bool=>intro _;rfl
 |str=>intro _;rfl
 |nil=>intro _;rfl
 |_=>intro h;cases h
theorem KeyB.agg{P:Program}{kT:TypeId}{t:Ty}{D:Nat}(hE:EqT P kT t D)(hD:D<=10000)(ha:t.agg=true)(hn:t.nar=true){dd z sz by_}(hT:Eng.Ty P kT dd z sz by_)(hd:vN dd=true)
  (hc:∀e x w,(Instr.checkKey e 10000 kT (gj t x)).run P w=.ok () w):KeyB P kT t where
 clo:=mc hn
 check:=hc
 find:=fun es ys x w h=>by
  have fV:∀x y w,(Op.equal kT (gj t x) (gj t y)).run P w=.ok (t.eqb x y) w:=by
   intro x y w;have e:=hE.run (10000-D) w (fun _=>0) w (fun _=>0) w _ _ x y (uj hn x) (uj hn y)
   rw[show 10000-D+D=10000 by omega]at e
   exact e
  have hu:(underlying kT).run P w=.ok dd w:=by simp[underlying,hT.u]
  cases es with
  |nil=>simp_all [Instr.findKey,Instr.findNow,X8]
  |cons e es=>grind [Instr.findKey,Sem.run_bind,Result.andThen_ok,nH,KT]
theorem KS(k:IntKind):∀(es:List MapEntry) (ys:List Int) (x:Int) (i:Nat),es.map (·.key)=ys.map (Value.int k)->Instr.findNow (.int k) (.int k x) es i=some (X8 eqI es ys x i)
 | [],ys,x,i,h=>by grind [Instr.findNow,X8]
 |e::es,[],x,i,h=>by simp at h
 |e::es,y::ys,x,i,h=>by
  simp only[List.map_cons,List.cons.injEq]at h;simp only[Instr.findNow,h.1,Instr.sameNow,if_true,X8];by_cases hxy:x=y
  ·grind [eqI]
  ·have:(x == y)=false:=by grind
   simp[hxy,this,eqI,KS k es ys x (i+1) h.2]
theorem KeyB.int{P:Program}{kT:TypeId}{k:IntKind}{z sz by_}(hT:Eng.Ty P kT (.int k) z sz by_):KeyB P kT (.int k) where
 clo:=rfl
 check:=fun e x w=>by
  have hu:(underlying kT).run P w=.ok (.int k) w:=by simp[underlying,hT.u]
  show (Instr.checkKey e (9999+1) kT (.int k x)).run P w=_
  rw[Instr.checkKey];simp[hu]
 find:=fun es ys x w h=>by
  have hu:(underlying kT).run P w=.ok (.int k) w:=by simp[underlying,hT.u]
  have:=KS k es ys x 0 h;show (Instr.findKey kT (.int k x) es).run P w=.ok (X8 eqI es ys x 0) w
  simp[Instr.findKey,hu,this]
theorem JR.keys{P:Program}{ek:κ->Value}{r:GR ν}{O w}:∀ {es:List MapEntry} {xs:List (κ×ν)},JR ek r O w es xs->es.map (·.key)=(xs.map (·.1)).map ek
 | [],[],_=>rfl
 | [],_::_,h=>h.elim
 |_::_,[],h=>h.elim
 |e::es,x::xs,⟨h1,_,h3⟩=>by simp only[List.map_cons];rw[h1,JR.keys (P:=P) h3]
theorem HL{ek:κ->Value}{r:GR ν}{O w}{eq:κ->κ->Bool}:∀ {es:List MapEntry} {xs:List (κ×ν)} {x:κ} {i:Nat},JR ek r O w es xs->(match X8 eq es (xs.map (·.1)) x i with
  |some p=>∃y,mgB eq xs x=some y/\r.v O w p.2 y
  |none=>mgB eq xs x=none)
 | [],[],x,i,h=>rfl
 | [],_::_,_,_,h=>h.elim
 |_::_,[],_,_,h=>h.elim
 |e::es,p::ps,x,i,⟨h1,h2,h3⟩=>by
  simp only[List.map_cons,X8,mgB]
  cases hx:eq x p.1 with
  |true=>grind
  |false=>simp only[cond_false];exact HL h3
theorem HJ{ek:κ->Value}{r:GR ν}{O w}{eq:κ->κ->Bool}{y:ν}{v':Value}(hv:r.v O w v' y):∀ {es:List MapEntry} {xs:List (κ×ν)} {x:κ} {n i:Nat} {v:Value},JR ek r O w es xs->X8 eq es (xs.map (·.1)) x n=some (i,v) ->
   n<=i/\JR ek r O w (es.modify (i-n) fun e=>{ e with key:=ek x,val:=v' }) (mpB eq xs x y)/\∃e p,es[i-n]?=some e/\p∈xs/\e.key=ek p.1/\eq x p.1=true
 | [],[],x,n,i,v,h,hf=>by grind [X8]
 | [],_::_,x,n,i,v,h,hf=>h.elim
 |_::_,[],x,n,i,v,h,hf=>h.elim
 |e::es,p::ps,x,n,i,v,⟨h1,h2,h3⟩,hf=>by
  simp only[List.map_cons,X8]at hf
  cases hx:eq x p.1 with
  |true =>
   rw[hx]at hf;simp only[cond_true,zLw,Prod.mk.injEq]at hf;obtain⟨rfl,_⟩:=hf;refine⟨zLb _,?_,e,p,by simp,by simp,h1,hx⟩
   simp only[Nat.sub_self,List.modify_zero_cons,mpB,hx,cond_true];exact⟨rfl,hv,h3⟩
  |false =>
   rw[hx]at hf;simp only[cond_false]at hf;obtain⟨g1,g2,e',p',g3,g4,g5,g6⟩:=HJ hv h3 hf;refine⟨by omega,?_,e',p',?_,by grind,g5,g6⟩
   ·rw[show i-n=(i-(n+1))+1 by omega]
    simp only[List.modify_succ_cons,mpB,hx,cond_false];exact⟨h1,h2,g2⟩
   grind
theorem HK{ek:κ->Value}{r:GR ν}{O w}{eq:κ->κ->Bool}{y:ν}{v':Value}(hv:r.v O w v' y){b:Nat}:∀ {es:List MapEntry} {xs:List (κ×ν)} {x:κ} {n:Nat},JR ek r O w es xs->X8 eq es (xs.map (·.1)) x n=none->JR ek r O w (es++[{ key:=ek x,val:=v',born:=b }]) (mpB eq xs x y)
 | [],[],x,n,h,hf=>⟨rfl,hv,trivial⟩
 | [],_::_,x,n,h,hf=>h.elim
 |_::_,[],x,n,h,hf=>h.elim
 |e::es,p::ps,x,n,⟨h1,h2,h3⟩,hf=>by
  simp only[List.map_cons,X8]at hf
  cases hx:eq x p.1 with
  |true=>grind
  |false =>
   rw[hx]at hf;simp only[cond_false]at hf;simp only[mpB,hx,cond_false];exact⟨h1,h2,HK hv h3 hf⟩
def YA(k:Nat)(ek:κ->Value)(r:GR ν)(B:Nat->Prop)(O:zR)(w:World)(u:Value)(xs:List (κ×ν)):Prop :=
 ∃b es clock,u=.map (some b)/\w.heap[b]?=some (.map es clock)/\JR ek r O w es.toList xs/\B b/\O b=k
theorem YA.keep{k:Nat}{ek:κ->Value}{r:GR ν}{B:Nat->Prop}{O O':zR}{w w':World}{u:Value}{xs:List (κ×ν)}(h:YA k ek r B O w u xs)(h0:zb 0 O w O' w')(hk:zb k O w O' w'):YA k ek r B O' w' u xs:=by
 obtain⟨b,es,clock,h1,h2,h3,h4,h5⟩:=h;obtain⟨h6,h7⟩:=hk.2 b (zLy.1 h2).1 h5;exact⟨b,es,clock,h1,h7.trans h2,h3.mono h0,h4,h6⟩
section ops
variable {P:Program} {a:Act} {w:World} {d:Option Tmp} {T:TypeId} {pos:String} {aft:Array Edge} {g:Option (Nat×Bool)}
def C6(ek:κ->Value)(r:GR ν)(O:zR)(w:World)(u:Value)(xs:List (κ×ν)):Prop:=(u=.map none/\xs=[])\/∃b es clock,u=.map (some b)/\w.heap[b]?=some (.map es clock)/\JR ek r O w es.toList xs
theorem Do{X kT vT:TypeId}{t:Ty}{r:GR ν}{m x:Operand}{O:zR}{u:Value}{xs:List (t.D×ν)}{y:t.D}{z0:ν}{ok:Bool}{z1 s1 b1 dd z2 s2 b2}(hX:Eng.Ty P X (.map kT vT) z1 s1 b1)(hV:Eng.Ty P vT dd z2 s2 b2)(hz:r.v O w z2 z0)(hK:KeyB P kT t)(hm:a.eval m=u)(hO:C6 (gj t) r O w u xs)(hx:a.eval x=gj t y) :
  Ok P ⟨d,.lookup X m x ok,T,pos,aft,g⟩ a w (fun w v=>∃v0,(v=if ok=true then .tuple #[v0,.bool (isS (mgB t.eqb xs y))] else v0)/\r.v O w v0 (zEo (mgB t.eqb xs y) z0)):=by
 have hu:(underlying X).run P w=.ok (.map kT vT) w:=by simp[underlying,hX.u]
 rcases hO with ⟨rfl,rfl⟩|⟨b,es,clock,rfl,h2,h3⟩
 ·have hf:=hK.find [] [] y w rfl
  refine vC (v:=if ok=true then .tuple #[z2,.bool false] else z2) (w':=w) ?_ (Ext.refl w) ⟨z2,by simp[isS,mgB],hz⟩
  simp[execOp,Instr.lookup,hm,hx,hu,hK.check,hf,X8,hV.kc]
  try (cases ok<;>rfl)
 ·have hf:=hK.find es.toList (xs.map (·.1)) y w (JR.keys (P:=P) h3)
  have hg:=HL (eq:=t.eqb) (x:=y) (i:=0) h3
  cases bZ:X8 t.eqb es.toList (xs.map (·.1)) y 0 with
  |none =>
   rw[bZ]at hf hg;simp only at hg;refine vC (v:=if ok=true then .tuple #[z2,.bool false] else z2) (w':=w) ?_ (Ext.refl w) ⟨z2,by grind [isS],by rw[hg];exact hz⟩
   simp[execOp,Instr.lookup,hm,hx,hu,Go.MapKept.run_getObj_map h2,hK.check,hf,hV.kc]
   try (cases ok<;>rfl)
  |some p =>
   rw[bZ]at hf hg;obtain⟨y',h4,h5⟩:=hg;refine vC (v:=if ok=true then .tuple #[p.2,.bool true] else p.2) (w':=w) ?_ (Ext.refl w) ⟨p.2,by grind [isS],by rw[h4];exact h5⟩
   obtain⟨i,v⟩:=p;simp[execOp,Instr.lookup,hm,hx,hu,Go.MapKept.run_getObj_map h2,hK.check,hf]
   try (cases ok<;>rfl)
theorem pj{X kT vT:TypeId}{t:Ty}{r:GR ν}{m x v:Operand}{k:Nat}{A B:Nat->Prop}{O O0:zR}{w0:World}{u:Value}{xs:List (t.D×ν)}{y:t.D}{z:ν}{z1 s1 b1}{K:Act->World->Prop}{Q:Exit->Act->World->Prop}(sY:OkO O0 w0)(hB:Base A O0 w0 O w)(xD:OkB A w0 B)(hX:Eng.Ty P X (.map kT vT) z1 s1 b1)(hK:KeyB P kT t)(hm:a.eval m=u)(hO:YA k (gj t) r B O w u xs)(hk:k≠0)(hx:a.eval x=gj t y)(hv:r.v O w (a.eval v) z)
  (hK':∀w',YA k (gj t) r B O w' u (mpB t.eqb xs y z)->Base A O0 w0 O w'->KX (some k) O w O w'->K (a.put none undef) w'):Oper.wp P ⟨none,.mapUpdate X m x v,T,pos,aft,g⟩ a w K Q:=by
 obtain⟨b,es,clock,rfl,h2,h3,h4,h5⟩:=hO;have hu:(underlying X).run P w=.ok (.map kT vT) w:=by simp[underlying,hX.u]
 have gF:=(zLy.1 h2).1;have hf:=hK.find es.toList (xs.map (·.1)) y w (JR.keys (P:=P) h3)
 have sF:∀o',zb 0 O w O { w with heap:=w.heap.setIfInBounds b o' }:=fun o'=>⟨by simp,fun c hc h0=>⟨h0,by
  grind⟩⟩
 have fin:∀es' clock',JR (gj t) r O w es'.toList (mpB t.eqb xs y z)->K (a.put none undef) { w with heap:=w.heap.setIfInBounds b (.map es' clock') }:=by
  intro es' clock' he;refine hK' _ ⟨b,es',clock',rfl,by grind,he.mono (sF _),h4,h5⟩ (hB.but (xD.sub _ h4) (but_setObjB w b _) sY) (KX.but (but_setObjB w b _) h5)
 cases bZ:X8 t.eqb es.toList (xs.map (·.1)) y 0 with
 |none =>
  rw[bZ]at hf;have hr:(execOp a.eval ⟨none,.mapUpdate X m x v,T,pos,aft,g⟩).run P w=.ok .skip { w with heap:=w.heap.setIfInBounds b (.map (es.push { key:=gj t y,val:=a.eval v,born:=clock }) (clock+1)) }:=by
   simp[execOp,Instr.mapUpdate,hm,hx,hu,Go.MapKept.run_getObj_map h2,hK.check,hf,Go.MapKept.run_setObj_map _ h2]
  unfold Oper.wp;rw[hr];refine fin _ _ ?_;grind [HK]
 |some p =>
  rw[bZ]at hf;obtain⟨i,v0⟩:=p;obtain⟨_,hmod,e0,p0,xH,hp0,hek,fV⟩:=HJ hv h3 bZ;rw[Nat.sub_zero,Array.getElem?_toList]at xH;have oN:(Instr.keyThatStays e0.key (gj t y)).run P w=.ok (gj t y) w:=by
   simp[Instr.keyThatStays,hek,<-zEE fV,NU hK.clo]
  have hr:(execOp a.eval ⟨none,.mapUpdate X m x v,T,pos,aft,g⟩).run P w=.ok .skip { w with heap:=w.heap.setIfInBounds b (.map (es.modify i fun e=>{ e with key:=gj t y,val:=a.eval v }) clock) }:=by
   simp[execOp,Instr.mapUpdate,hm,hx,hu,Go.MapKept.run_getObj_map h2,hK.check,hf,xH,oN,Go.MapKept.run_setObj_map _ h2]
  unfold Oper.wp;rw[hr];refine fin _ _ ?_;grind
where
  but_setObjB (w:World) (b:Nat) (o:Obj):But b w { w with heap:=w.heap.setIfInBounds b o } :=
    ⟨rfl,rfl,rfl,by simp,fun c hc hn=>by grind⟩
theorem Vy{A:Nat->Prop}{O0 O:zR}{w0:World}(sY:OkO O0 w0)(hB:Base A O0 w0 O w){t:Ty}{r:GR ν}(k:Nat)(hk:k≠0) :
  ∃O',Base A O0 w0 O' (w.alloc (.map #[] 0))/\KX none O w O' (w.alloc (.map #[] 0))/\YA k (gj t) r (Go.Lift.Fr w0) O' (w.alloc (.map #[] 0)) (.map (some w.heap.size)) ([]:List (t.D×ν)):=by
 have hE:=Ext.alloc w (.map #[] 0);have hs:=hB.size
 refine⟨tag O (some w.heap.size) k,(hB.step hE sY).tag hk fun g hg=>?_,KX.tag hE fun g hg=>?_,w.heap.size,#[],0,rfl,(Go.MapKept.heap_alloc w _).1,trivial,by unfold Go.Lift.Fr;omega,yk _ _ _⟩
 ·cases hg;exact⟨hB.new _ hs,by simp⟩
 grind
end ops
end Go.Den
end
section
namespace Go.Den
open Go Go.RowKit Go.Eng Go.Lift
variable {α:Type}
def Mh:Value->Nat->Value
 |.slice p _ c,n=>.slice p n c
 |v,_=>v
theorem Dd(u:Value)(n:Nat):(Mh u n).ownBlock=u.ownBlock:=by
 cases u<;>try rfl
 rename_i p k c;cases p<;>rfl
theorem Kl{E:Nat}:∀ {vs:List Value},(∀x∈vs,x.cells.size=E)->(flat vs).length=vs.length * E
 | [],_=>by simp[flat]
 |y::vs,h=>by
   have hy:=h y (by simp)
   have:=Kl (vs:=vs) (fun y hy=>h y (by grind))
   grind [flat]
theorem wU{E:Nat}:∀ {vs:List Value},(∀x∈vs,x.cells.size=E)->∀n,(flat vs).take (n * E)=flat (vs.take n)
 | [],_,n=>by simp[flat]
 |y::vs,h,0=>by simp[flat]
 |y::vs,h,n+1=>by
   have hy:=h y (by simp)
   have:=wU (vs:=vs) (fun y hy=>h y (by grind)) n
   grind [flat,Nat.add_mul]
theorem Nm{w:World}{B T E:Nat}{u:Value}{vs:List Value}(h:OwnS w B T E u vs){n:Nat}(hn:n<=vs.length):OwnS w B T E (Mh u n) (vs.take n):=by
 have hs:∀x∈vs.take n,x.cells.size=E:=fun x hx=>h.sz x (List.mem_of_mem_take hx)
 have hl:(vs.take n).length=n:=by grind
 refine⟨hs,?_,?_⟩
 ·rw[Kl hs]
 ·rcases h.row.2 with ⟨h1,h2⟩|⟨b,cap,cur,h1,h2,h3,h4,h5,h6,h7⟩
  ·left
   have hn0:n=0:=by omega
   subst hn0;rw[h1];exact⟨rfl,by rw[hl]⟩
  ·right
   refine⟨b,cap,cur,by rw[h1,hl];rfl,h2,h3,by omega,h5,h6,?_⟩
   rw[hl,<-wU h.sz n,<-h7,List.take_take,Nat.min_eq_left (Nat.mul_le_mul_right _ hn)]
section ops
variable {P:Program} {a:Act} {w:World} {d:Option Tmp} {T:TypeId} {pos:String} {aft:Array Edge} {g:Option (Nat×Bool)}
theorem Y4{x h:Operand}{X e:TypeId}{r:GR α}{O:zR}{xs ys:List α}{n:Int}{k:IntKind}{m:Nat}{z sz by_ dd z' E by_'}(hT:Eng.Ty P X (.slice e) z sz by_)(he:Eng.Ty P e dd z' E by_')(hE:r.sz=E){u:Value}(hu:a.eval x=u)(hx:(rSl r).v O w u xs)(hh:a.eval h=.int k n)(hr:(sub xs 0 n).run m=some ys) :
  Ok P ⟨d,.slice X x none (some h) none,T,pos,aft,g⟩ a w (SP.isv (Mh u ys.length)).holds:=by
 obtain⟨⟨h1,h2,h3⟩,h4⟩:=jh hr;obtain⟨vs,s1,s2,s3⟩:=Yk.1 hx;subst hE;have fA:=s2.len
 obtain⟨p,c,hu',hc⟩:=s1.slice;have e4:ys=xs.take n.toNat:=h4.symm
 have e5:ys.length=n.toNat:=by grind
 rw[hu']at hu;refine vC (v:=.slice p n.toNat c) (w':=w) ?_ (Ext.refl w) (by rw[hu',e5];rfl)
 have h1':n<=(c:Int):=by omega
 simp[execOp,Instr.sliceAt,Instr.slice,Instr.sliceBounds,hu,hh,hT.gf,he.zy,gY h2 h1'];simp[Addr.add]
end ops
def zAO(r:GR α)(T:Nat)(O:zR)(w:World)(u:Value)(xs:List α):Prop:=Zo r T 0 O w u xs/\∀g,u.ownBlock=some g->O g≠0
theorem MX{k:Nat}{r:GR α}{T B O w u xs}(h:zo k r T B O w u xs)(hk:k≠0):zAO r T O w u xs :=
 ⟨h.arg hk,fun g hg=>by obtain⟨vs,_,_,h3⟩:=h;grind⟩
def FrS(w0:World)(u:Value):Nat->Prop:=fun b=>w0.heap.size<=b\/u.ownBlock=some b
theorem NR{r:GR α}{T:TypeId}{O:zR}{w:World}{u:Value}{xs:List α}(hO:OkO O w)(h:zAO r T O w u xs) :
  ∃O',Base (FrS w u) O w O' w/\zo 1 r T (FrS w u) O' w u xs/\zb 0 O w O' w:=by
 obtain⟨⟨vs,h1,h2⟩,h3⟩:=h;refine⟨tag O u.ownBlock 1,⟨rfl,rfl,rfl,zLb _,fun _ _ _=>rfl,hO.tag fun g hg=>h1.gK g hg,fun c _ hc=>gH fun e=>hc (.inr e),fun c _ hz=>?_,fun _ h=>.inl h⟩,⟨vs,h1,h2,fun g hg=>⟨by grind [yk],.inr hg⟩⟩,zLb _,fun c _ hc=>⟨?_,rfl⟩⟩
 ·grind [yk,gH]
 grind [gH]
theorem MY{k:Nat}{r:GR α}{T:TypeId}{O O':zR}{w0 w:World}{u u':Value}{ys:List α}(hB:Base (FrS w0 u) O w0 O' w)(h:zo k r T (FrS w0 u) O' w u' ys):Appd w0 w u u' :=
 ⟨⟨hB.os,hB.tape,hB.output,hB.size,fun c hc hn=>hB.block c hc fun e=>by
   rcases e with e|e
   ·omega
   grind⟩,by
  obtain⟨vs,_,_,h3⟩:=h
  cases hu:u'.ownBlock with
  |none=>grind
  |some g =>
   rcases(h3 g hu).2 with e|e
   ·grind
   grind⟩
theorem U5{k:Nat}{r:GR α}{T:TypeId}{O O':zR}{w0 w:World}{u u' v:Value}{ys:List α}{ψ:Value->Value->Prop}(hB:Base (FrS w0 u) O w0 O' w)(h:zo k r T (FrS w0 u) O' w u' ys)(hk:k≠0)(hv:ψ v u'):AP r T O w0 u ys ψ (.returned v) w:=by
 refine⟨v,u',rfl,MY hB h,?_,hv⟩;obtain⟨vs,h1,h2,h3⟩:=h;refine⟨vs,h1,h2.mono ⟨zLb _,fun c hc h0=>⟨?_,rfl⟩⟩⟩
 rw[gH fun e=>by grind]
 exact hB.zero c hc h0
theorem Cc{k:Nat}{r:GR α}{T:TypeId}{B:Nat->Prop}{O:zR}{w:World}{u:Value}{xs ys:List α}(h:zo k r T B O w u xs){m:Int}{n:Nat}(hs:(sub xs 0 m).run n=some ys):zo k r T B O w (Mh u ys.length) ys:=by
 obtain⟨⟨_,h2',h3'⟩,h4'⟩:=jh hs;obtain⟨vs,h1,h2,h3⟩:=h;have hl:=h2.len
 have e4:ys=xs.take m.toNat:=by grind
 have e5:ys.length=m.toNat:=by grind
 refine⟨vs.take ys.length,Nm h1 (by omega),?_,fun g hg=>h3 g (by rw[<-hg,Dd])⟩
 have e6:ys=xs.take ys.length:=by grind
 conv=>rhs;rw[e6]
 exact h2.take _
def rS:Value->Nat->Nat->Value
 |.slice a n c,lo,E=>.slice (if c=lo then a else a.map (·.add (lo * E))) (n-lo) (c-lo)
 |v,_,_=>v
section ops
variable {P:Program} {a:Act} {w:World} {d:Option Tmp} {T:TypeId} {pos:String} {aft:Array Edge} {g:Option (Nat×Bool)}
theorem Ac{x l:Operand}{X e:TypeId}{r:GR α}{O:zR}{xs ys:List α}{n:Int}{k:IntKind}{m:Nat}{z sz by_ dd z' E by_'}(hT:Eng.Ty P X (.slice e) z sz by_)(he:Eng.Ty P e dd z' E by_')(hE:r.sz=E){u:Value}(hu:a.eval x=u)(hx:(rSl r).v O w u xs)(hl:a.eval l=.int k n)(hr:(sub xs n xs.length).run m=some ys) :
  Ok P ⟨d,.slice X x (some l) none none,T,pos,aft,g⟩ a w (SP.isv (rS u n.toNat E)).holds:=by
 obtain⟨⟨h1,h2,h3⟩,h4⟩:=jh hr;obtain⟨vs,s1,s2,s3⟩:=Yk.1 hx;subst hE;have fA:=s2.len
 obtain⟨p,c,hu',hc⟩:=s1.slice;rw[hu']at hu;refine vC (v:=rS u n.toNat r.sz) (w':=w) ?_ (Ext.refl w) rfl;simp[execOp,Instr.sliceAt,Instr.slice,Instr.sliceBounds,hu,hl,hT.gf,he.zy,gY h1 (show n<=(vs.length:Int) by omega),hu',rS]
end ops
theorem range_zero(zc:Array Value)(n:Nat):(Builtin.zeroCells zc n).toList=(List.replicate n zc.toList).flatten:=by
 simp only[Builtin.zeroCells,Array.toList_map,Array.toList_range]
 induction n with
 |zero=>simp
 |succ n ih =>
  rw[Nat.add_mul,Nat.one_mul,List.range_add,List.map_append,ih,List.replicate_succ',List.flatten_append]
  congr 1
  simp only[List.flatten_cons,List.flatten_nil,zMF,List.map_map];apply List.ext_getElem
  ·simp
  simp_all [Nat.mod_eq_of_lt]
section tails
variable {P:Program} {a:Act} {w:World} {T:TypeId} {pos:String} {aft:Array Edge} {g:Option (Nat×Bool)} {K:Act->World->Prop} {Q:Exit->Act->World->Prop} {A:Nat->Prop}
theorem Uf{x:Operand}{t e E k:Nat}{m:Int}{nf:Nat}{r:GR α}(hr:r.fits)(hE:r.sz=E){O O0:zR}{w0:World}(sY:OkO O0 w0)(hB:Base A O0 w0 O w){B:Nat->Prop}(xD:OkB A w0 B){xs ys:List α}{u z:Value}{z0:α}{z1 s1 b1 dd b2}(hT:Eng.Ty P t (.slice e) z1 s1 b1)(he:Eng.Ty P e dd z E b2)(hx:a.eval x=rS u m.toNat E)(hO:zo k r e B O w u xs)(hk:k≠0)(hs:(sub xs m xs.length).run nf=some ys)(hz:∀O w,r.v O w z z0)
  (hK:∀w',zo k r e B O w' u (xs.take m.toNat++List.replicate (xs.length-m.toNat) z0)->Base A O0 w0 O w'->KX (some k) O w O w'->K (a.put none (.tuple #[])) w'):Oper.wp P ⟨none,.call ⟨.builtin .clear,#[x],#[t]⟩,T,pos,aft,g⟩ a w K Q:=by
 obtain⟨⟨h1',h2',_⟩,_⟩:=jh hs;have hlo:m.toNat<=xs.length:=by omega
 clear hs h1' h2';generalize m.toNat=lo at hx hK hlo;subst hE;have tW:=hO.ge
 have bA:=hO.tagged;have hO':=hO
 obtain⟨vs,h1,h2,h3⟩:=hO;have fA:=h2.len
 have hu:(underlying t).run P w=.ok (.slice e) w:=by simp[underlying,hT.u]
 have zsz:z.cells.size=r.sz:=r.Ze hr (hz O w);by_cases h0:xs.length-lo=0
 ·have e:xs.take lo++List.replicate (xs.length-lo) z0=xs:=by grind
  rw[e]at hK;refine rA (v:=.tuple #[]) (w':=w) ?_ (hK w hO' hB ⟨zLb _,fun _ _ _=>⟨rfl,rfl⟩⟩)
  obtain⟨p,c,hu',hc⟩:=h1.slv.slice;have:vs.length-lo=0:=by omega
  cases p<;>by_cases xO:c=lo<;>simp[execOp,resolve,invoke,builtin,hx,hu',rS,Builtin.clear_,hu,this,xO]
 ·rcases h1.row.2 with ⟨_,h4⟩|⟨g,cap,cur,hu',mM,hg,dP,dQ,xG,m9⟩
  ·omega
  have xO:¬cap=lo:=by omega
  have hxv:rS u lo r.sz=.slice (some ⟨g,lo * r.sz,none⟩) (vs.length-lo) (cap-lo):=by
   simp_all [rS,kC]
  have hLl:(List.replicate (vs.length-lo) z.cells.toList).flatten.length=(vs.length-lo) * r.sz:=by simp[zsz]
  have hmul:vs.length * r.sz=lo * r.sz+(vs.length-lo) * r.sz:=by rw[<-Nat.add_mul];grind
  have sR:vs.length * r.sz<=cap * r.sz:=Nat.mul_le_mul_right _ dP;have bB:∀v∈(List.replicate (vs.length-lo) z.cells.toList).flatten,v.oneCell'=true:=by
   intro v hv;obtain⟨l,hl,hvl⟩:=List.mem_flatten.1 hv;rw[List.eq_of_mem_replicate hl]at hvl;exact r.cells_one hr (hz O w) v hvl
  obtain⟨w',cs',s1,s2,s3,s4,s5,s6,s7,s8,s9⟩:=kX (P:=P) (off:=lo * r.sz) (List.replicate (vs.length-lo) z.cells.toList).flatten 0 w cur bB hg (by omega)
  have h5:Appd w w' u u:=⟨⟨s5,s6,s7,by omega,fun c _ hc=>s9 c (fun e=>hc (by rw[hu',e];rfl))⟩,.inl rfl⟩
  have sP:KX (some k) O w O w':=⟨h5.by_.size,fun b hb eX=>⟨rfl,h5.by_.block b hb (fun e=>eX (by grind))⟩⟩
  have k0:=sP.keep (k:=0) (by grind)
  have sD:=hB.size;have aN:=h5.by_.size
  have pV:∀x∈vs.take lo++List.replicate (vs.length-lo) z,x.cells.size=r.sz:=by
   intro x hx';rcases zLi.1 hx' with h|h
   ·exact h1.sz x (List.mem_of_mem_take h)
   grind
  have hl':(vs.take lo++List.replicate (vs.length-lo) z).length=vs.length:=by grind
  have cM:flat (vs.take lo++List.replicate (vs.length-lo) z)=cur.toList.take (lo * r.sz)++(List.replicate (vs.length-lo) z.cells.toList).flatten:=by
   have e1:flat (vs.take lo++List.replicate (vs.length-lo) z)=flat (vs.take lo)++flat (List.replicate (vs.length-lo) z):=by unfold flat;grind
   rw[e1,<-wU h1.sz lo,<-m9,List.take_take,Nat.min_eq_left (by omega)]
   grind [flat,List.map_replicate]
  have hO2:OwnS w' 0 e r.sz u (vs.take lo++List.replicate (vs.length-lo) z):=by
   refine⟨pV,by grind,.inr ⟨g,cap,cs',by grind,mM,s2,by omega,dQ,by omega,?_⟩⟩
   rw[cM,hl'];apply List.ext_getElem?;intro j;have hcl':cur.toList.length=cap * r.sz:=by omega
   rw[List.getElem?_take,List.getElem?_append,zLu,hcl',Nat.min_eq_left (by omega)]
   grind
  have eZ:y5 r O w' (vs.take lo++List.replicate (vs.length-lo) z) (xs.take lo++List.replicate (xs.length-lo) z0):=by
   rw[fA];exact y5.append ((h2.mono k0).take lo) (y5.replicate (hz O w') _)
  refine rA (v:=.tuple #[]) (w':=w') ?_ (hK w' ⟨_,hO2,eZ,h3⟩ ?_ sP)
  ·obtain⟨n1,e9⟩:∃n1,vs.length-lo=n1+1:=⟨vs.length-lo-1,by omega⟩
   rw[e9]at hxv s1;rw[<-range_zero]at s1;simp[execOp,resolve,invoke,builtin,hx,hxv,Builtin.clear_,hu,he.kc,s1]
  ·exact⟨h5.by_.os.trans hB.os,h5.by_.tape.trans hB.tape,h5.by_.output.trans hB.output,by omega,fun b hb bY=>(h5.by_.block b (by omega) (fun e=>bY (xD.sub b (tW b e.symm).1))).trans (hB.block b hb bY),
    fun b hb'=>hB.ok b (by omega),hB.old,fun b _ ho=>by
     by_cases gF:b<w.heap.size
     ·exact hB.zero b gF ho
     omega,hB.new⟩
end tails
end Go.Den
end
