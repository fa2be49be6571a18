/- Lemmas behind a claim. -/
import Derived.Test.YtknbpncolbmoaaaGreatKPoD
set_option linter.unusedSimpArgs false
set_option linter.unusedVariables false
open Go.Lift.Comp (zA QM Xj zO vN)
section
namespace Go.Lift
open Go Go.Eng
variable {α β γ δ ε σ τ:Type}
namespace Comp
def ZN(f:σ->α->Step σ ε)(fin:σ->ε):σ->List α->ε
 |s,[]=>fin s
 |s,x::xs=>match f s x with
  |.next s'=>ZN f fin s' xs
  |.done e=>e
def Step.map(g:σ->τ):Step σ ε->Step τ ε
 |.next s=>.next (g s)
 |.done e=>.done e
theorem YW{body:τ->Comp (Step τ ε)}(st:σ->Nat->τ)(xs:List α)(f:σ->α->Step σ ε)(fin:σ->ε)(I:σ->Nat->Prop)
  (hb:∀s i x,xs[i]?=some x->I s i->(body (st s i)).val=some ((f s x).map fun s'=>st s' (i+1)))
  (hI:∀s i x s',xs[i]?=some x->I s i->f s x=.next s'->I s' (i+1))
  (he:∀s,I s xs.length->(body (st s xs.length)).val=some (.done (fin s))) (s:σ) (h0:I s 0):(loop body (st s 0)).val=some (ZN f fin s xs):=by
 have key:∀(ys zs:List α) (s:σ),xs=zs++ys->I s zs.length->(loop body (st s zs.length)).val=some (ZN f fin s ys):=by
  intro ys
  induction ys with
  |nil =>
   intro zs s hx hs;rw[List.append_nil]at hx;subst hx;rw[zO,he s hs];rfl
  |cons y ys ih =>
   intro zs s hx hs;have hy:xs[zs.length]?=some y:=by rw[hx];simp
   rw[zO,hb s _ y hy hs];simp only[ZN,zKS]
   cases hf:f s y with
   |next s' =>
    simp only[Step.map];have:=ih (zs++[y]) s' (by rw[hx];simp) (by have:=hI s _ y s' hy hs hf;simpa using this)
    simpa using this
   |done e=>rfl
 exact key xs [] s rfl h0
theorem XU{f:σ->α->σ}{fin:σ->ε}:∀(xs:List α) (s:σ),ZN (fun s x=>.next (f s x)) fin s xs=fin (xs.foldl f s)
 | [],_=>rfl
 |x::xs,s=>by simp only[ZN,List.foldl_cons];exact XU xs (f s x)
end Comp
theorem zQ{xs:List α}{i:Nat}{x:α}(h:xs[i]?=some x):(idx xs (i:Int)).val=some x:=by
 unfold idx;rw[zKu (by omega)];simp[h]
theorem KQ{xs:List α}{i:Int}{x:α}(h0:0<=i)(h:xs[i.toNat]?=some x):(idx xs i).val=some x:=by
 unfold idx;rw[zKu h0];simp[h]
theorem yP{xs ys:List α}(h:xs.length+ys.length<=LIM):(app xs ys).val=some (xs++ys):=by
 unfold app;rw[zKu h];simp
theorem YK{xs:List α}{l h:Int}(hr:0<=l/\l<=h/\h<=xs.length):(sub xs l h).val=some ((xs.take h.toNat).drop l.toNat):=by
 unfold sub;rw[zKu hr];simp
theorem mk_val{n:Int}{z:α}(h:0<=n/\n<=LIM):(mk n z).val=some (List.replicate n.toNat z):=by
 unfold mk;rw[zKu h];simp
theorem UF{xs:List α}{i:Int}{x:α}(h:0<=i/\i<xs.length):(upd xs i x).val=some (xs.set i.toNat x):=by
 unfold upd;rw[zKu h];simp
theorem Zl{a b:Int}(h:b≠0):(rem a b).val=some (a.tmod b):=by
 unfold rem;rw[zKv h];simp
theorem zM{xs:List α}{i:Nat}{x:α}(h:xs[i]?=some x):i<xs.length:=(zKa.1 h).1
def Ok(c:Comp α)(P:α->Prop):Prop:=∃a,c.val=some a/\P a
namespace Ok
theorem yc{c:Comp α}{a:α}{P:α->Prop}(h:c.val=some a):Ok c P↔P a:=by
 constructor
 ·rintro⟨b,h1,h2⟩;rw[h]at h1;cases h1;exact h2
 ·exact fun hp=>⟨a,h,hp⟩
theorem val{c:Comp α}{a:α}(h:Ok c (fun x=>x=a)):c.val=some a:=by
 obtain⟨b,h1,h2⟩:=h;rw[h1,h2]
theorem mono{c:Comp α}{P Q:α->Prop}(h:Ok c P)(i:∀a,P a->Q a):Ok c Q:=by
 obtain⟨a,h1,h2⟩:=h;exact⟨a,h1,i a h2⟩
theorem pure{a:α}{P:α->Prop}:Ok (Comp.pure a) P↔P a:=yc (Comp.zB a)
theorem bind{c:Comp α}{f:α->Comp β}{P:β->Prop}:Ok (c.bind f) P↔Ok c fun a=>Ok (f a) P:=by
 unfold Ok;rw[zA]
 cases hc:c.val with
 |none=>simp
 |some a=>simp
theorem zK{c:Comp α}{a:α}(h:c.val=some a){f:α->Comp β}{P:β->Prop}:Ok (c.bind f) P↔Ok (f a) P:=by rw[bind,yc h]
theorem gd{g:Bool}{c:Comp α}{d:α}{P:α->Prop}:Ok (Comp.gd g c d) P↔if g=true then Ok c P else P d:=by
 cases g with
 |true=>exact Iff.rfl
 |false=>exact pure
theorem YI{g:Bool}{c:Comp α}{d:α}{P:α->Prop}(h1:g=true->Ok c P)(h2:g=false->P d):Ok (Comp.gd g c d) P:=by
 cases g with
 |true=>exact h1 rfl
 |false=>exact pure.2 (h2 rfl)
theorem idx{xs:List α}{i:Int}{P:α->Prop}{x:α}(h0:0<=i)(h:xs[i.toNat]?=some x):Ok (Lift.idx xs i) P↔P x:=yc (KQ h0 h)
theorem Z0{xs:List α}{i:Nat}{P:α->Prop}{x:α}(h:xs[i]?=some x):Ok (Lift.idx xs (i:Int)) P↔P x:=yc (zQ h)
theorem app{xs ys:List α}{P:List α->Prop}(h:xs.length+ys.length<=LIM):Ok (Lift.app xs ys) P↔P (xs++ys):=yc (yP h)
theorem sub{xs:List α}{l h:Int}{P:List α->Prop}(hr:0<=l/\l<=h/\h<=xs.length):Ok (Lift.sub xs l h) P↔P ((xs.take h.toNat).drop l.toNat):=yc (YK hr)
theorem rem{a b:Int}{P:Int->Prop}(h:b≠0):Ok (Lift.rem a b) P↔P (a.tmod b):=yc (Zl h)
theorem upd{xs:List α}{i:Int}{x:α}{P:List α->Prop}(h:0<=i/\i<xs.length):Ok (Lift.upd xs i x) P↔P (xs.set i.toNat x):=yc (UF h)
theorem mk{n:Int}{z:α}{P:List α->Prop}(h:0<=n/\n<=LIM):Ok (Lift.mk n z) P↔P (List.replicate n.toNat z):=yc (mk_val h)
theorem loop{body:σ->Comp (Comp.Step σ ε)}(I:σ->Prop)(m:σ->Nat){P:ε->Prop}{s:σ}(h0:I s)
  (hb:∀s,I s->Ok (body s) fun t=>match t with|.next s'=>I s'/\m s'<m s|.done e=>P e):Ok (Comp.loop body s) P:=by
 have key:∀k s,m s=k->I s->Ok (Comp.loop body s) P:=by
  intro k
  induction k using Nat.strongRecOn with
  |_ k ih =>
   intro s hk hI;obtain⟨t,h1,h2⟩:=hb s hI
   cases t with
   |next s' =>
    obtain⟨e,h3,h4⟩:=ih (m s') (by have:=h2.2;omega) s' rfl h2.1
    exact⟨e,by rw[zO,h1];exact h3,h4⟩
   |done e=>exact⟨e,by rw[zO,h1];rfl,h2⟩
 exact key _ s rfl h0
theorem count{body:σ->Comp (Comp.Step σ ε)}(N:Nat)(I:Nat->σ->Prop){P:ε->Prop}{s:σ}(h0:I 0 s)
  (hb:∀i s,i<N->I i s->Ok (body s) fun t=>match t with|.next s'=>I (i+1) s'|.done e=>P e)
  (he:∀s,I N s->Ok (body s) fun t=>match t with|.next _=>False|.done e=>P e):Ok (Comp.loop body s) P:=by
 have key:∀k i s,i+k=N->I i s->Ok (Comp.loop body s) P:=by
  intro k
  induction k with
  |zero =>
   intro i s hi hI;have:i=N:=by omega
   subst this;obtain⟨t,h1,h2⟩:=he s hI
   cases t with
   |next _=>exact h2.elim
   |done e=>exact⟨e,by rw[zO,h1];rfl,h2⟩
  |succ k ih =>
   intro i s hi hI;obtain⟨t,h1,h2⟩:=hb i s (by omega) hI
   cases t with
   |next s' =>
    obtain⟨e,h3,h4⟩:=ih (i+1) s' (by omega) h2
    exact⟨e,by rw[zO,h1];exact h3,h4⟩
   |done e=>exact⟨e,by rw[zO,h1];rfl,h2⟩
 exact key N 0 s (by omega) h0
end Ok
end Go.Lift
end
section
namespace Go.Geo
open Go Go.Eng Go.Lift Go.Den
variable {α β γ δ ε σ τ:Type}
theorem zH{m n:Int}:(ltI m n=true)=(m<n):=by simp[ltI]
theorem ya{m n:Int}:(gtI m n=true)=(n<m):=by simp[gtI]
theorem SD{m n:Int}:(leI m n=true)=(m<=n):=by simp[leI]
theorem YA{m n:Int}:(geI m n=true)=(n<=m):=by simp[geI]
theorem yA{m n:Int}:(eqI m n=true)=(m=n):=by simp[eqI]
theorem zj{m n:Int}:(neI m n=true)=(m≠n):=by simp[neI]
theorem vR(f:α->Comp β)(g:(α->Comp β)->Comp β):jn f g=g f:=rfl
theorem yQ(b:Bool):ntB b = !b:=rfl
theorem jD(a b:Bool):sel a true b=(a || b):=by cases a<;>rfl
theorem vg(a b:Bool):sel a b false=(a && b):=by cases a<;>rfl
theorem zC(xs:List α):zF xs=(xs.length:Int):=rfl
def W(n:Int):Int:=IntKind.wrap .i64 n
theorem Hp(n:Int):W n=(n+9223372036854775808) % 18446744073709551616-9223372036854775808:=by
 unfold W;simp[IntKind.wrap,IntKind.bits,IntKind.signed];split<;>omega
theorem ml{n:Int}(h : -9223372036854775808<=n/\n<9223372036854775808):W n=n:=by rw[Hp];omega
theorem Wi{m n:Int}(k:Int)(h:m=n+18446744073709551616 * k):W m=W n:=by rw[Hp,Hp];omega
theorem Ho(n:Int):∃k,W n=n+18446744073709551616 * k:=⟨- ((n+9223372036854775808) / 18446744073709551616),by rw[Hp];omega⟩
theorem V2(m n:Int):W (W m+n)=W (m+n):=by
 obtain⟨k,h⟩:=Ho m;exact Wi k (by rw[h];omega)
theorem V1(m n:Int):W (m+W n)=W (m+n):=by
 obtain⟨k,h⟩:=Ho n;exact Wi k (by rw[h];omega)
theorem G7(m n:Int):W (W m-n)=W (m-n):=by
 obtain⟨k,h⟩:=Ho m;exact Wi k (by rw[h];omega)
theorem G6(m n:Int):W (m-W n)=W (m-n):=by
 obtain⟨k,h⟩:=Ho n;exact Wi (-k) (by rw[h];omega)
theorem zDe(m n:Int):zJ .i64 m n=W (m+n):=rfl
theorem QQ(m n:Int):gj .i64 m n=W (m-n):=rfl
theorem Qv(m n:Int):kW .i64 m n=W (m * n):=rfl
theorem zCn(m:Int):Yb .i64 m=W (-m):=by unfold Yb;rw[Int.zero_sub];rfl
theorem yh{m n:Int}(h : -9223372036854775808<=m+n/\m+n<9223372036854775808):zJ .i64 m n=m+n:=ml h
theorem YE{m n:Int}(h : -9223372036854775808<=m-n/\m-n<9223372036854775808):gj .i64 m n=m-n:=ml h
theorem YG{m n:Int}(h : -9223372036854775808<=m * n/\m * n<9223372036854775808):kW .i64 m n=m * n:=ml h
theorem JV{m:Int}(h : -9223372036854775808<m/\m<9223372036854775808):Yb .i64 m = -m:=by rw[zCn];exact ml (by omega)
theorem zL{i:Nat}(h:i<9223372036854775807):zJ .i64 (i:Int) 1=((i+1:Nat):Int):=by rw[yh (by omega)];omega
theorem YP:LIM<9223372036854775807:=by decide
theorem vQ{n:Nat}{m:Int}(h:0<=m/\m<n):(inb n m).val=some ():=by unfold inb;rw[zKu h];exact Comp.zB _
theorem Vx{e:Bool}{c:Comp β}{y:β}(h1:e=true->c.val=some y){d:Comp β}(h2:d.val=some y):(amb e c d).val=some y:=by
 cases e with
 |false=>exact h2
 |true =>
  obtain⟨n,hn⟩:=vN.1 (h1 rfl);obtain⟨m,hm⟩:=vN.1 h2;have a1:=c.mono (Nat.le_max_left n m) hn
  have a2:=d.mono (Nat.le_max_right n m) hm;refine vN.2 ⟨max n m,?_⟩
  show (match c.run (max n m),d.run (max n m) with
  |some x,some y=>match Classical.propDecidable (x=y) with
   |.isTrue _=>some x
   |.isFalse _=>none
  |_,_=>none)=some y
  rw[a1,a2];simp only;split
  ·rfl
  ·rename_i h _;exact zKk rfl h
theorem Kk{xs:List α}{i:Int}{x:α}(h:(if 0<=i then xs[i.toNat]? else none)=some x):(idx xs i).val=some x:=by
 split at h
 ·rename_i h0;exact KQ h0 h
 ·cases h
theorem K2{body:τ->Comp (Comp.Step τ ε)}(st:σ->Nat->τ)(xs:List α)(f:σ->α->Comp.Step σ ε)(fin:σ->ε)(s:σ)
  (hb:∀s i x,xs[i]?=some x->(body (st s i)).val=some ((f s x).map fun s'=>st s' (i+1)))
  (he:∀s,(body (st s xs.length)).val=some (.done (fin s))):(Comp.loop body (st s 0)).val=some (Comp.ZN f fin s xs) :=
 Comp.YW st xs f fin (fun _ _=>True) (fun s i x hx _=>hb s i x hx) (fun _ _ _ _ _ _ _=>trivial) (fun s _=>he s) s trivial
theorem rz{p:α->Bool}{c d:ε}:∀(xs:List α),Comp.ZN (fun (_:Unit) x=>if p x=true then .next () else .done c) (fun _=>d) () xs=bif xs.all p then d else c
 | []=>rfl
 |x::xs=>by
  have ih:=rz (p:=p) (c:=c) (d:=d) xs;rw[Comp.ZN,List.all_cons];generalize p x=b
  cases b with
  |true=>exact ih
  |false=>rfl
theorem Zq{body:Int->Comp (Comp.Step Int ε)}(xs:List α)(p:α->Bool){c d:ε}(hb:∀(i:Nat) x,xs[i]?=some x->(body (i:Int)).val=some (if p x=true then .next ((i+1:Nat):Int) else .done c))(he:(body (xs.length:Int)).val=some (.done d)) :
  (Comp.loop body 0).val=some (bif xs.all p then d else c):=by
 have h1:=K2 (fun (_:Unit) i=>((i:Nat):Int)) xs (fun (_:Unit) x=>if p x=true then .next () else .done c) (fun _=>d) () (body:=body)
  (fun s i x hx=>by rw[hb i x hx];cases p x<;>rfl) (fun s=>he)
 rw[rz]at h1;exact h1
def fnd(p:α->Bool):List α->Nat->Option Nat
 | [],_=>none
 |x::xs,i=>if p x=true then some i else fnd p xs (i+1)
theorem mN{p:α->Bool}:∀ {xs:List α} {i:Nat},(fnd p xs i).isSome=xs.any p
 | [],_=>rfl
 |x::xs,i=>by
  simp only[fnd,List.any_cons]
  cases hp:p x with
  |true=>rfl
  |false=>simp[mN (xs:=xs)]
theorem BX{p:α->Bool}:∀ {xs:List α} {i j:Nat},fnd p xs i=some j->i<=j/\∃x,xs[j-i]?=some x/\p x=true/\∀k y,k<j-i->xs[k]?=some y->p y=false
 | [],_,_,h=>by cases h
 |x::xs,i,j,h=>by
  unfold fnd at h;split at h
  ·rename_i hp
   cases h
   exact⟨zKW _,x,by simp,hp,fun k y hk _=>by omega⟩
  ·rename_i hp
   obtain⟨h1,y,h2,h3,h4⟩:=BX h;refine⟨by omega,y,by rw[show j-i=(j-(i+1))+1 by omega,List.getElem?_cons_succ];exact h2,h3,fun k z hk hz=>?_⟩
   cases k with
   |zero=>simp at hz;subst hz;simpa using hp
   |succ k=>exact h4 k z (by omega) (by simpa using hz)
def Hg(x0:List α)(x1:α×Unit->Comp (Bool×Unit)):Comp (Int×Unit) :=
 (Comp.loop
   (fun (x:Int)=>if ltI x (zF x0)=true then
     (idx x0 x).bind fun x_1=>(x1 (x_1,())).bind fun x_2=>if x_2.1=true then Comp.pure (.done (Sum.inr x)) else Comp.pure (.next (zJ .i64 x 1))
    else Comp.pure (.done (Sum.inl ())))
   0).bind fun (x:Unit⊕Int)=>match x with
  |Sum.inl x=>Comp.pure (-1,())
  |Sum.inr x=>Comp.pure (x,())
def WU:Option Nat->Int
 |some i=>i
 |none => -1
theorem BR{xs:List α}{f:α×Unit->Comp (Bool×Unit)}{p:α->Bool}(hl:xs.length<9223372036854775807)(hf:∀x∈xs,(f (x,())).val=some (p x,())):(Hg xs f).val=some (WU (fnd p xs 0),()):=by
 unfold Hg;have key:∀(ys:List α) (i:Nat),Comp.ZN (fun (s:Nat) x=>if p x=true then .done (Sum.inr ((s:Nat):Int)) else .next (s+1)) (fun _=>(Sum.inl ():Unit⊕Int)) i ys=match fnd p ys i with|some j=>Sum.inr ((j:Nat):Int)|none=>Sum.inl ():=by
  intro ys
  induction ys with
  |nil=>intro i;rfl
  |cons y ys ih =>
   intro i;simp only[Comp.ZN,fnd]
   cases hp:p y with
   |true=>rfl
   |false=>exact ih (i+1)
 have h:=Comp.YW (fun (s:Nat) i=>((i:Nat):Int)) xs (fun (s:Nat) x=>if p x=true then .done (Sum.inr ((s:Nat):Int)) else .next (s+1)) (fun _=>(Sum.inl ():Unit⊕Int)) (fun s i=>s=i)
  (body:=fun (x:Int)=>if ltI x (zF xs)=true then
     (idx xs x).bind fun x_1=>(f (x_1,())).bind fun x_2=>if x_2.1=true then Comp.pure (.done (Sum.inr x)) else Comp.pure (.next (zJ .i64 x 1))
    else Comp.pure (.done (Sum.inl ())))
  (fun s i x hx hs=>by
   subst hs;have gF:=zM hx
   have h1:(s:Int)<zF xs:=by rw[zC];omega
   simp only[zH,h1,if_true,zA,zQ hx,zKS,hf x (zKZ hx),zL (show s<9223372036854775807 by omega)]
   cases hp:p x<;>simp[Comp.Step.map])
  (fun s i x s' hx hs he=>by
   subst hs
   cases hp:p x with
   |true=>rw[hp]at he;cases he
   |false=>rw[hp]at he;cases he;rfl)
  (fun s hs=>by
   have h1:¬((xs.length:Int)<zF xs):=by rw[zC];omega
   simp only[zH,h1,if_false,Comp.zB]) 0 rfl
 rw[key xs 0]at h;rw[zA];refine(zKl (fun o=>Option.bind o _) h).trans ?_
 rw[zKS];cases fnd p xs 0<;>exact Comp.zB _
def zGy(x0:List α)(x1:α×Unit->Comp (Bool×Unit)):Comp (Bool×Unit):=(Hg x0 x1).bind fun x=>Comp.pure (geI x.1 0,())
theorem Zp{xs:List α}{f:α×Unit->Comp (Bool×Unit)}{p:α->Bool}(hl:xs.length<9223372036854775807)(hf:∀x∈xs,(f (x,())).val=some (p x,())):(zGy xs f).val=some (xs.any p,()):=by
 unfold zGy;rw[zA,BR hl hf,zKS,Comp.zB,<-mN (i:=0)];cases fnd p xs 0<;>simp[WU,geI]
end Go.Geo
end
noncomputable section
namespace Go.Geo
open Go Go.Eng Go.Lift Go.Den
variable {α β γ δ ε σ τ:Type}
def SH(z:α)(x0:Int):Comp (List α×Unit) :=
 jn
  (fun (x:Unit)=>jn (fun (x:List α)=>Comp.pure (x,()))
    fun (j:List α->Comp (List α×Unit))=>if gtI (gj .i64 x0 0) 0=true then
     jn (fun (x:List α)=>j x)
      fun (j:List α->Comp (List α×Unit))=>((sub [] 0 0).bind fun (x:List Unit)=>Comp.pure ()).bind fun x=>(mk (gj .i64 x0 0) z).bind fun zs=>(sub zs 0 0).bind fun ys=>j ys
    else j [])
  fun (j:Unit->Comp (List α×Unit))=>if ltI x0 0=true then Comp.fail else j ()
theorem Nk{z:α}{n:Nat}(h:n<=LIM):(SH z n).val=some ([],()):=by
 have hL:=YP;unfold SH;simp only[vR,zH,ya,YE (show -9223372036854775808<=(n:Int)-0/\(n:Int)-0<9223372036854775808 by omega)]
 rw[zKv (by omega)]
 rw[Xj];split
 ·have h1:(sub ([]:List Unit) 0 0).val=some []:=by rw[YK (by simp)];rfl
  have h2:(mk ((n:Int)-0) z).val=some (List.replicate n z):=by rw[mk_val (by omega)];simp
  have h3:(sub (List.replicate n z) 0 0).val=some []:=by rw[YK (by simp)];simp
  simp only[zA,h1,h2,h3,zKS,Comp.zB]
 ·exact Comp.zB _
def zHC(z:α)(x0:List (List α)):Comp (List α×Unit) :=
 (Comp.loop
   (fun (x:Int×Int)=>if ltI x.2 (zF x0)=true then
     (idx x0 x.2).bind fun x_1=>jn (fun (x_2:Unit)=>Comp.pure (.next (zJ .i64 x.1 (zF x_1),zJ .i64 x.2 1)))
       fun (j:Unit->Comp (Comp.Step (Int×Int) Int))=>if ltI (zJ .i64 x.1 (zF x_1)) 0=true then Comp.fail else j ()
    else Comp.pure (.done x.1))
   (0,0)).bind fun x=>(SH z x).bind fun y=>(Comp.loop
     (fun (x:List α×Int)=>if ltI x.2 (zF x0)=true then
       (idx x0 x.2).bind fun x_1=>(app x.1 x_1).bind fun zs=>Comp.pure (.next (zs,zJ .i64 x.2 1))
      else Comp.pure (.done x.1))
     (y.1,0)).bind fun x=>Comp.pure (x,())
theorem YD{xs:List (List α)}{i:Nat}{x:List α}(h:xs[i]?=some x):(xs.take (i+1)).flatten=(xs.take i).flatten++x:=by
 rw[List.take_add_one,h];simp
theorem tM{xs:List (List α)}(i:Nat):(xs.take i).flatten.length<=xs.flatten.length:=by
 conv=>rhs;rw[<-List.take_append_drop i xs,List.flatten_append,zKV]
 omega
theorem mV{z:α}{xs:List (List α)}(h:xs.flatten.length<=LIM)(hn:xs.length<9223372036854775807):(zHC z xs).val=some (xs.flatten,()):=by
 have hL:=YP;unfold zHC;have h1:=Comp.YW (fun (s:Nat) i=>(((s:Nat):Int),((i:Nat):Int))) xs (fun (s:Nat) x=>.next (s+x.length)) (fun s=>((s:Nat):Int)) (fun s i=>s=(xs.take i).flatten.length)
  (body:=fun (x:Int×Int)=>if ltI x.2 (zF xs)=true then
     (idx xs x.2).bind fun x_1=>jn (fun (x_2:Unit)=>Comp.pure (.next (zJ .i64 x.1 (zF x_1),zJ .i64 x.2 1)))
       fun (j:Unit->Comp (Comp.Step (Int×Int) Int))=>if ltI (zJ .i64 x.1 (zF x_1)) 0=true then Comp.fail else j ()
    else Comp.pure (.done x.1))
  (fun s i x hx hs=>by
   have gF:=zM hx;have h1:(i:Int)<zF xs:=by rw[zC];omega
   have h2:s+x.length<=LIM:=by
    have:=tM (xs:=xs) (i+1);rw[YD hx,zKV]at this;omega
   have h3:zJ .i64 (s:Int) (zF x)=((s+x.length:Nat):Int):=by rw[zC,yh (by omega)];omega
   simp only[vR,zH,h1,if_true,zA,zQ hx,zKS,h3];rw[zKv (by omega),Comp.zB,zL (show i<9223372036854775807 by omega)]
   rfl)
  (fun s i x s' hx hs he=>by cases he;rw[YD hx,zKV,<-hs])
  (fun s hs=>by
   have h1:¬((xs.length:Int)<zF xs):=by rw[zC];omega
   simp only[zH,h1,if_false,Comp.zB]) 0 (by simp)
 have hsum:Comp.ZN (fun (s:Nat) (x:List α)=>(.next (s+x.length):Comp.Step Nat Int)) (fun s=>((s:Nat):Int)) 0 xs=((xs.flatten.length:Nat):Int):=by
  have key:∀(ys:List (List α)) (s:Nat),Comp.ZN (fun (s:Nat) (x:List α)=>(.next (s+x.length):Comp.Step Nat Int)) (fun s=>((s:Nat):Int)) s ys=((s+ys.flatten.length:Nat):Int):=by
   intro ys
   induction ys with
   |nil=>intro s;simp[Comp.ZN]
   |cons y ys ih=>intro s;simp only[Comp.ZN];rw[ih];simp;omega
  rw[key];simp
 rw[hsum]at h1;have h2:=Comp.YW (fun (s:List α) i=>(s,((i:Nat):Int))) xs (fun (s:List α) x=>.next (s++x)) (fun s=>s) (fun s i=>s=(xs.take i).flatten)
  (body:=fun (x:List α×Int)=>if ltI x.2 (zF xs)=true then
       (idx xs x.2).bind fun x_1=>(app x.1 x_1).bind fun zs=>Comp.pure (.next (zs,zJ .i64 x.2 1))
      else Comp.pure (.done x.1))
  (fun s i x hx hs=>by
   have gF:=zM hx;have h1:(i:Int)<zF xs:=by rw[zC];omega
   have h2:s.length+x.length<=LIM:=by
    have:=tM (xs:=xs) (i+1);rw[YD hx,zKV]at this;rw[hs];omega
   simp only[zH,h1,if_true,zA,zQ hx,zKS,yP h2,Comp.zB,zL (show i<9223372036854775807 by omega)]
   rfl)
  (fun s i x s' hx hs he=>by cases he;rw[YD hx,<-hs])
  (fun s hs=>by
   have h1:¬((xs.length:Int)<zF xs):=by rw[zC];omega
   simp only[zH,h1,if_false,Comp.zB]) [] (by simp)
 have oT:Comp.ZN (fun (s:List α) (x:List α)=>(.next (s++x):Comp.Step (List α) (List α))) (fun s=>s) [] xs=xs.flatten:=by
  have key:∀(ys:List (List α)) (s:List α),Comp.ZN (fun (s:List α) (x:List α)=>(.next (s++x):Comp.Step (List α) (List α))) (fun s=>s) s ys=s++ys.flatten:=by
   intro ys
   induction ys with
   |nil=>intro s;simp[Comp.ZN]
   |cons y ys ih=>intro s;simp only[Comp.ZN];rw[ih];simp
  rw[key];simp
 rw[oT]at h2;rw[zA];refine(zKl (fun o=>Option.bind o _) h1).trans ?_
 rw[zKS,zA,Nk h,zKS,zA];refine(zKl (fun o=>Option.bind o _) h2).trans ?_
 rw[zKS,Comp.zB]
def zHA(x0:List α):Comp (List α×Unit):=amb (uG x0) (Comp.pure ([],())) ((app [] x0).bind fun zs=>Comp.pure (zs,()))
theorem Gt{xs:List α}(h:xs.length<=LIM):(zHA xs).val=some (xs,()):=by
 unfold zHA;refine Vx (fun he=>?_) ?_
 ·cases xs with
  |nil=>exact Comp.zB _
  |cons=>cases he
 ·rw[zA,yP (by simpa using h),zKS];simp
def zGx(z:α)(xs:List α)(x0:α×Unit->Comp (Bool×Unit)):Comp (List α) :=
 (Hg xs x0).bind fun x=>if eqI x.1 (-1)=true then Comp.pure xs
  else
   (Comp.loop
      (fun (x:List α×Int×Int)=>if ltI x.2.2 (zF x.1)=true then
        (idx x.1 x.2.2).bind fun x_1=>(x0 (x_1,())).bind fun x_2=>jn (fun (x_3:List α×Int)=>Comp.pure (.next (x_3.1,x_3.2,zJ .i64 x.2.2 1)))
           fun (j:List α×Int->Comp (Comp.Step (List α×Int×Int) (List α×Int)))=>if ntB x_2.1=true then (inb x.1.length x.2.1).bind fun x_3=>j (vt x.1 x.2.1 x_1,zJ .i64 x.2.1 1)
           else j (x.1,x.2.1)
       else Comp.pure (.done (x.1,x.2.1)))
      (xs,x.1,zJ .i64 x.1 1)).bind fun x=>((sub x.1 x.2 (zF x.1)).bind fun x=>Comp.pure ()).bind fun x_1=>(sub x.1 (Int.ofNat x.2.toNat) (zF x.1)).bind fun x_2=>jn (fun (x:List α)=>Comp.pure x)
       fun (j:List α->Comp (List α))=>(sub (List.take x.2.toNat x.1++List.replicate (x.1.length.sub x.2.toNat) z) 0 x.2).bind fun ys=>j ys
theorem Gp{z:α}{l:List α}{k:Nat}(h:k<=l.length):(((sub l (k:Int) (zF l)).bind fun x=>Comp.pure ()).bind fun x_1=>(sub l (Int.ofNat (k:Int).toNat) (zF l)).bind fun x_2=>jn (fun (x:List α)=>Comp.pure x)
       fun (j:List α->Comp (List α))=>(sub (List.take (k:Int).toNat l++List.replicate (l.length.sub (k:Int).toNat) z) 0 (k:Int)).bind fun ys=>j ys).val=some (l.take k):=by
 have e:Int.ofNat (k:Int).toNat=(k:Int):=by simp
 have e2:(k:Int).toNat=k:=by simp
 rw[e,e2];have h1:(sub l (k:Int) (zF l)).val=some (l.drop k):=by rw[YK (by rw[zC];omega)];simp[zC]
 have h2:(sub (List.take k l++List.replicate (l.length.sub k) z) 0 (k:Int)).val=some (l.take k):=by
  rw[YK (by simp only[zKV,zKp,List.length_replicate];omega)]
  simp[List.take_append_of_le_length,h,Nat.min_eq_left h]
 simp only[zA,h1,zKS,Comp.zB,vR,h2]
theorem Gm{z:α}{xs:List α}{f:α×Unit->Comp (Bool×Unit)}{p:α->Bool}(hl:xs.length<9223372036854775807)(hf:∀x∈xs,(f (x,())).val=some (p x,())):(zGx z xs f).val=some (xs.filter fun x=>!p x):=by
 unfold zGx;rw[zA,BR hl hf,zKS]
 cases iX:fnd p xs 0 with
 |none =>
  have aY:xs.any p=false:=by rw[<-mN (i:=0),iX];rfl
  simp only[WU,eqI,decide_true,if_true,Comp.zB];rw[List.filter_eq_self.2];intro x hx;rw[List.any_eq_false]at aY;simpa using aY x hx
 |some i =>
  obtain⟨_,x,hx,hp,sH⟩:=BX iX;rw[Nat.sub_zero]at hx sH;have gF:=zM hx
  have fB:¬((i:Int) = -1):=by omega
  simp only[WU,yA,fB,if_false];have fV:(xs.take (i+1)).filter (fun x=>!p x)=xs.take i:=by
   rw[List.take_add_one,hx,List.filter_append];simp only[Option.toList_some,List.filter_cons,hp,Bool.not_true,Bool.false_eq_true,if_false,List.filter_nil,List.append_nil];rw[List.filter_eq_self];intro y hy;obtain⟨k,hk⟩:=List.mem_iff_getElem?.1 hy;have xR:=zM hk
   rw[zKp]at xR;rw[List.getElem?_take_of_lt (by omega)]at hk
   simp[sH k y (by omega) hk]
  -- the state: what is kept,then what was not walked over yet
  let st:List α->Nat->List α×Int×Int:=fun l k=>(l,(((xs.take k).filter fun x=>!p x).length:Int),(k:Int))
  have inv:∀(m k:Nat) (l:List α),k+m=xs.length->i+1<=k->l.length=xs.length->l.take ((xs.take k).filter fun x=>!p x).length=(xs.take k).filter (fun x=>!p x)->l.drop k=xs.drop k->∃l',l'.length=xs.length/\l'.take (xs.filter fun x=>!p x).length=xs.filter (fun x=>!p x)/\(Comp.loop
      (fun (x:List α×Int×Int)=>if ltI x.2.2 (zF x.1)=true then
        (idx x.1 x.2.2).bind fun x_1=>(f (x_1,())).bind fun x_2=>jn (fun (x_3:List α×Int)=>Comp.pure (.next (x_3.1,x_3.2,zJ .i64 x.2.2 1)))
           fun (j:List α×Int->Comp (Comp.Step (List α×Int×Int) (List α×Int)))=>if ntB x_2.1=true then (inb x.1.length x.2.1).bind fun x_3=>j (vt x.1 x.2.1 x_1,zJ .i64 x.2.1 1)
           else j (x.1,x.2.1)
       else Comp.pure (.done (x.1,x.2.1)))
      (st l k)).val=some (l',((xs.filter fun x=>!p x).length:Int)):=by
   intro m
   induction m with
   |zero =>
    intro k l hk eV cA ht hd;have hk':k=xs.length:=by omega
    subst hk';rw[List.take_length]at ht;refine⟨l,cA,ht,?_⟩;rw[zO];have h1:¬((xs.length:Int)<zF l):=by rw[zC,cA];omega
    simp only[st,zH,h1,if_false,Comp.zB,zKS,List.take_length]
   |succ m ih =>
    intro k l hk eV cA ht hd;have xR:k<xs.length:=by omega
    obtain⟨y,hy⟩:∃y,xs[k]?=some y:=⟨xs[k],by simp[xR]⟩
    have hly:l[k]?=some y:=by
     have h1:(l.drop k)[0]?=some y:=by rw[hd];simpa using hy
     simpa using h1
    have h1:(k:Int)<zF l:=by rw[zC,cA];omega
    have hcnt:((xs.take k).filter fun x=>!p x).length<=k:=by
     have:=List.length_filter_le (fun x=>!p x) (xs.take k)
     rw[zKp]at this;omega
    -- at least one was dropped
    have hcnt':((xs.take k).filter fun x=>!p x).length<k:=by
     have:xs.take k=xs.take (i+1)++(xs.take k).drop (i+1):=by
      conv=>lhs;rw[<-List.take_append_drop (i+1) (xs.take k)]
      rw[List.take_take,Nat.min_eq_left eV]
     rw[this,List.filter_append,fV,zKV];have h2:=List.length_filter_le (fun x=>!p x) ((xs.take k).drop (i+1))
     rw[List.length_drop,zKp]at h2;rw[zKp];omega
    have fF:xs.take (k+1)=xs.take k++[y]:=by rw[List.take_add_one,hy];rfl
    have hd':l.drop (k+1)=xs.drop (k+1):=by rw[<-List.drop_drop,hd,List.drop_drop]
    rw[zO];have e1:(idx l (k:Int)).val=some y:=zQ hly
    have e2:=hf y (zKZ hy)
    cases hpy:p y with
    |true =>
     obtain⟨l',g1,g2,g3⟩:=ih (k+1) l (by omega) (by omega) cA (by rw[fF,List.filter_append];simpa[hpy] using ht) hd'
     refine⟨l',g1,g2,?_⟩;rw[<-g3];simp only[st,zH,h1,if_true,zA,e1,zKS,e2,hpy,vR,yQ,Bool.not_true,Bool.false_eq_true,if_false,Comp.zB,zL (show k<9223372036854775807 by omega)]
     rw[fF,List.filter_append];simp[hpy]
    |false =>
     have hc:((xs.take k).filter fun x=>!p x).length<l.length:=by omega
     obtain⟨l',g1,g2,g3⟩:=ih (k+1) (l.set ((xs.take k).filter fun x=>!p x).length y) (by omega) (by omega) (by simpa using cA)
      (by
       rw[fF,List.filter_append];simp only[List.filter_cons,hpy,Bool.not_false,if_true,List.filter_nil,zKV,zKX];rw[List.take_add_one,List.take_set_of_le (zKW _),ht];simp[hc])
      (by rw[List.drop_set_of_lt (by omega)];exact hd')
     refine⟨l',g1,g2,?_⟩;rw[<-g3];have e3:(inb l.length (((xs.take k).filter fun x=>!p x).length:Int)).val=some ():=vQ (by omega)
     simp only[st,zH,h1,if_true,zA,e1,zKS,e2,hpy,vR,yQ,Bool.not_false,Comp.zB,zL (show k<9223372036854775807 by omega),e3,vt,Int.toNat_natCast,zL (show ((xs.take k).filter fun x=>!p x).length<9223372036854775807 by omega)]
     rw[fF,List.filter_append];simp[hpy]
  obtain⟨l',g1,g2,g3⟩:=inv (xs.length-(i+1)) (i+1) xs (by omega) (zKW _) rfl (by rw[fV];rw[zKp,Nat.min_eq_left (by omega)]) rfl
  have sA:st xs (i+1)=(xs,(i:Int),zJ .i64 (i:Int) 1):=by
   show (xs,_,_)=_
   rw[fV,zKp,Nat.min_eq_left (by omega),zL (by omega)]
  rw[sA]at g3;rw[zA];refine(zKl (fun o=>Option.bind o _) g3).trans ?_
  rw[zKS];refine(Gp (z:=z) ?_).trans ?_
  ·have:=List.length_filter_le (fun x=>!p x) xs;show _<=l'.length;omega
  ·rw[g2]
def Ju [DecidableEq α]:α->List α->List α
 |_,[]=>[]
 |x,y::l=>if y=x then Ju y l else y::Ju y l
def cpc [DecidableEq α]:List α->List α
 | []=>[]
 |x::l=>x::Ju x l
theorem wG [DecidableEq α]{a b:α}:∀ {l:List α} {x:α},Ju x (l++[a,b])=Ju x (l++[a])++if b=a then [] else [b]
 | [],x=>by
  simp only[List.nil_append,Ju];by_cases h1:a=x<;>by_cases h2:b=a<;>simp[h1,h2]
 |y::l,x=>by
  simp only[List.cons_append,Ju];split
  ·exact wG
  ·rw[wG];rfl
theorem Ny [DecidableEq α]{a b:α}{l:List α}:cpc (l++[a,b])=cpc (l++[a])++if b=a then [] else [b]:=by
 cases l with
 |nil=>simp only[List.nil_append,cpc,Ju];split<;>simp
 |cons x l=>simp only[List.cons_append,cpc];rw[wG]
theorem JD [DecidableEq α]{xs:List α}{k:Nat}{a b:α}(ha:xs[k]?=some a)(hb:xs[k+1]?=some b):cpc (xs.take (k+1+1))=cpc (xs.take (k+1))++if b=a then [] else [b]:=by
 rw[List.take_add_one (i:=k+1),hb,List.take_add_one,ha];simp only[Option.toList_some,zKo,List.cons_append,List.nil_append];exact Ny
theorem Bs [DecidableEq α]:∀ {l:List α} {x:α},(Ju x l).length<=l.length
 | [],_=>zKW _
 |y::l,x=>by
  have:=Bs (l:=l) (x:=y);simp only[Ju];split<;>simp only[zKc]<;>omega
theorem Gs [DecidableEq α]:∀ {l:List α},(cpc l).length<=l.length
 | []=>zKW _
 |x::l=>by have:=Bs (l:=l) (x:=x);simp only[cpc,zKc];omega
end Go.Geo
end
section
namespace Go.Geo
open Go Go.Eng Go.Lift Go.Den
variable {α β γ δ ε σ τ:Type}
def zEO(eq:α->α->Bool)(x2:Int)(x1:List α):Comp (List α×Int) :=
 Comp.loop
  (fun (x_4:List α×Int×Int)=>if ltI x_4.2.2 (zF (List.drop x2.toNat x_4.1))=true then
    (idx (List.drop x2.toNat x_4.1) x_4.2.2).bind fun x_5=>(idx (List.drop x2.toNat x_4.1) (gj .i64 x_4.2.2 1)).bind fun x_6=>jn
       (fun (x:List α×Int)=>Comp.pure (.next (x.1,x.2,zJ .i64 x_4.2.2 1)))
       fun (j:List α×Int->Comp (Comp.Step (List α×Int×Int) (List α×Int)))=>if ntB (eq x_5 x_6)=true then
        (idx (List.drop x2.toNat x_4.1) x_4.2.2).bind fun x=>(inb x_4.1.length x_4.2.1).bind fun x_7=>j (vt x_4.1 x_4.2.1 x,zJ .i64 x_4.2.1 1)
       else j (x_4.1,x_4.2.1)
   else Comp.pure (.done (x_4.1,x_4.2.1)))
  (x1,x2,1)
def zEN(eq:α->α->Bool)(z:α)(xs:List α):Comp (List α) :=
 if ltI (zF xs) 2=true then Comp.pure xs
 else
  (Comp.loop
     (fun (x:List α×Int)=>if ltI x.2 (zF x.1)=true then
       (idx x.1 x.2).bind fun x_1=>(idx x.1 (gj .i64 x.2 1)).bind fun x_2=>if eq x_1 x_2=true then
          ((sub x.1 x.2 (zF x.1)).bind fun x=>Comp.pure ()).bind fun x_3=>(zEO eq x.2 x.1).bind fun x=>((sub x.1 x.2 (zF x.1)).bind fun x=>Comp.pure ()).bind fun x_4=>(sub x.1 (Int.ofNat x.2.toNat) (zF x.1)).bind fun x_5=>jn (fun (x:List α)=>Comp.pure (.done (Sum.inr x)))
               fun (j:List α->Comp (Comp.Step (List α×Int) (List α⊕List α)))=>(sub (List.take x.2.toNat x.1++List.replicate (x.1.length.sub x.2.toNat) z) 0 x.2).bind fun ys=>j ys
         else Comp.pure (.next (x.1,zJ .i64 x.2 1))
      else Comp.pure (.done (Sum.inl x.1)))
     (xs,1)).bind fun (x:List α⊕List α)=>match x with
   |Sum.inl x=>Comp.pure x
   |Sum.inr x=>Comp.pure x
theorem zR{xs:List α}{k:Nat}(h:k<xs.length):∃y,xs[k]?=some y:=⟨xs[k],by simp[h]⟩
theorem wV{l xs:List α}{i k:Nat}(h:l.drop i=xs.drop i)(hi:i<=k):l[k]?=xs[k]?:=by
 have:(l.drop i)[k-i]?=(xs.drop i)[k-i]?:=by rw[h]
 rw[List.getElem?_drop,List.getElem?_drop,show i+(k-i)=k by omega]at this
 exact this
theorem Nz [DecidableEq α]{eq:α->α->Bool}(fG:∀x y,eq x y=decide (x=y)){xs:List α}(hl:xs.length<9223372036854775807){i0:Nat}(h0:1<=i0)(hi:i0<xs.length)(fV:cpc (xs.take i0)=xs.take i0)(hdup:xs[i0]?=xs[i0-1]?) :
  ∃l',l'.length=xs.length/\l'.take (cpc xs).length=cpc xs/\(zEO eq (i0:Int) xs).val=some (l',((cpc xs).length:Int)):=by
 have inv:∀(m k:Nat) (l:List α),i0+k+m=xs.length->1<=k->l.length=xs.length->l.take (cpc (xs.take (i0+k))).length=cpc (xs.take (i0+k))->l.drop (i0+k-1)=xs.drop (i0+k-1)->∃l',l'.length=xs.length/\l'.take (cpc xs).length=cpc xs/\(Comp.loop
  (fun (x_4:List α×Int×Int)=>if ltI x_4.2.2 (zF (List.drop (i0:Int).toNat x_4.1))=true then
    (idx (List.drop (i0:Int).toNat x_4.1) x_4.2.2).bind fun x_5=>(idx (List.drop (i0:Int).toNat x_4.1) (gj .i64 x_4.2.2 1)).bind fun x_6=>jn
       (fun (x:List α×Int)=>Comp.pure (.next (x.1,x.2,zJ .i64 x_4.2.2 1)))
       fun (j:List α×Int->Comp (Comp.Step (List α×Int×Int) (List α×Int)))=>if ntB (eq x_5 x_6)=true then
        (idx (List.drop (i0:Int).toNat x_4.1) x_4.2.2).bind fun x=>(inb x_4.1.length x_4.2.1).bind fun x_7=>j (vt x_4.1 x_4.2.1 x,zJ .i64 x_4.2.1 1)
       else j (x_4.1,x_4.2.1)
   else Comp.pure (.done (x_4.1,x_4.2.1)))
  (l,((cpc (xs.take (i0+k))).length:Int),(k:Int))).val=some (l',((cpc xs).length:Int)):=by
  intro m
  induction m with
  |zero =>
   intro k l hk h1 cA ht hd;rw[show i0+k=xs.length by omega,List.take_length]at ht |-
   refine⟨l,cA,ht,?_⟩;rw[zO];have h1:¬((k:Int)<zF (List.drop (i0:Int).toNat l)):=by rw[zC,List.length_drop,cA,Int.toNat_natCast];omega
   simp only[zH,h1,if_false,Comp.zB,zKS]
  |succ m ih =>
   intro k l hk h1 cA ht hd;obtain⟨b,hb⟩:=zR (xs:=xs) (k:=i0+k) (by omega)
   obtain⟨a,ha⟩:=zR (xs:=xs) (k:=i0+k-1) (by omega)
   have hlb:l[i0+k]?=some b:=by rw[wV hd (by omega)];exact hb
   have hla:l[i0+k-1]?=some a:=by rw[wV hd (by omega)];exact ha
   have gF:(k:Int)<zF (List.drop (i0:Int).toNat l):=by rw[zC,List.length_drop,cA,Int.toNat_natCast];omega
   have e1:(idx (List.drop (i0:Int).toNat l) (k:Int)).val=some b:=zQ (by rw[Int.toNat_natCast,List.getElem?_drop];exact hlb)
   have e2:(idx (List.drop (i0:Int).toNat l) (gj .i64 (k:Int) 1)).val=some a:=by
    rw[YE (by omega),show (k:Int)-1=((k-1:Nat):Int) by omega]
    exact zQ (by rw[Int.toNat_natCast,List.getElem?_drop,show i0+(k-1)=i0+k-1 by omega];exact hla)
   have fF:=JD (xs:=xs) (k:=i0+k-1) ha (by rw[show i0+k-1+1=i0+k by omega];exact hb)
   rw[show i0+k-1+1=i0+k by omega]at fF
   -- fewer are kept than were seen
   have hcnt:(cpc (xs.take (i0+k))).length<i0+k:=by
    have base:(cpc (xs.take (i0+1))).length=i0:=by
     obtain⟨c,hc⟩:=zR (xs:=xs) (k:=i0) hi;have h2:=JD (xs:=xs) (k:=i0-1) (a:=c) (b:=c) (by rw[<-hdup];exact hc) (by rw[show i0-1+1=i0 by omega];exact hc)
     rw[show i0-1+1=i0 by omega,zKu rfl,List.append_nil]at h2
     rw[h2,fV,zKp];omega
    have mono:∀j,(cpc (xs.take (i0+1+j))).length<=i0+j:=by
     intro j
     induction j with
     |zero=>rw[Nat.add_zero,base];omega
     |succ j ihj =>
      by_cases hj:i0+1+j<xs.length
      ·obtain⟨b',hb'⟩:=zR (xs:=xs) (k:=i0+j+1) (by omega)
       obtain⟨a',ha'⟩:=zR (xs:=xs) (k:=i0+j) (by omega)
       have h3:=JD ha' hb';rw[show i0+1+(j+1)=i0+j+1+1 by omega,h3,zKV]
       rw[show i0+1+j=i0+j+1 by omega]at ihj
       split<;>simp<;>omega
      ·rw[List.take_of_length_le (by omega)]at ihj |-;omega
    have:=mono (k-1);rw[show i0+1+(k-1)=i0+k by omega]at this;omega
   have hd1:l.drop (i0+(k+1)-1)=xs.drop (i0+(k+1)-1):=by
    have:(l.drop (i0+k-1)).drop 1=(xs.drop (i0+k-1)).drop 1:=by rw[hd]
    rw[List.drop_drop,List.drop_drop,show i0+k-1+1=i0+(k+1)-1 by omega]at this
    exact this
   by_cases iY:b=a
   ·rw[zKu iY,List.append_nil]at fF
    rw[show i0+k+1=i0+(k+1) by omega]at fF
    obtain⟨l',g1,g2,g3⟩:=ih (k+1) l (by omega) (by omega) cA (by rw[fF];exact ht) hd1
    refine⟨l',g1,g2,?_⟩;rw[fF]at g3;rw[<-g3]
    conv=>lhs;rw[zO]
    simp only[zH,gF,if_true,zA,e1,e2,zKS,vR,fG,iY,decide_true,yQ,Bool.not_true,Bool.false_eq_true,if_false,Comp.zB,zL (show k<9223372036854775807 by omega)]
   ·rw[zKv iY]at fF
    rw[show i0+k+1=i0+(k+1) by omega]at fF
    have hc:(cpc (xs.take (i0+k))).length<l.length:=by omega
    obtain⟨l',g1,g2,g3⟩:=ih (k+1) (l.set (cpc (xs.take (i0+k))).length b) (by omega) (by omega) (by simpa using cA)
     (by
      rw[fF,zKV,zKX,List.take_add_one,List.take_set_of_le (zKW _),ht];simp[hc])
     (by rw[List.drop_set_of_lt (by omega)];exact hd1)
    refine⟨l',g1,g2,?_⟩;rw[fF]at g3;rw[<-g3];have e3:(inb l.length ((cpc (xs.take (i0+k))).length:Int)).val=some ():=vQ (by omega)
    simp only[Int.toNat_natCast]at gF e1 e2
    conv=>lhs;rw[zO]
    simp only[zH,gF,if_true,zA,e1,e2,e3,zKS,vR,fG,iY,decide_false,yQ,Bool.not_false,Comp.zB,zL (show k<9223372036854775807 by omega),vt,Int.toNat_natCast,zL (show (cpc (xs.take (i0+k))).length<9223372036854775807 by omega),zKV,zKX]
 have bZ:cpc (xs.take (i0+1))=xs.take i0:=by
  obtain⟨c,hc⟩:=zR (xs:=xs) (k:=i0) hi;have h2:=JD (xs:=xs) (k:=i0-1) (a:=c) (b:=c) (by rw[<-hdup];exact hc) (by rw[show i0-1+1=i0 by omega];exact hc)
  rw[show i0-1+1=i0 by omega,zKu rfl,List.append_nil]at h2
  rw[h2,fV]
 obtain⟨l',g1,g2,g3⟩:=inv (xs.length-(i0+1)) 1 xs (by omega) (zKW _) rfl (by rw[bZ,zKp,Nat.min_eq_left (by omega)]) rfl
 refine⟨l',g1,g2,?_⟩;rw[<-g3,bZ,zKp,Nat.min_eq_left (by omega)]
 rfl
theorem Vh [DecidableEq α]{eq:α->α->Bool}(fG:∀x y,eq x y=decide (x=y)){z:α}{xs:List α}(hl:xs.length<9223372036854775807):(zEN eq z xs).val=some (cpc xs):=by
 unfold zEN;rw[Xj];split
 ·rename_i h
  rw[zH,zC]at h;rw[Comp.zB]
  match xs,h with
  | [],_=>rfl
  | [x],_=>rfl
  |x::y::l,h=>simp only[zKc]at h;omega
 ·rename_i h
  rw[zH,zC]at h;have inv:∀(m k:Nat),k+m=xs.length->1<=k->cpc (xs.take k)=xs.take k->∃r:List α⊕List α,(r=.inl (cpc xs)\/r=.inr (cpc xs))/\(Comp.loop
     (fun (x:List α×Int)=>if ltI x.2 (zF x.1)=true then
       (idx x.1 x.2).bind fun x_1=>(idx x.1 (gj .i64 x.2 1)).bind fun x_2=>if eq x_1 x_2=true then
          ((sub x.1 x.2 (zF x.1)).bind fun x=>Comp.pure ()).bind fun x_3=>(zEO eq x.2 x.1).bind fun x=>((sub x.1 x.2 (zF x.1)).bind fun x=>Comp.pure ()).bind fun x_4=>(sub x.1 (Int.ofNat x.2.toNat) (zF x.1)).bind fun x_5=>jn (fun (x:List α)=>Comp.pure (.done (Sum.inr x)))
               fun (j:List α->Comp (Comp.Step (List α×Int) (List α⊕List α)))=>(sub (List.take x.2.toNat x.1++List.replicate (x.1.length.sub x.2.toNat) z) 0 x.2).bind fun ys=>j ys
         else Comp.pure (.next (x.1,zJ .i64 x.2 1))
      else Comp.pure (.done (Sum.inl x.1)))
     (xs,(k:Int))).val=some r:=by
   intro m
   induction m with
   |zero =>
    intro k hk h1 hp;rw[show k=xs.length by omega,List.take_length]at hp
    refine⟨.inl (cpc xs),.inl rfl,?_⟩;rw[zO];have h1:¬((k:Int)<zF xs):=by rw[zC];omega
    simp only[zH,h1,if_false,Comp.zB,zKS,hp]
   |succ m ih =>
    intro k hk h1 hp;obtain⟨b,hb⟩:=zR (xs:=xs) (k:=k) (by omega)
    obtain⟨a,ha⟩:=zR (xs:=xs) (k:=k-1) (by omega)
    have gF:(k:Int)<zF xs:=by rw[zC];omega
    have e1:(idx xs (k:Int)).val=some b:=zQ hb;have e2:(idx xs (gj .i64 (k:Int) 1)).val=some a:=by
     rw[YE (by omega),show (k:Int)-1=((k-1:Nat):Int) by omega]
     exact zQ ha
    by_cases iY:b=a
    ·subst iY
     obtain⟨l',g1,g2,g3⟩:=Nz fG hl h1 (by omega) hp (by rw[ha,hb])
     refine⟨.inr (cpc xs),.inr rfl,?_⟩;have e4:(sub xs (k:Int) (zF xs)).val=some (xs.drop k):=by rw[YK (by rw[zC];omega)];simp[zC]
     have e5:=Gp (z:=z) (l:=l') (k:=(cpc xs).length) (by rw[g1];exact Gs)
     rw[g2]at e5;simp only[zA,vR,Comp.zB]at e5;rw[zO];simp only[zH,gF,if_true,zA,e1,e2,zKS,fG,decide_true,e4,Comp.zB,g3,vR]
     revert e5
     generalize (sub l' ((cpc xs).length:Int) (zF l')).val=o1;generalize (sub l' (Int.ofNat ((cpc xs).length:Int).toNat) (zF l')).val=o2;generalize (sub (List.take ((cpc xs).length:Int).toNat l'++List.replicate (l'.length.sub ((cpc xs).length:Int).toNat) z) 0 ((cpc xs).length:Int)).val=o3;intro e5;cases o1<;>cases o2<;>cases o3<;>simp_all
    ·obtain⟨r,g1,g2⟩:=ih (k+1) (by omega) (by omega) (by
      have fF:=JD (xs:=xs) (k:=k-1) ha (by rw[show k-1+1=k by omega];exact hb)
      rw[show k-1+1=k by omega,zKv iY,hp]at fF
      rw[fF,List.take_add_one,hb];rfl)
     refine⟨r,g1,?_⟩;rw[<-g2]
     conv=>lhs;rw[zO]
     simp only[zH,gF,if_true,zA,e1,e2,zKS,fG,iY,decide_false,Bool.false_eq_true,if_false,Comp.zB,zL (show k<9223372036854775807 by omega)]
  obtain⟨r,g1,g2⟩:=inv (xs.length-1) 1 (by omega) (zKW _) (by
   match xs with
   | []=>rfl
   |x::l=>rfl)
  rw[zA];refine(zKl (fun o=>Option.bind o _) g2).trans ?_
  rw[zKS];rcases g1 with rfl|rfl<;>exact Comp.zB _
end Go.Geo
end
noncomputable section
namespace Go.Den
open Go Go.Lift
abbrev Pln:=(Int×Int×Int×Unit)×Int×Unit
def Yq(p q:Pln):Int :=
 if p.1.1<q.1.1 then -1 else if q.1.1<p.1.1 then 1 else
 if p.1.2.1<q.1.2.1 then -1 else if q.1.2.1<p.1.2.1 then 1 else
 if p.1.2.2.1<q.1.2.2.1 then -1 else if q.1.2.2.1<p.1.2.2.1 then 1 else
 if p.2.1<q.2.1 then -1 else if q.2.1<p.2.1 then 1 else 0
def Kp(p:Pln):List Pln->List Pln
 | []=>[p]
 |q::l=>if Yq q p<0 then q::Kp p l else p::q::l
def Xr:List Pln->List Pln
 | []=>[]
 |p::l=>Kp p (Xr l)
open Classical in
def CJ(xs:List Pln)(c:Pln×Pln×Unit->Comp (Int×Unit)):Comp (List Pln) :=
 if xs.length<=LIM/\∀x y,∃n,(c (x,y,())).run n=some (Yq x y,()) then Comp.pure (Xr xs) else Comp.fail
def LtP(p q:Pln):Prop:=p.1.1<q.1.1\/(p.1.1=q.1.1/\(p.1.2.1<q.1.2.1\/(p.1.2.1=q.1.2.1/\(p.1.2.2.1<q.1.2.2.1\/(p.1.2.2.1=q.1.2.2.1/\p.2.1<q.2.1)))))
theorem pG(p q:Pln):(Yq p q = -1/\LtP p q)\/(Yq p q=0/\p=q)\/(Yq p q=1/\LtP q p):=by
 obtain⟨⟨a,b,c,u⟩,d,v⟩:=p;obtain⟨⟨a',b',c',u'⟩,d',v'⟩:=q;unfold Yq LtP;simp only;split
 ·exact .inl ⟨rfl,by omega⟩
 split
 ·exact .inr (.inr ⟨rfl,by omega⟩)
 split
 ·exact .inl ⟨rfl,by omega⟩
 split
 ·exact .inr (.inr ⟨rfl,by omega⟩)
 split
 ·exact .inl ⟨rfl,by omega⟩
 split
 ·exact .inr (.inr ⟨rfl,by omega⟩)
 split
 ·exact .inl ⟨rfl,by omega⟩
 split
 ·exact .inr (.inr ⟨rfl,by omega⟩)
 ·refine .inr (.inl ⟨rfl,?_⟩)
  have h1:a=a':=by omega
  have h2:b=b':=by omega
  have h3:c=c':=by omega
  have h4:d=d':=by omega
  subst h1 h2 h3 h4;rfl
theorem LtP.irr{p:Pln}(h:LtP p p):False:=by unfold LtP at h;omega
theorem LtP.trans{p q r:Pln}(h:LtP p q)(k:LtP q r):LtP p r:=by unfold LtP at *;omega
theorem LtP.asym{p q:Pln}(h:LtP p q)(k:LtP q p):False:=(h.trans k).irr
theorem J7{p q:Pln}:Yq p q<0↔LtP p q:=by
 rcases pG p q with ⟨h1,h2⟩|⟨h1,h2⟩|⟨h1,h2⟩
 ·simp[h1,h2]
 ·subst h2;rw[h1];simp;exact fun h=>h.irr
 ·rw[h1];simp;exact fun h=>h.asym h2
theorem LtP.tri(p q:Pln):LtP p q\/p=q\/LtP q p:=by
 rcases pG p q with ⟨_,h⟩|⟨_,h⟩|⟨_,h⟩
 ·exact .inl h
 ·exact .inr (.inl h)
 ·exact .inr (.inr h)
theorem wA(p:Pln):∀l,(Kp p l).Perm (p::l)
 | []=>.refl _
 |q::l=>by
  unfold Kp;split
  ·exact((wA p l).cons q).trans (.swap p q l)
  ·exact .refl _
theorem rL:∀l,(Xr l).Perm l
 | []=>.refl _
 |p::l=>(wA p _).trans ((rL l).cons p)
theorem BP(p:Pln):∀ {l:List Pln},l.Pairwise (fun p q=>¬LtP q p)->(Kp p l).Pairwise (fun p q=>¬LtP q p)
 | [],_=>by simp[Kp]
 |q::l,h=>by
  rw[List.pairwise_cons]at h;unfold Kp;split
  ·rename_i h1
   rw[List.pairwise_cons];refine⟨fun a ha=>?_,BP p h.2⟩
   rcases zKY.1 ((wA p l).mem_iff.1 ha) with rfl|ha
   ·exact fun k=>(J7.1 h1).asym k
   ·exact h.1 a ha
  ·rename_i h1
   rw[List.pairwise_cons];refine⟨fun a ha=>?_,List.pairwise_cons.2 h⟩
   have h2:¬LtP q p:=fun k=>h1 (J7.2 k)
   rcases zKY.1 ha with rfl|ha
   ·exact h2
   ·intro k
    rcases LtP.tri p q with h3|h3|h3
    ·exact h.1 a ha (k.trans h3)
    ·rw[h3]at k;exact h.1 a ha k
    ·exact h2 h3
theorem Ag:∀l:List Pln,(Xr l).Pairwise (fun p q=>¬LtP q p)
 | []=>.nil
 |p::l=>BP p (Ag l)
end Go.Den
end
noncomputable section
set_option maxRecDepth 20000
namespace Go.F
open Go Go.Lift Go.Den
abbrev A1:=Int×Int×Int×Unit
abbrev A2:=A1×Int×Unit
abbrev A3:=List A2
abbrev A4:=List A3×List A3×Int×List Int×Unit
abbrev A5:=List Bool×List Bool×List A3×Unit
abbrev A6:=List UInt8×List A3×List Int×Unit
abbrev A7:=Int×Int×Int×Int×Unit
abbrev A8:=vF×List A3×List Int×Unit
abbrev A9:=Bool×Unit
abbrev A10:=Int×Int×Unit
abbrev A11:=Int×Unit
abbrev A12:=List A2×Unit
abbrev A13:=A6×A5×List A4×Unit
abbrev A14:=List Int×Int×Unit
abbrev A15:=A8×A5×List A4×Unit
abbrev A16:=List Int
abbrev A17:=List A3
abbrev A18:=List Int×Int×List A10×Int×Unit
abbrev A19:=List A3×Unit
abbrev A20:=List A3×Int×Unit
abbrev A21:=Bool×Int×Unit
abbrev A22:=List A3×Int
abbrev A23:=A14×Unit
abbrev A24:=A23×Int×Unit
abbrev A25:=Unit⊕Int
abbrev A26:=List Int×Unit
abbrev A27:=A2×Unit->Comp A9
abbrev A28:=A10×Unit
abbrev A29:=Unit⊕Bool
abbrev A30:=A1×Unit
abbrev A31:=List Bool
abbrev A32:=List A2×Int
abbrev A33:=List Int×Int×List A10×Int->Comp A18
abbrev A34:=List A2×Unit->Comp A9
abbrev A35:=Int×Int
abbrev A36:=List A3⊕List A3×Int
abbrev A37:=Bool×List Int×Int×Unit
abbrev A38:=List A7×Unit
abbrev A39:=A5×List Bool×List Bool×List A3×Unit⊕Int×List Bool×List Bool×List A3×Unit
abbrev A40:=List Int×Int×List A10×Int
abbrev A41:=List A10×Unit
abbrev A42:=Option A3×Unit
def zq:Int×Int×Int×Unit->Int×Int×Int×Unit->Comp A12:=fun x0 x1=>.pure ([((1,0,0,()),x1.1,()),((-1,0,0,()),Yb .i64 x0.1,()),((0,1,0,()),x1.2.1,()),((0, -1,0,()),Yb .i64 x0.2.1,()),((0,0,1,()),x1.2.2.1,()),((0,0, -1,()),Yb .i64 x0.2.2.1,())],())
def yf:Int->Int->Comp A12:=fun x0 x1=>(zq (x0,0,0,()) (x1,2,2,())).bind fun y=>.pure (y.1,())
def jN:vF×List A3×List Int×Unit->Comp (A5×Unit):=fun x0=>(mk (zF x0.2.1) false).bind fun x=>(mk (zF x0.2.1) false).bind fun ys=>.pure ((ys,x,[],()),())
def y9:Comp (A15×Unit):=(yf 0 2).bind fun y=>(yf 2 4).bind fun y_1=>(yf 4 6).bind fun y_2=>(jN ([],[y.1,y_1.1,y_2.1],[1,2,2],())).bind fun x=>(yf 2 4).bind fun a=>(yf 4 6).bind fun b=>(yf 2 4).bind fun c=>(yf 4 6).bind fun d=>(yf 1 6).bind fun e=>.pure ((([],[y.1,y_1.1,y_2.1],[1,2,2],()),x.1,[([a.1],[],3,[],()),([b.1],[],4,[],()),([c.1,d.1],[],9,[],()),([e.1],[],1,[],())],()),())
def gI:Int->Comp A9:=fun x0=>.pure (sel (ltI x0 1) true (gtI x0 3),())
def kC:List Int->(Int×Unit->Comp A9)->Comp A11:=fun x0 x1=>(Comp.loop (fun (x:Int)=>if ltI x (zF x0)=true then (idx x0 x).bind fun a=>(x1 (a,())).bind fun b=>if b.1=true then .pure (.done (Sum.inr x)) else .pure (.next (zJ .i64 x 1)) else .pure (.done (Sum.inl ()))) 0).bind fun (x:A25)=>match x with
   |.inl x=>.pure (-1,())
   |.inr x=>.pure (x,())
def zg:List Int->(Int×Unit->Comp A9)->Comp A9:=fun x0 x1=>(kC x0 x1).bind fun x=>.pure (geI x.1 0,())
def yK:List A3->A34->Comp A11:=fun x0 x1=>(Comp.loop (fun (x:Int)=>if ltI x (zF x0)=true then (idx x0 x).bind fun a=>(x1 (a,())).bind fun b=>if b.1=true then .pure (.done (Sum.inr x)) else .pure (.next (zJ .i64 x 1)) else .pure (.done (Sum.inl ()))) 0).bind fun (x:A25)=>match x with
   |.inl x=>.pure (-1,())
   |.inr x=>.pure (x,())
def zI:List A3->A34->Comp A9:=fun x0 x1=>(yK x0 x1).bind fun x=>.pure (geI x.1 0,())
def yJ:List A2->A27->Comp A11:=fun x0 x1=>(Comp.loop (fun (x:Int)=>if ltI x (zF x0)=true then (idx x0 x).bind fun a=>(x1 (a,())).bind fun b=>if b.1=true then .pure (.done (Sum.inr x)) else .pure (.next (zJ .i64 x 1)) else .pure (.done (Sum.inl ()))) 0).bind fun (x:A25)=>match x with
   |.inl x=>.pure (-1,())
   |.inr x=>.pure (x,())
def zY:List A2->A27->Comp A9:=fun x0 x1=>(yJ x0 x1).bind fun x=>.pure (geI x.1 0,())
def jL:Int->List Int->Comp A9:=fun x0 x1=>(Comp.loop (fun (x:Int)=>if ltI x (zF x1)=true then (idx x1 x).bind fun a=>if sel (ltI a (Yb .i64 x0)) true (gtI a x0)=true then .pure (.done (Sum.inr false)) else .pure (.next (zJ .i64 x 1)) else .pure (.done (Sum.inl ()))) 0).bind fun (x:A29)=>match x with
   |.inl x=>.pure (true,())
   |.inr x=>.pure (x,())
def jk:Int->Comp A11:=fun x0=>.pure (wy x0 (Yb .i64 x0),())
def ZZ:List Int->Comp A11:=fun x0=>(Comp.loop (fun (x:A35)=>if ltI x.2 (zF x0)=true then (idx x0 x.2).bind fun a=>if eqI a (-9223372036854775808)=true then .pure (.done (Sum.inr 0)) else (jk a).bind fun b=>(Comp.loop (fun (x:A35)=>if gtI x.2 0=true then (rem x.1 x.2).bind fun c=>.pure (.next (x.2,c)) else .pure (.done x.1)) (x.1,b.1)).bind fun c=>.pure (.next (c,zJ .i64 x.2 1)) else .pure (.done (Sum.inl x.1))) (0,0)).bind fun (x:Int⊕Int)=>match x with
   |.inl x=>.pure (x,())
   |.inr x=>.pure (x,())
def Yw:A1×Int×Unit->Comp A9:=fun x0=>jn (fun (x:Bool)=>.pure (x,())) fun (j:Bool->Comp A9)=>(jL (Int.ofNat 4608) [x0.1.1,x0.1.2.1,x0.1.2.2.1]).bind fun x=>if x.1=true then (ZZ [x0.1.1,x0.1.2.1,x0.1.2.2.1]).bind fun x=>if eqI x.1 1=true then (jL (Int.ofNat 2097152) [x0.2.1]).bind fun x=>j x.1 else j false else j false
def jS:A1×Int×Unit->Comp A9:=fun x0=>(Yw x0).bind fun x=>.pure (ntB x.1,())
def gm:List A2->Comp A11:=fun x0=>if gtI (zF x0) 48=true then .pure (2,()) else (zY x0 fun (z:A2×Unit)=>jS z.1).bind fun x=>if x.1=true then .pure (12,()) else .pure (0,())
def jR:List A2->Comp A9:=fun x0=>(gm x0).bind fun x=>.pure (neI x.1 0,())
def ZT:List A3->Comp A9:=fun x0=>(zI x0 fun (z:A12)=>jR z.1).bind fun x=>.pure (ntB x.1,())
def vv:Int->Comp A12:=fun x0=>jn (fun (x:Unit)=>jn (fun (x:A3)=>.pure (x,())) fun (j:List A2->Comp A12)=>if gtI (gj .i64 x0 0) 0=true then jn (fun (x:A3)=>j x) fun (j:List A2->Comp A12)=>((sub [] 0 0).bind fun (x:List Unit)=>.pure ()).bind fun x=>(mk (gj .i64 x0 0) ((0,0,0,()),0,())).bind fun zs=>(sub zs 0 0).bind fun ys=>j ys else j []) fun (j:Unit->Comp A12)=>if ltI x0 0=true then Comp.fail else j ()
def zN:List A3->Comp A12:=fun x0=>(Comp.loop (fun (x:A35)=>if ltI x.2 (zF x0)=true then (idx x0 x.2).bind fun a=>jn (fun (b:Unit)=>.pure (.next (zJ .i64 x.1 (zF a),zJ .i64 x.2 1))) fun (j:Unit->Comp (Comp.Step A35 Int))=>if ltI (zJ .i64 x.1 (zF a)) 0=true then Comp.fail else j () else .pure (.done x.1)) (0,0)).bind fun x=>(vv x).bind fun y=>(Comp.loop (fun (x:A32)=>if ltI x.2 (zF x0)=true then (idx x0 x.2).bind fun a=>(app x.1 a).bind fun zs=>.pure (.next (zs,zJ .i64 x.2 1)) else .pure (.done x.1)) (y.1,0)).bind fun x=>.pure (x,())
def cell_of:List A3->Comp A12:=fun x0=>(zN x0).bind fun y=>(Comp.loop (fun (x:A32)=>if ltI x.2 (zF [(1,0,0,()),(-1,0,0,()),(0,1,0,()),(0, -1,0,()),(0,0,1,()),(0,0, -1,())])=true then (idx [(1,0,0,()),(-1,0,0,()),(0,1,0,()),(0, -1,0,()),(0,0,1,()),(0,0, -1,())] x.2).bind fun a=>(app x.1 [(a,24,())]).bind fun zs=>.pure (.next (zs,zJ .i64 x.2 1)) else .pure (.done x.1)) (y.1,0)).bind fun x=>.pure (x,())
def vu:List A2->Comp (List A12):=fun x0=>((Z9 (fun (x:Int)=>if ltI x (zF x0)=true then (idx x0 x).bind fun a=>(sub x0 (zJ .i64 x 1) (zF x0)).bind fun b=>(Z9 (fun (c:Int)=>if ltI c (zF b)=true then (idx b c).bind fun d=>(sub x0 (zJ .i64 (zJ .i64 x c) 2) (zF x0)).bind fun x=>(Z9 (fun (e:Int)=>if ltI e (zF x)=true then (idx x e).bind fun x=>tell [([a,d,x],())] (Comp.pure ([],.next (zJ .i64 e 1))) else .pure ([],.done (Sum.inl ()))) 0).bind fun (p:List A12×(Unit⊕Unit))=>tell p.1 (match p.2 with
              |.inl x=>.pure ([],.next (zJ .i64 c 1))
              |.inr x=>.pure ([],.done (Sum.inr ()))) else .pure ([],.done (Sum.inl ()))) 0).bind fun (p:List A12×(Unit⊕Unit))=>tell p.1 (match p.2 with
         |.inl c=>.pure ([],.next (zJ .i64 x 1))
         |.inr x=>.pure ([],.done (Sum.inr ()))) else .pure ([],.done (Sum.inl ()))) 0).bind fun (p:List A12×(Unit⊕Unit))=>tell p.1 (match p.2 with
    |.inl x=>.pure ([],())
    |.inr x=>.pure ([],()))).bind fun (p:List A12×Unit)=>.pure p.1
def j6:List A2->Comp (Comp (List A12)×Unit):=fun x0=>.pure (vu x0,())
def Ze:Int×Int×Int×Unit->Int×Int×Int×Unit->Comp A30:=fun x0 x1=>.pure ((gj .i64 (kW .i64 x0.2.1 x1.2.2.1) (kW .i64 x0.2.2.1 x1.2.1),gj .i64 (kW .i64 x0.2.2.1 x1.1) (kW .i64 x0.1 x1.2.2.1),gj .i64 (kW .i64 x0.1 x1.2.1) (kW .i64 x0.2.1 x1.1),()),())
def ZW:Int×Int×Int×Unit->Int×Int×Int×Unit->Comp A11:=fun x0 x1=>.pure (zJ .i64 (zJ .i64 (kW .i64 x0.1 x1.1) (kW .i64 x0.2.1 x1.2.1)) (kW .i64 x0.2.2.1 x1.2.2.1),())
def Ya:Int×Int×Int×Unit->Int->Comp A30:=fun x0 x1=>.pure ((kW .i64 x0.1 x1,kW .i64 x0.2.1 x1,kW .i64 x0.2.2.1 x1,()),())
def XG:Int×Int×Int×Unit->Int×Int×Int×Unit->Comp A30:=fun x0 x1=>.pure ((zJ .i64 x0.1 x1.1,zJ .i64 x0.2.1 x1.2.1,zJ .i64 x0.2.2.1 x1.2.2.1,()),())
def KV:List Int->Comp A11:=fun x0=>(Comp.loop (fun (x:A35)=>if ltI x.2 (zF x0)=true then (idx x0 x.2).bind fun a=>(Comp.loop (fun (x:A35)=>if neI x.2 0=true then (rem x.1 x.2).bind fun b=>.pure (.next (x.2,b)) else .pure (.done x.1)) (x.1,a)).bind fun b=>.pure (.next (b,zJ .i64 x.2 1)) else .pure (.done x.1)) (0,0)).bind fun x=>.pure (wy x (Yb .i64 x),())
def XK:List A2->Comp (A7×Bool×Unit):=fun x0=>(Comp.loop (fun (x:Int×Int×Int×Int×Int×Unit)=>if ltI x.2.1 3=true then (idx x0 x.2.1).bind fun a=>(rem (zJ .i64 x.2.1 1) 3).bind fun b=>(idx x0 b).bind fun c=>(rem (zJ .i64 x.2.1 2) 3).bind fun d=>(idx x0 d).bind fun e=>(Ze c.1 e.1).bind fun f=>(ZW a.1 f.1).bind fun g=>(Ya f.1 a.2.1).bind fun h=>(XG x.2.2 h.1).bind fun i=>.pure (.next (g.1,zJ .i64 x.2.1 1,i.1)) else .pure (.done (x.1,x.2.2))) (0,0,0,0,0,())).bind fun x=>if eqI x.1 0=true then .pure ((0,0,0,0,()),false,()) else (KV [x.2.1,x.2.2.1,x.2.2.2.1,x.1]).bind fun a=>jn (fun (b:Int)=>(quo .i64 x.2.1 b).bind fun c=>(quo .i64 x.2.2.1 b).bind fun d=>(quo .i64 x.2.2.2.1 b).bind fun e=>(quo .i64 x.1 b).bind fun x=>.pure ((c,d,e,x,()),true,())) fun (j:Int->Comp (A7×Bool×Unit))=>if ltI x.1 0=true then j (Yb .i64 a.1) else j a.1
def ZY:A1×Int×Unit->Int×Int×Int×Int×Unit->Comp A11:=fun x0 x1=>(ZW x0.1 (x1.1,x1.2.1,x1.2.2.1,())).bind fun x=>.pure (gj .i64 (kW .i64 x0.2.1 x1.2.2.2.1) x.1,())
def jA:A1×Int×Unit->Int×Int×Int×Int×Unit->Comp A9:=fun x0 x1=>(ZY x0 x1).bind fun x=>.pure (ltI x.1 0,())
def Zi:List A2->Int×Int×Int×Int×Unit->Comp A9:=fun x0 x1=>(zY x0 fun (z:A2×Unit)=>jA z.1 x1).bind fun x=>.pure (ntB x.1,())
def vo:List A2->Comp A38:=fun x0=>(j6 x0).bind fun (x:Comp (List A12)×Unit)=>x.1.bind fun xs=>(Kv (fun (x:List A7×List (A7×Bool)) (d:A12)=>(XK d.1).bind fun a=>(Comp.gd (sel a.2.1 (ntB (match mgB (fun (x b:A7)=>adB (eqI x.1 b.1) (adB (eqI x.2.1 b.2.1) (adB (eqI x.2.2.1 b.2.2.1) (eqI x.2.2.2.1 b.2.2.2.1)))) x.2 a.1 with
          |some x=>x
          |none=>false)) false) (Zi x0 a.1) (false,())).bind fun b=>jn (fun (x:List A7×List (A7×Bool))=>.pure (.next (x.1,x.2))) fun (j:List A7×List (A7×Bool)->Comp (Comp.Step (List A7×List (A7×Bool)) Empty))=>if sel (sel a.2.1 (ntB (match mgB (fun (x c:A7)=>adB (eqI x.1 c.1) (adB (eqI x.2.1 c.2.1) (adB (eqI x.2.2.1 c.2.2.1) (eqI x.2.2.2.1 c.2.2.2.1)))) x.2 a.1 with
             |some x=>x
             |none=>false)) false) b.1 false=true then (app x.1 [a.1]).bind fun zs=>j (zs,mpB (fun (x c:A7)=>adB (eqI x.1 c.1) (adB (eqI x.2.1 c.2.1) (adB (eqI x.2.2.1 c.2.2.1) (eqI x.2.2.2.1 c.2.2.2.1)))) x.2 a.1 true) else j (x.1,x.2)) xs ([],[])).bind fun (r:Comp.Step (List A7×List (A7×Bool)) Empty)=>match r with
     |.next x=>.pure (x.1,())
     |.done e=>nomatch e
def yT:Int×Int×Int×Int×Unit->A1×Int×Unit->Comp A9:=fun x0 x1=>(ZY x1 x0).bind fun x=>.pure (gtI x.1 0,())
def vj:List A7->(A7×Unit->Comp A9)->Comp A11:=fun x0 x1=>(Comp.loop (fun (x:Int)=>if ltI x (zF x0)=true then (idx x0 x).bind fun a=>(x1 (a,())).bind fun b=>if b.1=true then .pure (.done (Sum.inr x)) else .pure (.next (zJ .i64 x 1)) else .pure (.done (Sum.inl ()))) 0).bind fun (x:A25)=>match x with
   |.inl x=>.pure (-1,())
   |.inr x=>.pure (x,())
def yN:List A7->(A7×Unit->Comp A9)->Comp A9:=fun x0 x1=>(vj x0 x1).bind fun x=>.pure (geI x.1 0,())
def vA:A1×Int×Unit->List A7->Comp A9:=fun x0 x1=>(yN x1 fun (z:A7×Unit)=>yT z.1 x0).bind fun x=>.pure (ntB x.1,())
def vV:List A2->A27->Comp A11:=fun x0 x1=>(Comp.loop (fun (x:Int)=>if ltI x (zF x0)=true then (idx x0 x).bind fun a=>(x1 (a,())).bind fun b=>if b.1=true then .pure (.done (Sum.inr x)) else .pure (.next (zJ .i64 x 1)) else .pure (.done (Sum.inl ()))) 0).bind fun (x:A25)=>match x with
   |.inl x=>.pure (-1,())
   |.inr x=>.pure (x,())
def yH:List A2->A27->Comp A9:=fun x0 x1=>(vV x0 x1).bind fun x=>.pure (geI x.1 0,())
def gy:List A2->Comp A9:=fun x0=>(vo x0).bind fun y=>(yH x0 fun (z:A2×Unit)=>vA z.1 y.1).bind fun x=>.pure (ntB x.1,())
def j5:List A2->Comp A9:=fun x0=>jn (fun (x:Bool)=>.pure (x,())) fun (j:Bool->Comp A9)=>(ZT [x0]).bind fun x=>if x.1=true then (cell_of [x0]).bind fun y=>(gy y.1).bind fun x=>j x.1 else j false
def kV:List A2->List A2->Comp A9:=fun x0 x1=>jn (fun (x:Bool)=>.pure (x,())) fun (j:Bool->Comp A9)=>(ZT [x0,x1]).bind fun x=>if ntB (ntB x.1)=true then (cell_of [x0,x1]).bind fun y=>(gy y.1).bind fun x=>j (ntB x.1) else j true
def gz:List A2->List A2->Comp A9:=fun x0 x1=>(kV x1 x0).bind fun x=>.pure (ntB x.1,())
def jI:List A2->List A3->Comp A9:=fun x0 x1=>(zI x1 fun (z:A12)=>gz z.1 x0).bind fun x=>.pure (ntB x.1,())
def Yr:vF×List A3×List Int×Unit->Comp A11:=fun x0=>if sel (eqI (zF x0.2.1) 0) true (gtI (zF x0.2.1) 16)=true then .pure (2,()) else (Comp.gd (ntB (neI (zF x0.2.2.1) (zF x0.2.1))) (zg x0.2.2.1 fun (z:A11)=>gI z.1) (false,())).bind fun x=>if sel (neI (zF x0.2.2.1) (zF x0.2.1)) true x.1=true then .pure (1,()) else (Comp.loop (fun (x:Int)=>if ltI x (zF x0.2.1)=true then (idx x0.2.1 x).bind fun a=>(j5 a).bind fun b=>(Comp.gd (ntB (ntB b.1)) (sub x0.2.1 0 x) []).bind fun c=>(Comp.gd (ntB (ntB b.1)) (jI a c) (false,())).bind fun d=>if sel (ntB b.1) true (ntB d.1)=true then .pure (.done (Sum.inr 13)) else .pure (.next (zJ .i64 x 1)) else .pure (.done (Sum.inl ()))) 0).bind fun (x:A25)=>match x with
      |.inl x=>.pure (0,())
      |.inr x=>.pure (x,())
def jM:List A2->Comp A9:=fun x0=>(gm x0).bind fun x=>.pure (neI x.1 0,())
def JM:vF×List A3×List Int×Unit->List Bool×List Bool×List A3×Unit->Comp A9:=fun x0 x1=>(Comp.gd (sel (sel (eqI (zF x1.1) (zF x0.2.1)) (eqI (zF x1.2.1) (zF x0.2.1)) false) (leI (zF x1.2.2.1) 24) false) (zI x1.2.2.1 fun (z:A12)=>jM z.1) (false,())).bind fun x=>.pure (sel (sel (sel (eqI (zF x1.1) (zF x0.2.1)) (eqI (zF x1.2.1) (zF x0.2.1)) false) (leI (zF x1.2.2.1) 24) false) (ntB x.1) false,())
def vw:Int->Comp A19:=fun x0=>jn (fun (x:Unit)=>jn (fun (x:A17)=>.pure (x,())) fun (j:List A3->Comp A19)=>if gtI (gj .i64 x0 0) 0=true then jn (fun (x:A17)=>j x) fun (j:List A3->Comp A19)=>((sub [] 0 0).bind fun (x:List Unit)=>.pure ()).bind fun x=>(mk (gj .i64 x0 0) []).bind fun zs=>(sub zs 0 0).bind fun ys=>j ys else j []) fun (j:Unit->Comp A19)=>if ltI x0 0=true then Comp.fail else j ()
def yS:List A17->Comp A19:=fun x0=>(Comp.loop (fun (x:A35)=>if ltI x.2 (zF x0)=true then (idx x0 x.2).bind fun a=>jn (fun (b:Unit)=>.pure (.next (zJ .i64 x.1 (zF a),zJ .i64 x.2 1))) fun (j:Unit->Comp (Comp.Step A35 Int))=>if ltI (zJ .i64 x.1 (zF a)) 0=true then Comp.fail else j () else .pure (.done x.1)) (0,0)).bind fun x=>(vw x).bind fun y=>(Comp.loop (fun (x:A22)=>if ltI x.2 (zF x0)=true then (idx x0 x.2).bind fun a=>(app x.1 a).bind fun zs=>.pure (.next (zs,zJ .i64 x.2 1)) else .pure (.done x.1)) (y.1,0)).bind fun x=>.pure (x,())
def jm:List Int->Comp A9:=fun x0=>(Comp.loop (fun (x:Int)=>if ltI x (zF x0)=true then (idx x0 x).bind fun a=>(idx x0 (gj .i64 x 1)).bind fun b=>if leI a b=true then .pure (.done (Sum.inr false)) else .pure (.next (zJ .i64 x 1)) else .pure (.done (Sum.inl ()))) 1).bind fun (x:A29)=>match x with
   |.inl x=>.pure (true,())
   |.inr x=>.pure (x,())
def Zf:List A4->Int->Comp A11:=fun x0 x1=>(idx x0 x1).bind fun x=>(yS [x.1,x.2.1]).bind fun y=>(Comp.loop (fun (a:Int)=>if ltI a (zF y.1)=true then (idx y.1 a).bind fun x=>(gm x).bind fun x=>if neI x.1 0=true then .pure (.done (Sum.inr x.1)) else .pure (.next (zJ .i64 a 1)) else .pure (.done (Sum.inl ()))) 0).bind fun (a:A25)=>match a with
     |.inl b=>if sel (ltI x.2.2.1 1) true (gtI x.2.2.1 1048576)=true then .pure (3,()) else (Comp.loop (fun (c:Int)=>if ltI c (zF x.2.2.2.1)=true then (idx x.2.2.2.1 c).bind fun d=>if sel (sel (ltI d 0) true (geI d (zF x0))) true (eqI d x1)=true then .pure (.done (Sum.inr 3)) else .pure (.next (zJ .i64 c 1)) else .pure (.done (Sum.inl ()))) 0).bind fun (c:A25)=>match c with
        |.inl d=>(jm x.2.2.2.1).bind fun x=>if ntB x.1=true then .pure (7,()) else .pure (0,())
        |.inr x=>.pure (x,())
     |.inr x=>.pure (x,())
def kS:A8×A5×List A4×Unit->Comp A11:=fun x0=>(Yr x0.1).bind fun x=>if neI x.1 0=true then .pure (x.1,()) else (JM x0.1 x0.2.1).bind fun x=>if ntB x.1=true then .pure (4,()) else if gtI (zF x0.2.2.1) 8=true then .pure (2,()) else (Comp.loop (fun (x:A35)=>if ltI x.2 (zF x0.2.2.1)=true then (idx x0.2.2.1 x.2).bind fun a=>(Zf x0.2.2.1 x.2).bind fun b=>if neI b.1 0=true then .pure (.done (Sum.inr b.1)) else .pure (.next (zJ .i64 x.1 (zF a.1),zJ .i64 x.2 1)) else .pure (.done (Sum.inl x.1))) (zF x0.2.1.2.2.1,0)).bind fun (x:Int⊕Int)=>match x with
        |.inl x=>if gtI x 24=true then .pure (2,()) else .pure (0,())
        |.inr x=>.pure (x,())
def YM:A8×A5×List A4×Unit->List Int->Comp (List Bool×Bool×Unit):=fun x0 x1=>(Comp.loop (fun (x:Int×List Bool)=>if ltI x.1 (zF x1)=true then (idx x1 x.1).bind fun a=>if sel (ltI a 0) true (geI a (zF x0.2.2.1))=true then .pure (.done (Sum.inr (false,[false,false,false,false,false,false,false,false]))) else (inb 8 a).bind fun b=>.pure (.next (zJ .i64 x.1 1,vt x.2 a true)) else .pure (.done (Sum.inl x.2))) (0,[false,false,false,false,false,false,false,false])).bind fun (x:List Bool⊕Bool×List Bool)=>match x with
   |.inl x=>(jm x1).bind fun a=>.pure (x,a.1,())
   |.inr x=>.pure (x.2,x.1,())
def gA:List A2->List A3->Comp A9:=fun x0 x1=>(jI x0 x1).bind fun x=>.pure (ntB x.1,())
def kR:A8×A5×List A4×Unit->Comp ((A15×List Bool×Unit)×Unit):=fun x0=>(Comp.loop (fun (x:Int×List A3)=>if ltI x.1 (zF x0.1.2.1)=true then (idx x0.1.2.1 x.1).bind fun a=>(idx x0.1.2.2.1 x.1).bind fun b=>jn (fun (c:A17)=>.pure (.next (zJ .i64 x.1 1,c))) fun (j:List A3->Comp (Comp.Step (Int×List A3) A17))=>if eqI b 1=true then (app x.2 [a]).bind fun zs=>j zs else j x.2 else .pure (.done x.2)) (0,[])).bind fun x=>(Comp.loop (fun (a:Int×A13×List Bool×Unit)=>if ltI a.1 (zF x0.2.2.1)=true then (idx x0.2.2.1 a.1).bind fun b=>(zI b.1 fun (z:A12)=>gA z.1 x).bind fun c=>(Comp.gd (ntB c.1) (zI b.2.1 fun (z:A12)=>gA z.1 x) (false,())).bind fun x=>(inb 8 a.1).bind fun d=>.pure (.next (zJ .i64 a.1 1,a.2.1,vt a.2.2.1 a.1 (sel c.1 true x.1),())) else .pure (.done a.2)) (0,x0,[false,false,false,false,false,false,false,false],())).bind fun x=>.pure (x,())
def vz:List Bool->Comp A26:=fun x0=>(Comp.loop (fun (x:List Int×Int)=>if ltI x.2 8=true then (idx x0 x.2).bind fun a=>jn (fun (b:A16)=>.pure (.next (b,zJ .i64 x.2 1))) fun (j:List Int->Comp (Comp.Step (List Int×Int) A16))=>if a=true then (app x.1 [x.2]).bind fun zs=>j zs else j x.1 else .pure (.done x.1)) ([],0)).bind fun x=>.pure (x,())
def yx:Int->List Bool->Comp A9:=fun x0 x1=>(idx x1 x0).bind fun x=>.pure (ntB x,())
def jl:A15×List Bool×Unit->List Bool->Comp (List Bool×Unit):=fun x0 x1=>(Comp.loop (fun (x:Int×List Bool)=>if ltI x.1 (zF x0.1.2.2.1)=true then (idx x1 x.1).bind fun a=>(Comp.gd (ntB a) (idx x0.2.1 x.1) false).bind fun b=>(inb 8 x.1).bind fun c=>.pure (.next (zJ .i64 x.1 1,vt x.2 x.1 (sel (ntB a) (ntB b) false))) else .pure (.done x.2)) (0,[false,false,false,false,false,false,false,false])).bind fun x=>(Comp.loop (fun (a:List Bool×List Bool)=>if ntB (eqA (fun (x b:Bool)=>eqB x b) a.1 a.2)=true then (vz a.2).bind fun y=>(Comp.loop (fun (b:Int×List Bool)=>if ltI b.1 (zF y.1)=true then (idx y.1 b.1).bind fun x=>(idx x0.1.2.2.1 x).bind fun c=>(zg c.2.2.2.1 fun (z:A11)=>yx z.1 b.2).bind fun d=>(inb 8 x).bind fun e=>.pure (.next (zJ .i64 b.1 1,vt b.2 x (ntB d.1))) else .pure (.done b.2)) (0,a.2)).bind fun x=>.pure (.next (a.2,x)) else .pure (.done a.2)) ([false,false,false,false,false,false,false,false],x)).bind fun x=>.pure (x,())
def vb:A15×List Bool×Unit->List Bool->Comp A9:=fun x0 x1=>(Comp.loop (fun (x:Int×List Bool)=>if ltI x.1 (zF x0.1.2.2.1)=true then (idx x1 x.1).bind fun a=>(inb 8 x.1).bind fun b=>.pure (.next (zJ .i64 x.1 1,vt x.2 x.1 (ntB a))) else .pure (.done x.2)) (0,[false,false,false,false,false,false,false,false])).bind fun x=>(jl x0 x).bind fun x=>.pure (eqA (fun (x a:Bool)=>eqB x a) x.1 x1,())
def zr:A8×A5×List A4×Unit->List Int->Comp A9:=fun x0 x1=>(kS x0).bind fun x=>if neI x.1 0=true then .pure (false,()) else (YM x0 x1).bind fun x=>(Comp.gd x.2.1 (kR x0) (((([],[],[],()),([],[],[],()),[],()),[],()),())).bind fun (a:(A13×List Bool×Unit)×Unit)=>(Comp.gd x.2.1 (vb a.1 x.1) (false,())).bind fun b=>.pure (sel x.2.1 b.1 false,())
def gY:Comp (A15×Unit):=y9.bind fun y=>(inb y.1.2.2.1.length 1).bind fun x=>(idx y.1.2.2.1 1).bind fun (z:A4)=>.pure ((y.1.1,y.1.2.1,vt y.1.2.2.1 1 (z.1,z.2.1,z.2.2.1,[2],z.2.2.2.2),()),())
def zf:List A3->Comp A19:=fun x0=>amb (uG x0) (Comp.pure ([],())) ((app [] x0).bind fun zs=>.pure (zs,()))
def yY:List A2->List A2->Comp A9:=fun x0 x1=>(kV x0 x1).bind fun x=>.pure (x.1,())
def zl:List A3->A34->Comp A17:=fun xs x0=>(yK xs x0).bind fun x=>if eqI x.1 (-1)=true then .pure xs else (Comp.loop (fun (x:List A3×Int×Int)=>if ltI x.2.2 (zF x.1)=true then (idx x.1 x.2.2).bind fun a=>(x0 (a,())).bind fun b=>jn (fun (c:A22)=>.pure (.next (c.1,c.2,zJ .i64 x.2.2 1))) fun (j:List A3×Int->Comp (Comp.Step (List A3×Int×Int) A22))=>if ntB b.1=true then (inb x.1.length x.2.1).bind fun c=>j (vt x.1 x.2.1 a,zJ .i64 x.2.1 1) else j (x.1,x.2.1) else .pure (.done (x.1,x.2.1))) (xs,x.1,zJ .i64 x.1 1)).bind fun x=>((sub x.1 x.2 (zF x.1)).bind fun x=>.pure ()).bind fun a=>(sub x.1 (Int.ofNat x.2.toNat) (zF x.1)).bind fun b=>jn (fun (x:A17)=>.pure x) fun (j:List A3->Comp A17)=>(sub (List.take x.2.toNat x.1++List.replicate (x.1.length.sub x.2.toNat) []) 0 x.2).bind fun ys=>j ys
def Yu:List A3->Comp A11:=fun x0=>if gtI (zF x0) 16=true then .pure (2,()) else (Comp.loop (fun (x:Int)=>if ltI x (zF x0)=true then (idx x0 x).bind fun a=>(gm a).bind fun b=>if neI b.1 0=true then .pure (.done (Sum.inr b.1)) else .pure (.next (zJ .i64 x 1)) else .pure (.done (Sum.inl ()))) 0).bind fun (x:A25)=>match x with
    |.inl x=>.pure (0,())
    |.inr x=>.pure (x,())
def Yz:List A2->Comp A38:=fun x0=>(ZT [x0]).bind fun x=>if ntB x.1=true then .pure ([],()) else (cell_of [x0]).bind fun y=>(vo y.1).bind fun y=>.pure (y.1,())
def yX:List A2->Comp A12:=fun x0=>amb (uG x0) (Comp.pure ([],())) ((app [] x0).bind fun zs=>.pure (zs,()))
def j0:A1×Int×Unit->List A7->Comp A9:=fun x0 x1=>(Comp.loop (fun (x:A35)=>if ltI x.2 (zF x1)=true then (idx x1 x.2).bind fun a=>(ZY x0 a).bind fun b=>jn (fun (c:Int)=>.pure (.next (c,zJ .i64 x.2 1))) fun (j:Int->Comp (Comp.Step A35 Int))=>if eqI b.1 0=true then j (zJ .i64 x.1 1) else j x.1 else .pure (.done x.1)) (0,0)).bind fun x=>.pure (ltI x 3,())
def yG:List A2->A27->Comp A3:=fun xs x0=>(yJ xs x0).bind fun x=>if eqI x.1 (-1)=true then .pure xs else (Comp.loop (fun (x:List A2×Int×Int)=>if ltI x.2.2 (zF x.1)=true then (idx x.1 x.2.2).bind fun a=>(x0 (a,())).bind fun b=>jn (fun (c:A32)=>.pure (.next (c.1,c.2,zJ .i64 x.2.2 1))) fun (j:List A2×Int->Comp (Comp.Step (List A2×Int×Int) A32))=>if ntB b.1=true then (inb x.1.length x.2.1).bind fun c=>j (vt x.1 x.2.1 a,zJ .i64 x.2.1 1) else j (x.1,x.2.1) else .pure (.done (x.1,x.2.1))) (xs,x.1,zJ .i64 x.1 1)).bind fun x=>((sub x.1 x.2 (zF x.1)).bind fun x=>.pure ()).bind fun a=>(sub x.1 (Int.ofNat x.2.toNat) (zF x.1)).bind fun b=>jn (fun (x:A3)=>.pure x) fun (j:List A2->Comp A3)=>(sub (List.take x.2.toNat x.1++List.replicate (x.1.length.sub x.2.toNat) ((0,0,0,()),0,())) 0 x.2).bind fun ys=>j ys
def z7:List A2->(A2×A2×Unit->Comp A11)->Comp A3:=CJ
def Zd:Int->Int->Comp A11:=fun x0 x1=>if ltI x0 x1=true then .pure (-1,()) else if gtI x0 x1=true then .pure (1,()) else .pure (0,())
def kF:A1×Int×Unit->A1×Int×Unit->Comp A11:=fun x0 x1=>(Comp.loop (fun (x:A35)=>if ltI x.2 (zF [[x0.1.1,x1.1.1],[x0.1.2.1,x1.1.2.1],[x0.1.2.2.1,x1.1.2.2.1],[x0.2.1,x1.2.1]])=true then (idx [[x0.1.1,x1.1.1],[x0.1.2.1,x1.1.2.1],[x0.1.2.2.1,x1.1.2.2.1],[x0.2.1,x1.2.1]] x.2).bind fun a=>(idx a 0).bind fun b=>(idx a 1).bind fun c=>(Zd b c).bind fun d=>if eqI d.1 0=true then .pure (.next (d.1,zJ .i64 x.2 1)) else .pure (.done d.1) else .pure (.done x.1)) (0,0)).bind fun x=>.pure (x,())
def yB:List A2->Comp A3:=fun xs=>if ltI (zF xs) 2=true then .pure xs else (Comp.loop (fun (x:A32)=>if ltI x.2 (zF x.1)=true then (idx x.1 x.2).bind fun a=>(idx x.1 (gj .i64 x.2 1)).bind fun b=>if adB (adB (eqI a.1.1 b.1.1) (adB (eqI a.1.2.1 b.1.2.1) (eqI a.1.2.2.1 b.1.2.2.1))) (eqI a.2.1 b.2.1)=true then ((sub x.1 x.2 (zF x.1)).bind fun x=>.pure ()).bind fun c=>(Comp.loop (fun (d:List A2×Int×Int)=>if ltI d.2.2 (zF (List.drop x.2.toNat d.1))=true then (idx (List.drop x.2.toNat d.1) d.2.2).bind fun e=>(idx (List.drop x.2.toNat d.1) (gj .i64 d.2.2 1)).bind fun f=>jn (fun (x:A32)=>.pure (.next (x.1,x.2,zJ .i64 d.2.2 1))) fun (j:List A2×Int->Comp (Comp.Step (List A2×Int×Int) A32))=>if ntB (adB (adB (eqI e.1.1 f.1.1) (adB (eqI e.1.2.1 f.1.2.1) (eqI e.1.2.2.1 f.1.2.2.1))) (eqI e.2.1 f.2.1))=true then (idx (List.drop x.2.toNat d.1) d.2.2).bind fun x=>(inb d.1.length d.2.1).bind fun g=>j (vt d.1 d.2.1 x,zJ .i64 d.2.1 1) else j (d.1,d.2.1) else .pure (.done (d.1,d.2.1))) (x.1,x.2,1)).bind fun x=>((sub x.1 x.2 (zF x.1)).bind fun x=>.pure ()).bind fun d=>(sub x.1 (Int.ofNat x.2.toNat) (zF x.1)).bind fun e=>jn (fun (x:A3)=>.pure (.done (Sum.inr x))) fun (j:List A2->Comp (Comp.Step A32 (List A2⊕List A2)))=>(sub (List.take x.2.toNat x.1++List.replicate (x.1.length.sub x.2.toNat) ((0,0,0,()),0,())) 0 x.2).bind fun ys=>j ys else .pure (.next (x.1,zJ .i64 x.2 1)) else .pure (.done (Sum.inl x.1))) (xs,1)).bind fun (x:List A2⊕List A2)=>match x with
    |.inl x=>.pure x
    |.inr x=>.pure x
def ga:List A2->Comp A12:=fun x0=>(j5 x0).bind fun x=>if ntB x.1=true then .pure ([],()) else (Yz x0).bind fun y=>(yX x0).bind fun y_1=>(yG y_1.1 fun (z:A2×Unit)=>j0 z.1 y.1).bind fun ys=>(z7 ys fun (z:A2×A2×Unit)=>kF z.1 z.2.1).bind fun ys=>(yB ys).bind fun ys=>.pure (ys,())
def K6:Int×Int×Int×Unit->Int×Int×Int×Unit->Comp A30:=fun x0 x1=>.pure ((gj .i64 x0.1 x1.1,gj .i64 x0.2.1 x1.2.1,gj .i64 x0.2.2.1 x1.2.2.1,()),())
def YV:A1×Int×Unit->Comp (A2×Unit):=fun x0=>(K6 (0,0,0,()) x0.1).bind fun x=>.pure ((x.1,Yb .i64 x0.2.1,()),())
def ji:List A2->List A2->Comp (List A42):=fun x0 x1=>((Z9 (fun (x:A32)=>if ltI x.2 (zF x1)=true then (idx x1 x.2).bind fun a=>if geI (zF x.1) 48=true then tell [(none,())] (Comp.pure ([],.done (Sum.inr ()))) else (YV a).bind fun b=>(zN [x.1,[b.1]]).bind fun y=>(ga y.1).bind fun y_1=>if gtI (zF y_1.1) 0=true then tell [(some y_1.1,())] ((zN [x.1,[a]]).bind fun y=>(ga y.1).bind fun y=>.pure ([],.next (y.1,zJ .i64 x.2 1))) else (zN [x.1,[a]]).bind fun y=>(ga y.1).bind fun y=>.pure ([],.next (y.1,zJ .i64 x.2 1)) else .pure ([],.done (Sum.inl ()))) (x0,0)).bind fun (p:List A42×(Unit⊕Unit))=>tell p.1 (match p.2 with
    |.inl x=>.pure ([],())
    |.inr x=>.pure ([],()))).bind fun (p:List A42×Unit)=>.pure p.1
def Zc:List A2->List A2->Comp (Comp (List A42)×Unit):=fun x0 x1=>.pure (ji x0 x1,())
def kD:List A3->List A2->Comp A20:=fun x0 x1=>(j5 x1).bind fun x=>if ntB x.1=true then .pure (x0,0,()) else (ga x1).bind fun y=>(Comp.loop (fun (x:Int×List A3×Int×List A3)=>if ltI x.1 (zF x0)=true then jn (fun (a:List A3×Int×List A3)=>.pure (.next (zJ .i64 x.1 1,a.1,a.2.1,a.2.2))) fun (j:List A3×Int×List A3->Comp (Comp.Step (Int×List A3×Int×List A3) (List A3×Int×List A3⊕List A3×Int)))=>(idx x0 x.1).bind fun a=>(kV a x1).bind fun b=>if b.1=true then (app x.2.2.2 [a]).bind fun zs=>j (x.2.1,x.2.2.1,zs) else (Zc a y.1).bind fun (c:Comp (List A42)×Unit)=>c.1.bind fun xs=>(Kv (fun (x:List A3×Int×List A3) (d:A42)=>match d.1 with
                |none=>.pure (.done ([],Int.ofNat 9))
                |some xs=>amb (uG xs) (Comp.pure (.done ([],Int.ofNat 9))) ((app x.2.2 [xs]).bind fun zs=>.pure (.next (x.1,x.2.1,zs)))) xs (x.2.1,x.2.2.1,x.2.2.2)).bind fun (r:Comp.Step (List A3×Int×List A3) A22)=>match r with
               |.next x=>j (x.1,x.2.1,x.2.2)
               |.done e=>.pure (.done (Sum.inr (e.1,e.2))) else .pure (.done (Sum.inl (x.2.1,x.2.2.1,x.2.2.2)))) (0,[],0,[])).bind fun (a:List A3×Int×List A3⊕List A3×Int)=>match a with
      |.inl b=>if gtI (zF b.2.2) 200=true then .pure ([],9,()) else .pure (b.2.2,0,())
      |.inr x=>.pure (x.1,x.2,())
def Ys:List A2->List A3->Comp A20:=fun x0 x1=>(gm x0).bind fun x=>if neI x.1 0=true then .pure ([],x.1,()) else (Yu x1).bind fun x=>if neI x.1 0=true then .pure ([],x.1,()) else (j5 x0).bind fun x=>if ntB x.1=true then .pure ([],0,()) else (ga x0).bind fun y=>(Comp.loop (fun (x:A22)=>if ltI x.2 (zF x1)=true then (idx x1 x.2).bind fun a=>(kD x.1 a).bind fun b=>if neI b.2.1 0=true then .pure (.done (Sum.inr ([],b.2.1))) else .pure (.next (b.1,zJ .i64 x.2 1)) else .pure (.done (Sum.inl x.1))) ([y.1],0)).bind fun (x:A36)=>match x with
          |.inl x=>.pure (x,0,())
          |.inr x=>.pure (x.1,x.2,())
def ky:List A3->List A2->Comp A21:=fun x0 x1=>(Ys x1 x0).bind fun x=>.pure (sel (eqI x.2.1 0) (eqI (zF x.1) 0) false,x.2.1,())
def vJ:A15×List Bool×Unit->List Bool->Comp A21:=fun x0 x1=>(zf x0.1.2.1.2.2.1).bind fun y=>(vz x1).bind fun y_1=>(Comp.loop (fun (x:A22)=>if ltI x.2 (zF y_1.1)=true then (idx y_1.1 x.2).bind fun a=>(idx x0.1.2.2.1 a).bind fun b=>(app x.1 b.1).bind fun zs=>.pure (.next (zs,zJ .i64 x.2 1)) else .pure (.done x.1)) (y.1,0)).bind fun x=>(Comp.loop (fun (a:Int)=>if ltI a (zF x0.1.1.2.1)=true then jn (fun (x:Unit)=>.pure (.next (zJ .i64 a 1))) fun (j:Unit->Comp (Comp.Step Int (Unit⊕Bool×Int)))=>(idx x0.1.1.2.1 a).bind fun b=>(idx x0.1.1.2.2.1 a).bind fun c=>(Comp.gd (ntB (neI c 2)) (idx x0.1.2.1.1 a) false).bind fun d=>if sel (neI c 2) true d=true then j () else (zf x).bind fun y=>(zl y.1 fun (z:A12)=>yY z.1 b).bind fun ys=>(ky ys b).bind fun x=>if ntB x.1=true then .pure (.done (Sum.inr (false,x.2.1))) else j () else .pure (.done (Sum.inl ()))) 0).bind fun (x:Unit⊕Bool×Int)=>match x with
      |.inl x=>.pure (true,0,())
      |.inr x=>.pure (x.1,x.2,())
def jJ:A8×A5×List A4×Unit->List Int->Comp A21:=fun x0 x1=>(kS x0).bind fun x=>if neI x.1 0=true then .pure (false,x.1,()) else (YM x0 x1).bind fun x=>if ntB x.2.1=true then .pure (false,1,()) else (vJ (x0,[false,false,false,false,false,false,false,false],()) x.1).bind fun x=>.pure (x.1,x.2.1,())
def yD:A8×A5×List A4×Unit->Bool->List Int->Comp A9:=fun x0 x1 x2=>(jJ x0 x2).bind fun x=>.pure (sel (eqI x.2.1 0) (eqB x.1 x1) false,())
def y6:A15×List Bool×Unit->List Bool->Comp A11:=fun x0 x1=>(vz x1).bind fun y=>(Comp.loop (fun (x:A35)=>if ltI x.2 (zF y.1)=true then (idx y.1 x.2).bind fun a=>(idx x0.1.2.2.1 a).bind fun b=>.pure (.next (zJ .i64 x.1 b.2.2.1,zJ .i64 x.2 1)) else .pure (.done x.1)) (0,0)).bind fun x=>.pure (x,())
def YT(recF:Int->List Bool->A15×List Bool×Unit->Int->List Bool->Comp (Sum Int (Int×List Bool×Unit))):Int->List Bool->A15×List Bool×Unit->Int->List Bool->Comp (Sum Int (Int×List Bool×Unit)):=fun x0 x1 c0 y0 y1=>(vb c0 x1).bind fun x=>jn (fun (x:Int×List Bool)=>(Comp.loop (fun (x:Int×Int×List Bool)=>if ltI x.1 (zF c0.1.2.2.1)=true then (inb 8 x.1).bind fun a=>(recF (zJ .i64 x.1 1) (vt x1 x.1 true) c0 x.2.1 x.2.2).bind fun (r:Int⊕Int×List Bool×Unit)=>match r with
          |.inl z=>.pure (.done (Sum.inr z))
          |.inr y=>.pure (.next (zJ .i64 x.1 1,y.1,y.2.1)) else .pure (.done (Sum.inl (x.2.1,x.2.2)))) (x0,x.1,x.2)).bind fun (x:Int×List Bool⊕Int)=>match x with
      |.inl x=>.pure (Sum.inr (x.1,x.2,()))
      |.inr x=>.pure (Sum.inl x)) fun (j:Int×List Bool->Comp (Int⊕Int×List Bool×Unit))=>if x.1=true then (vJ c0 x1).bind fun x=>if neI x.2.1 0=true then .pure (Sum.inl x.2.1) else (y6 c0 x1).bind fun a=>jn (fun (x:Int×List Bool)=>j (x.1,x.2)) fun (j:Int×List Bool->Comp (Int⊕Int×List Bool×Unit))=>if sel x.1 (sel (ltI y0 0) true (ltI a.1 y0)) false=true then j (a.1,x1) else j (y0,y1) else j (y0,y1)
def YC:Nat->Int->List Bool->A15×List Bool×Unit->Int->List Bool->Comp (Sum Int (Int×List Bool×Unit)):=SI (fun _ _ _ _ _=>Comp.fail) YT
def ye:A15×List Bool×Unit->List Bool->List Bool->Comp A9:=fun x0 x1 x2=>(jl x0 x2).bind fun x=>(vz x1).bind fun y=>(Comp.loop (fun (a:Int)=>if ltI a (zF y.1)=true then (idx y.1 a).bind fun b=>(idx x.1 b).bind fun c=>if ntB c=true then .pure (.done (Sum.inr true)) else .pure (.next (zJ .i64 a 1)) else .pure (.done (Sum.inl ()))) 0).bind fun (a:A29)=>match a with
     |.inl b=>(vJ x0 x.1).bind fun x=>.pure (sel (eqI x.2.1 0) (ntB x.1) false,())
     |.inr x=>.pure (x,())
def vm(recF:Int->List Bool->List Bool->Int->A15×List Bool×Unit->List A10->Comp (Sum Unit A41)):Int->List Bool->List Bool->Int->A15×List Bool×Unit->List A10->Comp (Sum Unit A41):=fun x0 x1 x2 c0 c1 y0=>(Comp.gd (gtI c0 0) (y6 c1 x1) (0,())).bind fun x=>jn (fun (x:List A10)=>.pure (Sum.inr (x,()))) fun (j:List A10->Comp (Unit⊕List A10×Unit))=>if sel (gtI c0 0) (geI x.1 c0) false=true then (app y0 [(2,0,())]).bind fun zs=>j zs else (Comp.gd (ntB (geI x0 (zF c1.1.2.2.1))) (ye c1 x1 x2) (false,())).bind fun x=>jn (fun (x:List A10)=>j x) fun (j:List A10->Comp (Unit⊕List A10×Unit))=>if sel (geI x0 (zF c1.1.2.2.1)) true x.1=true then (app y0 [(3,0,())]).bind fun zs=>j zs else (app y0 [(1,x0,())]).bind fun zs=>(inb 8 x0).bind fun x=>(inb 8 x0).bind fun x=>(recF (zJ .i64 x0 1) (vt x1 x0 true) x2 c0 c1 zs).bind fun (r:Unit⊕List A10×Unit)=>match r with
            |.inl z=>.pure (Sum.inl z)
            |.inr y=>(recF (zJ .i64 x0 1) x1 (vt x2 x0 true) c0 c1 y.1).bind fun (r:Unit⊕List A10×Unit)=>match r with
              |.inl z=>.pure (Sum.inl z)
              |.inr y=>j y.1
def vZ:Nat->Int->List Bool->List Bool->Int->A15×List Bool×Unit->List A10->Comp (Sum Unit A41):=SI (fun _ _ _ _ _ _=>Comp.fail) vm
def gJ:A15×List Bool×Unit->Int->Comp A41:=fun x0 x1=>(vZ 40 0 [false,false,false,false,false,false,false,false] [false,false,false,false,false,false,false,false] x1 x0 []).bind fun (r:Unit⊕List A10×Unit)=>match r with
   |.inl z=>Comp.fail
   |.inr y=>.pure (y.1,())
def gG:A8×A5×List A4×Unit->Comp A18:=fun x0=>(kS x0).bind fun x=>if neI x.1 0=true then .pure ([],0,[],x.1,()) else (kR x0).bind fun (x:(A13×List Bool×Unit)×Unit)=>(YC 40 0 [false,false,false,false,false,false,false,false] x.1 (Int.negSucc 0) [false,false,false,false,false,false,false,false]).bind fun (r:Int⊕Int×List Bool×Unit)=>match r with
      |.inl z=>jn (fun (x:A40)=>.pure (x.1,x.2.1,x.2.2.1,x.2.2.2,())) fun (j:A33)=>j ([],0,[],z)
      |.inr y=>if eqI y.1 (-1)=true then (gJ x.1 (Int.ofNat 0)).bind fun y=>jn (fun (x:A40)=>.pure (x.1,x.2.1,x.2.2.1,x.2.2.2,())) fun (j:A33)=>j ([],0,y.1,Int.ofNat 60) else if eqI y.1 0=true then jn (fun (x:A40)=>.pure (x.1,x.2.1,x.2.2.1,x.2.2.2,())) fun (j:A33)=>j ([],0,[],Int.ofNat 0) else (vz y.2.1).bind fun y_1=>(gJ x.1 y.1).bind fun y_2=>jn (fun (x:A40)=>.pure (x.1,x.2.1,x.2.2.1,x.2.2.2,())) fun (j:A33)=>j (y_1.1,y.1,y_2.1,Int.ofNat 0)
def yr:List Int->List Int->Comp A9:=fun x0 x1=>if neI (zF x0) (zF x1)=true then .pure (false,()) else (Comp.loop (fun (x:Int)=>if ltI x (zF x0)=true then (idx x0 x).bind fun a=>(idx x1 x).bind fun b=>if neI a b=true then .pure (.done (Sum.inr false)) else .pure (.next (zJ .i64 x 1)) else .pure (.done (Sum.inl ()))) 0).bind fun (x:A29)=>match x with
    |.inl x=>.pure (true,())
    |.inr x=>.pure (x,())
def Z4(recF:List Bool->List Bool->List A10->A15×List Bool×Unit->Int->Int->Comp (Sum Unit A11)):List Bool->List Bool->List A10->A15×List Bool×Unit->Int->Int->Comp (Sum Unit A11):=fun x0 x1 c0 c1 c2 y0=>if geI y0 (zF c0)=true then .pure (Sum.inl ()) else (idx c0 y0).bind fun x=>(Comp.gd (sel (sel (eqI x.1 1) (geI x.2.1 0) false) (ltI x.2.1 (zF c1.1.2.2.1)) false) (idx x0 x.2.1) false).bind fun a=>(Comp.gd (sel (sel (sel (eqI x.1 1) (geI x.2.1 0) false) (ltI x.2.1 (zF c1.1.2.2.1)) false) (ntB a) false) (idx x1 x.2.1) false).bind fun b=>jn (fun (x:Int)=>.pure (Sum.inr (x,()))) fun (j:Int->Comp (Unit⊕Int×Unit))=>if sel (sel (sel (sel (eqI x.1 1) (geI x.2.1 0) false) (ltI x.2.1 (zF c1.1.2.2.1)) false) (ntB a) false) (ntB b) false=true then (inb 8 x.2.1).bind fun c=>(inb 8 x.2.1).bind fun d=>(recF (vt x0 x.2.1 true) x1 c0 c1 c2 (zJ .i64 y0 1)).bind fun (r:Unit⊕Int×Unit)=>match r with
           |.inl z=>.pure (Sum.inl z)
           |.inr y=>(recF x0 (vt x1 x.2.1 true) c0 c1 c2 y.1).bind fun (r:Unit⊕Int×Unit)=>match r with
             |.inl z=>.pure (Sum.inl z)
             |.inr y=>j y.1 else (Comp.gd (sel (sel (eqI x.1 2) (eqI x.2.1 0) false) (gtI c2 0) false) (y6 c1 x0) (0,())).bind fun c=>jn (fun (x:Unit)=>j (zJ .i64 y0 1)) fun (j:Unit->Comp (Unit⊕Int×Unit))=>if sel (sel (sel (eqI x.1 2) (eqI x.2.1 0) false) (gtI c2 0) false) (geI c.1 c2) false=true then j () else (Comp.gd (sel (eqI x.1 3) (eqI x.2.1 0) false) (ye c1 x0 x1) (false,())).bind fun d=>if sel (sel (eqI x.1 3) (eqI x.2.1 0) false) d.1 false=true then j () else .pure (Sum.inl ())
def kG:Nat->List Bool->List Bool->List A10->A15×List Bool×Unit->Int->Int->Comp (Sum Unit A11):=SI (fun _ _ _ _ _ _=>Comp.fail) Z4
def zp:A8×A5×List A4×Unit->Int->List A10->Comp A9:=fun x0 x1 x2=>(kS x0).bind fun x=>if sel (neI x.1 0) true (ltI x1 0)=true then .pure (false,()) else (kR x0).bind fun (x:(A13×List Bool×Unit)×Unit)=>(kG 40 [false,false,false,false,false,false,false,false] [false,false,false,false,false,false,false,false] x2 x.1 x1 (Int.ofNat 0)).bind fun (r:Unit⊕Int×Unit)=>match r with
      |.inl z=>jn (fun (x:Bool)=>.pure (x,())) fun (j:Bool->Comp A9)=>j false
      |.inr y=>jn (fun (x:Bool)=>.pure (x,())) fun (j:Bool->Comp A9)=>j (eqI y.1 (zF x2))
def yU:A8×A5×List A4×Unit->Int->List Int->Comp A9:=fun x0 x1 x2=>(gG x0).bind fun x=>(Comp.gd (sel (eqI x.2.2.2.1 0) (eqI x.2.1 x1) false) (yr x.1 x2) (false,())).bind fun a=>(Comp.gd (sel (sel (eqI x.2.2.2.1 0) (eqI x.2.1 x1) false) a.1 false) (zp x0 x1 x.2.2.1) (false,())).bind fun b=>.pure (sel (sel (sel (eqI x.2.2.2.1 0) (eqI x.2.1 x1) false) a.1 false) b.1 false,())
def zn:Comp A28:=.pure ((3,0,()),())
def yM:Int->Comp A28:=fun x0=>.pure ((1,x0,()),())
def y5:Comp A28:=.pure ((2,0,()),())
def jG:Comp A9:=y9.bind fun y=>jn (fun (x:Bool)=>(jJ (y.1.1,y.1.2.1,y.1.2.2.1,()) [4]).bind fun a=>jn (fun (b:Bool)=>y9.bind fun y_1=>(idx y_1.1.2.2.1 0).bind fun c=>(idx y_1.1.2.2.1 3).bind fun d=>(gG (y_1.1.1,y_1.1.2.1,[c,d],())).bind fun e=>(Comp.gd (eqI e.2.2.2.1 60) (zp (y_1.1.1,y_1.1.2.1,[c,d],()) (Int.ofNat 0) e.2.2.1) (false,())).bind fun f=>(Comp.gd (sel (eqI e.2.2.2.1 60) f.1 false) zn ((0,0,()),())).bind fun g=>(Comp.gd (sel (eqI e.2.2.2.1 60) f.1 false) (zp (y_1.1.1,y_1.1.2.1,[c,d],()) (Int.ofNat 0) [g.1]) (false,())).bind fun h=>(Comp.gd (sel (sel (eqI e.2.2.2.1 60) f.1 false) h.1 false) zn ((0,0,()),())).bind fun i=>(Comp.gd (sel (sel (eqI e.2.2.2.1 60) f.1 false) h.1 false) (zp (y.1.1,y.1.2.1,y.1.2.2.1,()) (Int.ofNat 0) [i.1]) (false,())).bind fun k=>(yM 2).bind fun l=>y5.bind fun m=>(yM 0).bind fun n=>(yM 1).bind fun o=>y5.bind fun p=>zn.bind fun q=>zn.bind fun r=>(yM 0).bind fun s=>(yM 1).bind fun u=>y5.bind fun v=>zn.bind fun w=>(yM 2).bind fun B=>y5.bind fun C=>zn.bind fun D=>match x with
                              |true=>match sel x b false with
                               |true=>match sel (sel x b false) (sel (sel (sel (eqI e.2.2.2.1 60) f.1 false) h.1 false) (ntB k.1) false) false with
                                |true=>(zp (y.1.1,y.1.2.1,y.1.2.2.1,()) (Int.ofNat 7) [l.1,m.1,n.1,o.1,p.1,q.1,r.1]).bind fun E=>match sel (sel (sel x b false) (sel (sel (sel (eqI e.2.2.2.1 60) f.1 false) h.1 false) (ntB k.1) false) false) E.1 false with
                                  |true=>(zp (y.1.1,y.1.2.1,y.1.2.2.1,()) (Int.ofNat 7) [s.1,u.1,v.1,w.1,B.1,C.1,D.1]).bind fun F=>match sel (sel (sel (sel x b false) (sel (sel (sel (eqI e.2.2.2.1 60) f.1 false) h.1 false) (ntB k.1) false) false) E.1 false) (ntB F.1) false with
                                    |true=>(zp (y.1.1,y.1.2.1,y.1.2.2.1,()) (Int.ofNat 8) [l.1,m.1,n.1,o.1,p.1,q.1,r.1]).bind fun G=>match sel (sel (sel (sel (sel x b false) (sel (sel (sel (eqI e.2.2.2.1 60) f.1 false) h.1 false) (ntB k.1) false) false) E.1 false) (ntB F.1) false) (ntB G.1) false with
                                      |true=>(sub [l.1,m.1,n.1,o.1,p.1,q.1,r.1] 0 6).bind fun H=>(zp (y.1.1,y.1.2.1,y.1.2.2.1,()) (Int.ofNat 7) H).bind fun I=>match sel (sel (sel (sel (sel (sel x b false) (sel (sel (sel (eqI e.2.2.2.1 60) f.1 false) h.1 false) (ntB k.1) false) false) E.1 false) (ntB F.1) false) (ntB G.1) false) (ntB I.1) false with
                                         |true=>(app [] [l.1,m.1,n.1,o.1,p.1,q.1,r.1]).bind fun zs=>zn.bind fun K=>(app zs [K.1]).bind fun zs=>(zp (y.1.1,y.1.2.1,y.1.2.2.1,()) (Int.ofNat 7) zs).bind fun L=>.pure (sel (sel (sel (sel (sel (sel (sel x b false) (sel (sel (sel (eqI e.2.2.2.1 60) f.1 false) h.1 false) (ntB k.1) false) false) E.1 false) (ntB F.1) false) (ntB G.1) false) (ntB I.1) false) (ntB L.1) false,())
                                         |false=>Comp.fail
                                      |false=>Comp.fail
                                    |false=>Comp.fail
                                  |false=>Comp.fail
                                |false=>Comp.fail
                               |false=>Comp.fail
                              |false=>Comp.fail) fun (j:Bool->Comp A9)=>(yD (y.1.1,y.1.2.1,y.1.2.2.1,()) false [0]).bind fun x=>if x.1=true then (yD (y.1.1,y.1.2.1,y.1.2.2.1,()) true [0,1]).bind fun x=>if x.1=true then (yD (y.1.1,y.1.2.1,y.1.2.2.1,()) true [3]).bind fun x=>if x.1=true then if eqI a.2.1 1=true then (yU (y.1.1,y.1.2.1,y.1.2.2.1,()) (Int.ofNat 7) [0,1]).bind fun x=>if x.1=true then gY.bind fun y=>(yU (y.1.1,y.1.2.1,y.1.2.2.1,()) (Int.ofNat 9) [2]).bind fun x=>j x.1 else j false else j false else j false else j false else j false) fun (j:Bool->Comp A9)=>(zr (y.1.1,y.1.2.1,y.1.2.2.1,()) [0,1]).bind fun x=>if x.1=true then (zr (y.1.1,y.1.2.1,y.1.2.2.1,()) [3]).bind fun x=>if ntB x.1=true then (zr (y.1.1,y.1.2.1,y.1.2.2.1,()) [1,0]).bind fun x=>if ntB x.1=true then gY.bind fun y=>(zr (y.1.1,y.1.2.1,y.1.2.2.1,()) [0,1]).bind fun x=>j (ntB x.1) else j false else j false else j false
def kL:List A16->Comp (List A16×Unit):=fun x0=>(Comp.loop (fun (x:List A16×Int)=>if sel (ltI x.2 (zF x0)) (ltI x.2 7) false=true then (idx x0 x.2).bind fun a=>(idx x0 x.2).bind fun b=>(sub a 0 (Dd (zF b) 40)).bind fun c=>(app x.1 [c]).bind fun zs=>.pure (.next (zs,zJ .i64 x.2 1)) else .pure (.done x.1)) ([],0)).bind fun x=>.pure (x,())
def zz:Int->Int->Comp A11:=fun x0 x1=>if ltI x1 1=true then .pure (0,()) else (rem x0 x1).bind fun x=>(rem (zJ .i64 x x1) x1).bind fun x=>.pure (x,())
def zG:List Int×Int×Unit->Int->Comp A24:=fun x0 x1=>if geI x0.2.1 (zF x0.1)=true then .pure ((x0,()),0,()) else (idx x0.1 (gj .i64 (zJ .i64 x0.2.1 1) 1)).bind fun x=>(zz x x1).bind fun x=>.pure (((x0.1,zJ .i64 x0.2.1 1,()),()),x.1,())
def Z5:Int×Int×Int×Unit->Int×Int×Int×Unit->Comp A30:=fun x0 x1=>.pure ((gj .i64 x0.1 x1.1,gj .i64 x0.2.1 x1.2.1,gj .i64 x0.2.2.1 x1.2.2.1,()),())
def vM:A1×Int×Unit->Comp (A2×Unit):=fun x0=>(Z5 (0,0,0,()) x0.1).bind fun x=>.pure ((x.1,Yb .i64 x0.2.1,()),())
def yC:Int×Int×Int×Unit->Comp A26:=fun x0=>.pure ([x0.1,x0.2.1,x0.2.2.1],())
def vX:Int->Comp A11:=fun x0=>if ltI x0 0=true then .pure (Yb .i64 x0,()) else .pure (x0,())
def gx:Int×Int×Int×Unit->Comp A2:=fun x0=>(yC x0).bind fun x=>(Comp.loop (fun (a:Int×Int×Int×Int×Int×Unit)=>if ltI a.2.1 3=true then (idx x.1 a.2.1).bind fun b=>if eqI b (-9223372036854775808)=true then .pure (.done (Sum.inr (0,0,0,0,()))) else (idx x.1 a.2.1).bind fun x=>(vX x).bind fun x=>(Comp.loop (fun (x:A35)=>if gtI x.2 0=true then (rem x.1 x.2).bind fun c=>.pure (.next (x.2,c)) else .pure (.done x.1)) (a.1,x.1)).bind fun x=>.pure (.next (x,zJ .i64 a.2.1 1,a.2.2)) else .pure (.done (Sum.inl (a.1,a.2.2)))) (0,0,0,0,0,())).bind fun (x:Int×Int×Int×Int×Unit⊕Int×Int×Int×Int×Unit)=>match x with
    |.inl x=>if eqI x.1 0=true then .pure ((0,0,0,()),0,()) else (quo .i64 x0.1 x.1).bind fun a=>(quo .i64 x0.2.1 x.1).bind fun b=>(quo .i64 x0.2.2.1 x.1).bind fun c=>.pure ((a,b,c,()),x.1,())
    |.inr x=>.pure (x.2,x.1,())
def gX:A1×Int×Unit->Comp A9:=fun x0=>(yC x0.1).bind fun x=>(Comp.loop (fun (a:Int)=>if ltI a 3=true then (idx x.1 a).bind fun b=>(Comp.gd (ntB (ltI b (-4608))) (idx x.1 a) (Int.ofNat 0)).bind fun c=>if sel (ltI b (-4608)) true (gtI c 4608)=true then .pure (.done (Sum.inr false)) else .pure (.next (zJ .i64 a 1)) else .pure (.done (Sum.inl ()))) 0).bind fun (x:A29)=>match x with
    |.inl x=>(gx x0.1).bind fun x=>.pure (sel (sel (eqI x.2.1 1) (geI x0.2.1 (-2097152)) false) (leI x0.2.1 2097152) false,())
    |.inr x=>.pure (x,())
def zZ:List A2->Comp A11:=fun x0=>if gtI (zF x0) 48=true then .pure (2,()) else (Comp.loop (fun (x:Int)=>if ltI x (zF x0)=true then (idx x0 x).bind fun a=>(gX a).bind fun b=>if ntB b.1=true then .pure (.done (Sum.inr 12)) else .pure (.next (zJ .i64 x 1)) else .pure (.done (Sum.inl ()))) 0).bind fun (x:A25)=>match x with
    |.inl x=>.pure (0,())
    |.inr x=>.pure (x,())
def gP:List A2->Comp A12:=fun x0=>(app [] x0).bind fun zs=>(zq (-24, -24, -24,()) (24,24,24,())).bind fun x=>(app zs x.1).bind fun zs=>.pure (zs,())
def vf:Int×Int×Int×Unit->Int×Int×Int×Unit->Comp A30:=fun x0 x1=>.pure ((gj .i64 (kW .i64 x0.2.1 x1.2.2.1) (kW .i64 x0.2.2.1 x1.2.1),gj .i64 (kW .i64 x0.2.2.1 x1.1) (kW .i64 x0.1 x1.2.2.1),gj .i64 (kW .i64 x0.1 x1.2.1) (kW .i64 x0.2.1 x1.1),()),())
def Z6:Int×Int×Int×Unit->Int×Int×Int×Unit->Comp A11:=fun x0 x1=>.pure (zJ .i64 (zJ .i64 (kW .i64 x0.1 x1.1) (kW .i64 x0.2.1 x1.2.1)) (kW .i64 x0.2.2.1 x1.2.2.1),())
def yk:Int×Int×Int×Unit->Int->Comp A30:=fun x0 x1=>.pure ((kW .i64 x0.1 x1,kW .i64 x0.2.1 x1,kW .i64 x0.2.2.1 x1,()),())
def kK:Int×Int×Int×Unit->Int×Int×Int×Unit->Comp A30:=fun x0 x1=>.pure ((zJ .i64 x0.1 x1.1,zJ .i64 x0.2.1 x1.2.1,zJ .i64 x0.2.2.1 x1.2.2.1,()),())
def zu:Int->Int->Comp A11:=fun x0 x1=>(Comp.loop (fun (x:A35)=>if neI x.2 0=true then (rem x.1 x.2).bind fun a=>.pure (.next (x.2,a)) else .pure (.done x.1)) (x0,x1)).bind fun x=>.pure (x,())
def vL:A1×Int×Unit->A1×Int×Unit->A1×Int×Unit->Comp (A7×Bool×Unit):=fun x0 x1 x2=>(vf x1.1 x2.1).bind fun x=>(Z6 x0.1 x.1).bind fun x=>if eqI x.1 0=true then .pure ((0,0,0,0,()),false,()) else (vf x1.1 x2.1).bind fun a=>(yk a.1 x0.2.1).bind fun b=>(vf x2.1 x0.1).bind fun c=>(yk c.1 x1.2.1).bind fun d=>(kK b.1 d.1).bind fun e=>(vf x0.1 x1.1).bind fun f=>(yk f.1 x2.2.1).bind fun g=>(kK e.1 g.1).bind fun h=>jn (fun (x:A7)=>(zu (wy x.2.1 (Yb .i64 x.2.1)) (wy x.2.2.1 (Yb .i64 x.2.2.1))).bind fun i=>(zu (wy x.2.2.2.1 (Yb .i64 x.2.2.2.1)) x.1).bind fun k=>(zu i.1 k.1).bind fun l=>(quo .i64 x.2.1 l.1).bind fun m=>(quo .i64 x.2.2.1 l.1).bind fun n=>(quo .i64 x.2.2.2.1 l.1).bind fun o=>(quo .i64 x.1 l.1).bind fun x=>.pure ((m,n,o,x,()),true,())) fun (j:Int×Int×Int×Int×Unit->Comp (A7×Bool×Unit))=>if ltI x.1 0=true then (yk h.1 (Int.negSucc 0)).bind fun i=>j (Yb .i64 x.1,i.1) else j (x.1,h.1)
def zd:A1×Int×Unit->Int×Int×Int×Int×Unit->Comp A11:=fun x0 x1=>.pure (gj .i64 (gj .i64 (gj .i64 (kW .i64 x0.2.1 x1.2.2.2.1) (kW .i64 x0.1.1 x1.1)) (kW .i64 x0.1.2.1 x1.2.1)) (kW .i64 x0.1.2.2.1 x1.2.2.1),())
def gL:List A2->Int×Int×Int×Int×Unit->Comp A9:=fun x0 x1=>(Comp.loop (fun (x:Int)=>if ltI x (zF x0)=true then (idx x0 x).bind fun a=>(zd a x1).bind fun b=>if ltI b.1 0=true then .pure (.done (Sum.inr false)) else .pure (.next (zJ .i64 x 1)) else .pure (.done (Sum.inl ()))) 0).bind fun (x:A29)=>match x with
   |.inl x=>.pure (true,())
   |.inr x=>.pure (x,())
def y4:List A7->Int×Int×Int×Int×Unit->Comp A9:=fun x0 x1=>(Comp.loop (fun (x:Int)=>if ltI x (zF x0)=true then (idx x0 x).bind fun a=>if adB (eqI a.1 x1.1) (adB (eqI a.2.1 x1.2.1) (adB (eqI a.2.2.1 x1.2.2.1) (eqI a.2.2.2.1 x1.2.2.2.1)))=true then .pure (.done (Sum.inr true)) else .pure (.next (zJ .i64 x 1)) else .pure (.done (Sum.inl ()))) 0).bind fun (x:A29)=>match x with
   |.inl x=>.pure (false,())
   |.inr x=>.pure (x,())
def vn:List A2->Comp A38:=fun x0=>(Comp.loop (fun (x:List A7×Int)=>if ltI x.2 (zF x0)=true then (Comp.loop (fun (a:List A7×Int)=>if ltI a.2 (zF x0)=true then (Comp.loop (fun (b:List A7×Int)=>if ltI b.2 (zF x0)=true then (idx x0 x.2).bind fun x=>(idx x0 a.2).bind fun c=>(idx x0 b.2).bind fun d=>(vL x c d).bind fun x=>(Comp.gd x.2.1 (gL x0 x.1) (false,())).bind fun e=>(Comp.gd (sel x.2.1 e.1 false) (y4 b.1 x.1) (false,())).bind fun f=>jn (fun (x:List A7)=>.pure (.next (x,zJ .i64 b.2 1))) fun (j:List A7->Comp (Comp.Step (List A7×Int) (List A7)))=>if sel (sel x.2.1 e.1 false) (ntB f.1) false=true then (app b.1 [x.1]).bind fun zs=>j zs else j b.1 else .pure (.done b.1)) (a.1,zJ .i64 a.2 1)).bind fun x=>.pure (.next (x,zJ .i64 a.2 1)) else .pure (.done a.1)) (x.1,zJ .i64 x.2 1)).bind fun a=>.pure (.next (a,zJ .i64 x.2 1)) else .pure (.done x.1)) ([],0)).bind fun x=>.pure (x,())
def gw:List A2->Comp A9:=fun x0=>(vn x0).bind fun y=>(Comp.loop (fun (x:Int)=>if ltI x (zF x0)=true then (Comp.loop (fun (a:Bool×Int)=>if ltI a.2 (zF y.1)=true then (Comp.gd (ntB a.1) (idx x0 x) ((0,0,0,()),0,())).bind fun x=>(Comp.gd (ntB a.1) (idx y.1 a.2) (0,0,0,0,())).bind fun b=>(Comp.gd (ntB a.1) (zd x b) (0,())).bind fun x=>.pure (.next (sel a.1 true (gtI x.1 0),zJ .i64 a.2 1)) else .pure (.done a.1)) (false,0)).bind fun a=>if ntB a=true then .pure (.done (Sum.inr false)) else .pure (.next (zJ .i64 x 1)) else .pure (.done (Sum.inl ()))) 0).bind fun (x:A29)=>match x with
    |.inl x=>.pure (true,())
    |.inr x=>.pure (x,())
def z6:List A2->Comp A9:=fun x0=>jn (fun (x:Bool)=>.pure (x,())) fun (j:Bool->Comp A9)=>(zZ x0).bind fun x=>if eqI x.1 0=true then (gP x0).bind fun y=>(gw y.1).bind fun x=>j x.1 else j false
def jx:List A16->Comp (A8×Unit):=fun x0=>(Comp.loop (fun (x:Int×List A16)=>if sel (ltI x.1 (zF x0)) (ltI x.1 2) false=true then (idx x0 x.1).bind fun a=>(inb 2 x.1).bind fun b=>.pure (.next (zJ .i64 x.1 1,vt x.2 x.1 a)) else .pure (.done x.2)) (0,[[],[]])).bind fun x=>(idx x 0).bind fun a=>(zG (a,0,()) (Int.ofNat 3)).bind fun y=>jn (fun (b:A37)=>(zG b.2 (Int.ofNat 3)).bind fun y_1=>(zG y_1.1.1 (Int.ofNat 3)).bind fun y_2=>(Comp.loop (fun (x:Int×Int×A6×List Int×Int×Unit)=>if ltI x.2.1 (zJ .i64 2 y.2.1)=true then (zG x.2.2.2 (Int.ofNat 4)).bind fun y=>(zq (x.1,0,0,()) (zJ .i64 x.1 (zJ .i64 1 y.2.1),3,zJ .i64 2 y_2.2.1,())).bind fun c=>(app x.2.2.1.2.1 [c.1]).bind fun zs=>jn (fun (d:A6)=>.pure (.next (zJ .i64 x.1 (zJ .i64 1 y.2.1),zJ .i64 x.2.1 1,(d.1,d.2.1,d.2.2.1,()),y.1.1))) fun (j:List UInt8×List A3×List Int×Unit->Comp (Comp.Step (Int×Int×A6×List Int×Int×Unit) (A6×List Int×Int×Unit)))=>if b.1=true then (zq (x.1,3,0,()) (zJ .i64 x.1 (zJ .i64 1 y.2.1),6,zJ .i64 2 y_2.2.1,())).bind fun d=>(app zs [d.1]).bind fun zs=>j (x.2.2.1.1,zs,x.2.2.1.2.2.1,()) else j (x.2.2.1.1,zs,x.2.2.1.2.2.1,()) else .pure (.done ((x.2.2.1.1,x.2.2.1.2.1,x.2.2.1.2.2.1,()),x.2.2.2))) (zJ .i64 (-6) y_1.2.1,0,([112],[],[],()),y_2.1.1)).bind fun c=>jn (fun (d:A37)=>jn (fun (e:A6)=>(idx x 1).bind fun f=>(Comp.loop (fun (g:Int×A6×List Int×Int×Unit)=>if ltI g.1 (zF g.2.1.2.1)=true then (zG g.2.2 (Int.ofNat 4)).bind fun y=>(idx [2,1,3,2] y.2.1).bind fun x=>(app g.2.1.2.2.1 [x]).bind fun zs=>.pure (.next (zJ .i64 g.1 1,(g.2.1.1,g.2.1.2.1,zs,()),y.1.1)) else .pure (.done (g.2.1.1,g.2.1.2.1,g.2.1.2.2.1,()))) (0,(e.1,e.2.1,e.2.2.1,()),f,0,())).bind fun x=>.pure ((x.1,x.2.1,x.2.2.1,()),())) fun (j:List UInt8×List A3×List Int×Unit->Comp (A6×Unit))=>if d.1=true then (zG d.2 (zF c.1.2.1)).bind fun y=>(zG y.1.1 (Int.ofNat 4)).bind fun y_3=>(idx c.1.2.1 y.2.1).bind fun x=>(app [] x).bind fun zs=>(app zs [((0,1,1,()),zJ .i64 2 y_3.2.1,())]).bind fun zs=>(idx c.1.2.1 y.2.1).bind fun x=>(app [] x).bind fun zs_1=>(vM ((0,1,1,()),zJ .i64 2 y_3.2.1,())).bind fun x=>(app zs_1 [x.1]).bind fun zs_2=>(z6 zs).bind fun x=>(Comp.gd x.1 (z6 zs_2) (false,())).bind fun e=>jn (fun (x:A8)=>j (x.1,x.2.1,x.2.2.1,())) fun (j:List UInt8×List A3×List Int×Unit->Comp (A6×Unit))=>if sel x.1 e.1 false=true then (inb c.1.2.1.length y.2.1).bind fun x=>(app (vt c.1.2.1 y.2.1 zs) [zs_2]).bind fun zs=>j (c.1.1,zs,c.1.2.2.1,()) else j (c.1.1,c.1.2.1,c.1.2.2.1,()) else j (c.1.1,c.1.2.1,c.1.2.2.1,())) fun (j:Bool×List Int×Int×Unit->Comp (A6×Unit))=>(zG c.2 (Int.ofNat 4)).bind fun y=>if eqI y.2.1 3=true then j (ltI (zF c.1.2.1) 6,y.1.1) else j (false,y.1.1)) fun (j:Bool×List Int×Int×Unit->Comp (A6×Unit))=>(zG y.1.1 (Int.ofNat 3)).bind fun y_1=>if eqI y_1.2.1 2=true then j (ltI (zJ .i64 2 y.2.1) 4,y_1.1.1) else j (false,y_1.1.1)
def vK:List A16->vF×List A3×List Int×Unit->Comp A19:=fun x0 x1=>(Comp.loop (fun (x:A22)=>if sel (ltI x.2 (zF x0)) (ltI x.2 4) false=true then (idx x0 x.2).bind fun a=>(zG (a,0,()) (Int.ofNat 4)).bind fun y=>(zG y.1.1 (zF x1.2.1)).bind fun y_1=>(idx x1.2.1 y_1.2.1).bind fun b=>(Wh b).bind fun zs=>jn (fun (c:List A2×List Int×Int×Unit)=>jn (fun (d:A3)=>(app x.1 [d]).bind fun zs=>.pure (.next (zs,zJ .i64 x.2 1))) fun (j:List A2->Comp (Comp.Step A22 A17))=>if eqI y.2.1 2=true then (zG c.2 (Int.ofNat 14)).bind fun y=>(zG y.1.1 (Int.ofNat 3)).bind fun y_2=>(zG y_2.1.1 (Int.ofNat 2)).bind fun y_3=>(zG y_3.1.1 (Int.ofNat 6)).bind fun y_4=>(zG y_4.1.1 (Int.ofNat 6)).bind fun y_5=>(zG y_5.1.1 (Int.ofNat 6)).bind fun y_6=>(zq (gj .i64 y.2.1 7,gj .i64 y_2.2.1 1,gj .i64 y_3.2.1 1,()) (zJ .i64 (zJ .i64 (gj .i64 y.2.1 7) 1) y_4.2.1,zJ .i64 (zJ .i64 (gj .i64 y_2.2.1 1) 2) y_5.2.1,zJ .i64 (zJ .i64 (gj .i64 y_3.2.1 1) 2) y_6.2.1,())).bind fun y=>j y.1 else j c.1) fun (j:List A2×List Int×Int×Unit->Comp (Comp.Step A22 A17))=>if eqI y.2.1 1=true then (zG y_1.1.1 (Int.ofNat 2)).bind fun y=>(zG y.1.1 (Int.ofNat 2)).bind fun y_2=>(app zs [((0,0,gj .i64 1 (kW .i64 2 y.2.1),()),kW .i64 (gj .i64 1 (kW .i64 2 y.2.1)) (zJ .i64 1 y_2.2.1),())]).bind fun zs=>j (zs,y_2.1.1) else j (zs,y_1.1.1) else .pure (.done x.1)) ([],0)).bind fun x=>.pure (x,())
def zb:List A2->List A2->Comp A9:=fun x0 x1=>(zZ x0).bind fun x=>(Comp.gd (ntB (neI x.1 0)) (zZ x1) (0,())).bind fun a=>if sel (neI x.1 0) true (neI a.1 0)=true then .pure (true,()) else (app [] x0).bind fun zs=>(app zs x1).bind fun zs=>(gP zs).bind fun y=>(gw y.1).bind fun x=>.pure (ntB x.1,())
def gV:vF×List A3×List Int×Unit->Comp A11:=fun x0=>if sel (ltI (zF x0.2.1) 1) true (gtI (zF x0.2.1) 16)=true then .pure (2,()) else if neI (zF x0.2.2.1) (zF x0.2.1)=true then .pure (1,()) else (Comp.loop (fun (x:Int)=>if ltI x (zF x0.2.2.1)=true then (idx x0.2.2.1 x).bind fun a=>(Comp.gd (ntB (ltI a 1)) (idx x0.2.2.1 x) (Int.ofNat 0)).bind fun b=>if sel (ltI a 1) true (gtI b 3)=true then .pure (.done (Sum.inr 1)) else .pure (.next (zJ .i64 x 1)) else .pure (.done (Sum.inl ()))) 0).bind fun (x:A25)=>match x with
     |.inl x=>(Comp.loop (fun (x:Int)=>if ltI x (zF x0.2.1)=true then (idx x0.2.1 x).bind fun a=>(z6 a).bind fun b=>if ntB b.1=true then .pure (.done (Sum.inr 13)) else (Comp.loop (fun (c:Int)=>if ltI c x=true then (idx x0.2.1 c).bind fun d=>(idx x0.2.1 x).bind fun x=>(zb d x).bind fun x=>if ntB x.1=true then .pure (.done (Sum.inr 13)) else .pure (.next (zJ .i64 c 1)) else .pure (.done (Sum.inl ()))) 0).bind fun (c:A25)=>match c with
             |.inl d=>.pure (.next (zJ .i64 x 1))
             |.inr x=>.pure (.done (Sum.inr x)) else .pure (.done (Sum.inl ()))) 0).bind fun (x:A25)=>match x with
       |.inl x=>.pure (0,())
       |.inr x=>.pure (x,())
     |.inr x=>.pure (x,())
def yZ:List A3->Comp A11:=fun x0=>(Comp.loop (fun (x:Int)=>if ltI x (zF x0)=true then (idx x0 x).bind fun a=>(zZ a).bind fun b=>if neI b.1 0=true then .pure (.done (Sum.inr b.1)) else .pure (.next (zJ .i64 x 1)) else .pure (.done (Sum.inl ()))) 0).bind fun (x:A25)=>match x with
   |.inl x=>.pure (0,())
   |.inr x=>.pure (x,())
def gv:vF×List A3×List Int×Unit->List Bool×List Bool×List A3×Unit->Comp A9:=fun x0 x1=>(Comp.gd (sel (sel (eqI (zF x1.1) (zF x0.2.1)) (eqI (zF x1.2.1) (zF x0.2.1)) false) (leI (zF x1.2.2.1) 24) false) (yZ x1.2.2.1) (0,())).bind fun x=>.pure (sel (sel (sel (eqI (zF x1.1) (zF x0.2.1)) (eqI (zF x1.2.1) (zF x0.2.1)) false) (leI (zF x1.2.2.1) 24) false) (eqI x.1 0) false,())
def gD:List A3->Comp A19:=fun x0=>(Comp.loop (fun (x:A22)=>if ltI x.2 (zF x0)=true then (idx x0 x.2).bind fun a=>(app [] a).bind fun zs=>(app x.1 [zs]).bind fun zs=>.pure (.next (zs,zJ .i64 x.2 1)) else .pure (.done x.1)) ([],0)).bind fun x=>.pure (x,())
def yy:List A2->List A3->Comp A9:=fun x0 x1=>(Comp.loop (fun (x:Int)=>if ltI x (zF x1)=true then (idx x1 x).bind fun a=>(zb x0 a).bind fun b=>if ntB b.1=true then .pure (.done (Sum.inr false)) else .pure (.next (zJ .i64 x 1)) else .pure (.done (Sum.inl ()))) 0).bind fun (x:A29)=>match x with
   |.inl x=>.pure (true,())
   |.inr x=>.pure (x,())
def vd:List A3->List A2->Comp A19:=fun x0 x1=>(Comp.loop (fun (x:A22)=>if ltI x.2 (zF x0)=true then (idx x0 x.2).bind fun a=>(zb a x1).bind fun b=>jn (fun (c:A17)=>.pure (.next (c,zJ .i64 x.2 1))) fun (j:List A3->Comp (Comp.Step A22 A17))=>if ntB b.1=true then (idx x0 x.2).bind fun c=>(app x.1 [c]).bind fun zs=>j zs else j x.1 else .pure (.done x.1)) ([],0)).bind fun x=>.pure (x,())
def jZ:List A3->Comp A11:=fun x0=>if gtI (zF x0) 16=true then .pure (2,()) else (Comp.loop (fun (x:Int)=>if ltI x (zF x0)=true then (idx x0 x).bind fun a=>(zZ a).bind fun b=>if neI b.1 0=true then .pure (.done (Sum.inr b.1)) else .pure (.next (zJ .i64 x 1)) else .pure (.done (Sum.inl ()))) 0).bind fun (x:A25)=>match x with
    |.inl x=>.pure (0,())
    |.inr x=>.pure (x,())
def jF:List A2->Comp A38:=fun x0=>(zZ x0).bind fun x=>if neI x.1 0=true then .pure ([],()) else (gP x0).bind fun y=>(vn y.1).bind fun y=>.pure (y.1,())
def y8:A1×Int×Unit->A1×Int×Unit->Comp A11:=fun x0 x1=>(Comp.loop (fun (x:Int)=>if ltI x 4=true then (idx [x0.1.1,x0.1.2.1,x0.1.2.2.1,x0.2.1] x).bind fun a=>(idx [x1.1.1,x1.1.2.1,x1.1.2.2.1,x1.2.1] x).bind fun b=>if ltI a b=true then .pure (.done (Sum.inr (-1))) else (idx [x0.1.1,x0.1.2.1,x0.1.2.2.1,x0.2.1] x).bind fun c=>(idx [x1.1.1,x1.1.2.1,x1.1.2.2.1,x1.2.1] x).bind fun d=>if gtI c d=true then .pure (.done (Sum.inr 1)) else .pure (.next (zJ .i64 x 1)) else .pure (.done (Sum.inl ()))) 0).bind fun (x:A25)=>match x with
   |.inl x=>.pure (0,())
   |.inr x=>.pure (x,())
def jO:List A2->A1×Int×Unit->Comp A12:=fun x0 x1=>(Comp.loop (fun (x:Int)=>(Comp.gd (ltI x (zF x0)) (idx x0 x) ((0,0,0,()),0,())).bind fun a=>(Comp.gd (ltI x (zF x0)) (y8 a x1) (0,())).bind fun b=>if sel (ltI x (zF x0)) (ltI b.1 0) false=true then .pure (.next (zJ .i64 x 1)) else .pure (.done x)) 0).bind fun x=>(Comp.gd (ltI x (zF x0)) (idx x0 x) ((0,0,0,()),0,())).bind fun a=>if sel (ltI x (zF x0)) (adB (adB (eqI a.1.1 x1.1.1) (adB (eqI a.1.2.1 x1.1.2.1) (eqI a.1.2.2.1 x1.1.2.2.1))) (eqI a.2.1 x1.2.1)) false=true then .pure (x0,()) else (sub x0 0 x).bind fun b=>(app [] b).bind fun zs=>(app zs [x1]).bind fun zs=>(sub x0 x (zF x0)).bind fun x=>(app zs x).bind fun zs=>.pure (zs,())
def zm:List A2->Comp A12:=fun x0=>(z6 x0).bind fun x=>if ntB x.1=true then .pure ([],()) else (jF x0).bind fun y=>(Comp.loop (fun (a:A32)=>if ltI a.2 (zF x0)=true then (Comp.loop (fun (b:A35)=>if ltI b.2 (zF y.1)=true then (idx x0 a.2).bind fun x=>(idx y.1 b.2).bind fun c=>(zd x c).bind fun x=>jn (fun (x:Int)=>.pure (.next (x,zJ .i64 b.2 1))) fun (j:Int->Comp (Comp.Step A35 Int))=>if eqI x.1 0=true then j (zJ .i64 b.1 1) else j b.1 else .pure (.done b.1)) (0,0)).bind fun x=>jn (fun (x:A3)=>.pure (.next (x,zJ .i64 a.2 1))) fun (j:List A2->Comp (Comp.Step A32 A3))=>if geI x 3=true then (idx x0 a.2).bind fun x=>(jO a.1 x).bind fun x=>j x.1 else j a.1 else .pure (.done a.1)) ([],0)).bind fun x=>.pure (x,())
def yL:List A2->A1×Int×Unit->Comp A12:=fun x0 x1=>(app [] x0).bind fun zs=>(app zs [x1]).bind fun zs=>.pure (zs,())
def gW:List A2->List A2->Comp A20:=fun x0 x1=>(Comp.loop (fun (x:List A3×List A2×Int)=>if ltI x.2.2 (zF x1)=true then if geI (zF x.2.1) 48=true then .pure (.done (Sum.inr ([],9))) else (idx x1 x.2.2).bind fun a=>(vM a).bind fun b=>(yL x.2.1 b.1).bind fun y=>(zm y.1).bind fun c=>jn (fun (d:A17)=>(idx x1 x.2.2).bind fun e=>(yL x.2.1 e).bind fun y=>(zm y.1).bind fun f=>.pure (.next (d,f.1,zJ .i64 x.2.2 1))) fun (j:List A3->Comp (Comp.Step (List A3×List A2×Int) A36))=>if gtI (zF c.1) 0=true then (app x.1 [c.1]).bind fun zs=>j zs else j x.1 else .pure (.done (Sum.inl x.1))) ([],x0,0)).bind fun (x:A36)=>match x with
   |.inl x=>.pure (x,0,())
   |.inr x=>.pure (x.1,x.2,())
def y7:List A3->List A2->Comp A20:=fun x0 x1=>(z6 x1).bind fun x=>if ntB x.1=true then .pure (x0,0,()) else (Comp.loop (fun (x:A22)=>if ltI x.2 (zF x0)=true then jn (fun (a:A17)=>.pure (.next (a,zJ .i64 x.2 1))) fun (j:List A3->Comp (Comp.Step A22 A36))=>(idx x0 x.2).bind fun a=>(zb a x1).bind fun b=>if b.1=true then (idx x0 x.2).bind fun c=>(app x.1 [c]).bind fun zs=>j zs else (idx x0 x.2).bind fun c=>(zm x1).bind fun d=>(gW c d.1).bind fun e=>if neI e.2.1 0=true then .pure (.done (Sum.inr ([],e.2.1))) else (app x.1 e.1).bind fun zs=>j zs else .pure (.done (Sum.inl x.1))) ([],0)).bind fun (a:A36)=>match a with
     |.inl b=>if gtI (zF b) 200=true then .pure ([],9,()) else .pure (b,0,())
     |.inr x=>.pure (x.1,x.2,())
def jY:List A2->List A3->Comp A20:=fun x0 x1=>(zZ x0).bind fun x=>jn (fun (x:Int)=>if neI x 0=true then .pure ([],x,()) else (z6 x0).bind fun x=>jn (fun (x:A17)=>(Comp.loop (fun (x:A22)=>if ltI x.2 (zF x1)=true then (idx x1 x.2).bind fun a=>(y7 x.1 a).bind fun b=>if neI b.2.1 0=true then .pure (.done (Sum.inr ([],b.2.1))) else .pure (.next (b.1,zJ .i64 x.2 1)) else .pure (.done (Sum.inl x.1))) (x,0)).bind fun (x:A36)=>match x with
          |.inl x=>.pure (x,0,())
          |.inr x=>.pure (x.1,x.2,())) fun (j:List A3->Comp A20)=>if x.1=true then (zm x0).bind fun x=>(app [] [x.1]).bind fun zs=>j zs else j []) fun (j:Int->Comp A20)=>if eqI x.1 0=true then (jZ x1).bind fun x=>j x.1 else j x.1
def vH:List A3->List A2->Comp A21:=fun x0 x1=>(jY x1 x0).bind fun x=>.pure (sel (eqI x.2.1 0) (eqI (zF x.1) 0) false,x.2.1,())
def jX:vF×List A3×List Int×Unit->List Bool×List Bool×List A3×Unit->List A3->List A3->Comp (A5×Int×Unit):=fun x0 x1 x2 x3=>(gV x0).bind fun x=>if neI x.1 0=true then .pure (([],[],[],()),x.1,()) else (gv x0 x1).bind fun x=>if ntB x.1=true then .pure (([],[],[],()),4,()) else (yZ x2).bind fun x=>jn (fun (x:Int)=>if neI x 0=true then .pure (([],[],[],()),x,()) else if gtI (zJ .i64 (zF x1.2.2.1) (zF x2)) 24=true then .pure (([],[],[],()),2,()) else (gD x1.2.2.1).bind fun y=>(gD x2).bind fun y_1=>(app y.1 y_1.1).bind fun zs=>(Comp.loop (fun (x:Int×A5×List Bool×List Bool×List A3×Unit)=>if ltI x.1 (zF x0.2.1)=true then (idx x0.2.1 x.1).bind fun a=>(idx x1.2.1 x.1).bind fun b=>(Comp.gd (ntB b) (yy a x2) (false,())).bind fun c=>(Comp.gd (ntB (sel b true (ntB c.1))) (yy a x3) (false,())).bind fun d=>(app x.2.2.2.1 [sel (sel b true (ntB c.1)) true (ntB d.1)]).bind fun zs=>(idx x1.1 x.1).bind fun e=>jn (fun (f:Bool×List Bool×List Bool×List A3×Unit)=>(app x.2.2.1 [f.1]).bind fun zs_1=>.pure (.next (zJ .i64 x.1 1,f.2,zs_1,zs,x.2.2.2.2.1,()))) fun (j:Bool×List Bool×List Bool×List A3×Unit->Comp (Comp.Step (Int×A5×List Bool×List Bool×List A3×Unit) A39))=>if ntB e=true then (vd x.2.2.2.2.1 a).bind fun y=>(vH y.1 a).bind fun f=>if neI f.2.1 0=true then .pure (.done (Sum.inr (f.2.1,[],[],[],()))) else j (f.1,x.2.1) else j (e,x.2.1) else .pure (.done (Sum.inl (x.2.1,x.2.2.1,x.2.2.2.1,x.2.2.2.2.1,())))) (0,([],[],[],()),[],[],zs,())).bind fun (x:A5×List Bool×List Bool×List A3×Unit⊕Int×List Bool×List Bool×List A3×Unit)=>match x with
               |.inl x=>.pure ((x.2.1,x.2.2.1,x.2.2.2.1,()),0,())
               |.inr x=>.pure (x.2,x.1,())) fun (j:Int->Comp (A5×Int×Unit))=>if eqI x.1 0=true then (yZ x3).bind fun x=>j x.1 else j x.1
def yj:vF×List A3×List Int×Unit->List Int->Int->Comp (A4×Unit):=fun x0 x1 x2=>(zG (x1,0,()) (Int.ofNat 6)).bind fun y=>jn (fun (x:A37)=>jn (fun (a:A4)=>(zG x.2 (Int.ofNat 5)).bind fun y=>(Comp.loop (fun (x:Int×A4×List Int×Int×Unit)=>if ltI x.1 (zF x0.2.1)=true then (zG x.2.2 (Int.ofNat 2)).bind fun y_1=>(idx x0.2.2.1 x.1).bind fun b=>jn (fun (c:A37)=>jn (fun (d:List A3×List A3×Int×List Int×Unit)=>.pure (.next (zJ .i64 x.1 1,(d.1,d.2.1,d.2.2.1,d.2.2.2.1,()),c.2))) fun (j:List A3×List A3×Int×List Int×Unit->Comp (Comp.Step (Int×A4×List Int×Int×Unit) A4))=>if c.1=true then (idx x0.2.1 x.1).bind fun d=>(app [] d).bind fun zs=>(app x.2.1.1 [zs]).bind fun zs=>j (zs,x.2.1.2.1,x.2.1.2.2.1,x.2.1.2.2.2.1,()) else j (x.2.1.1,x.2.1.2.1,x.2.1.2.2.1,x.2.1.2.2.2.1,())) fun (j:Bool×List Int×Int×Unit->Comp (Comp.Step (Int×A4×List Int×Int×Unit) A4))=>if eqI b 1=true then jn (fun (x:A37)=>j (x.1,x.2)) fun (j:Bool×List Int×Int×Unit->Comp (Comp.Step (Int×A4×List Int×Int×Unit) A4))=>if eqI y.2.1 4=true then (zG y_1.1.1 (Int.ofNat 3)).bind fun y=>j (eqI y.2.1 2,y.1.1) else j (false,y_1.1.1) else j (eqI y_1.2.1 1,y_1.1.1) else .pure (.done (x.2.1.1,x.2.1.2.1,x.2.1.2.2.1,x.2.1.2.2.2.1,()))) (0,(a.1,a.2.1,a.2.2.1,a.2.2.2.1,()),y.1.1)).bind fun x=>jn (fun (x:List A3×List A3×Int×List Int×Unit)=>jn (fun (x:List A3×List A3×Int×List Int×Unit)=>.pure ((x.1,x.2.1,x.2.2.1,x.2.2.2.1,()),())) fun (j:List A3×List A3×Int×List Int×Unit->Comp (A4×Unit))=>if eqI y.2.1 2=true then (sub x1 (Dd (zF x1) 5) (zF x1)).bind fun b=>(vK [b] x0).bind fun y=>j (x.1,y.1,x.2.2.1,x.2.2.2.1,()) else j (x.1,x.2.1,x.2.2.1,x.2.2.2.1,())) fun (j:List A3×List A3×Int×List Int×Unit->Comp (A4×Unit))=>if eqI y.2.1 3=true then (sub x1 (Dd (zF x1) 4) (zF x1)).bind fun b=>(vK [b] x0).bind fun c=>(app x.1 c.1).bind fun zs=>j (zs,x.2.1,x.2.2.1,x.2.2.2.1,()) else j (x.1,x.2.1,x.2.2.1,x.2.2.2.1,())) fun (j:List A3×List A3×Int×List Int×Unit->Comp (A4×Unit))=>if x.1=true then j ([],[],zJ .i64 1 y.2.1,[gj .i64 x2 1],()) else j ([],[],zJ .i64 1 y.2.1,[],())) fun (j:Bool×List Int×Int×Unit->Comp (A4×Unit))=>if gtI x2 0=true then (zG y.1.1 (Int.ofNat 5)).bind fun y=>j (eqI y.2.1 4,y.1.1) else j (false,y.1.1)
def jT:List Int->Comp A9:=fun x0=>(Comp.loop (fun (x:Int)=>if ltI x (zF x0)=true then (idx x0 x).bind fun a=>(idx x0 (gj .i64 x 1)).bind fun b=>if leI a b=true then .pure (.done (Sum.inr false)) else .pure (.next (zJ .i64 x 1)) else .pure (.done (Sum.inl ()))) 1).bind fun (x:A29)=>match x with
   |.inl x=>.pure (true,())
   |.inr x=>.pure (x,())
def gE:List A4->Int->Comp A11:=fun x0 x1=>(idx x0 x1).bind fun x=>(app [] x.1).bind fun zs=>(app zs x.2.1).bind fun zs_1=>(Comp.loop (fun (a:Int)=>if ltI a (zF zs_1)=true then (idx zs_1 a).bind fun x=>(zZ x).bind fun x=>if neI x.1 0=true then .pure (.done (Sum.inr x.1)) else .pure (.next (zJ .i64 a 1)) else .pure (.done (Sum.inl ()))) 0).bind fun (a:A25)=>match a with
      |.inl b=>if sel (ltI x.2.2.1 1) true (gtI x.2.2.1 1048576)=true then .pure (3,()) else (Comp.loop (fun (c:Int)=>if ltI c (zF x.2.2.2.1)=true then (idx x.2.2.2.1 c).bind fun d=>(Comp.gd (ntB (ltI d 0)) (idx x.2.2.2.1 c) (Int.ofNat 0)).bind fun e=>(Comp.gd (ntB (sel (ltI d 0) true (geI e (zF x0)))) (idx x.2.2.2.1 c) (Int.ofNat 0)).bind fun f=>if sel (sel (ltI d 0) true (geI e (zF x0))) true (eqI f x1)=true then .pure (.done (Sum.inr 3)) else .pure (.next (zJ .i64 c 1)) else .pure (.done (Sum.inl ()))) 0).bind fun (c:A25)=>match c with
         |.inl d=>(jT x.2.2.2.1).bind fun x=>if ntB x.1=true then .pure (7,()) else .pure (0,())
         |.inr x=>.pure (x,())
      |.inr x=>.pure (x,())
def gU:A8×A5×List A4×Unit->Comp A11:=fun x0=>(gV x0.1).bind fun x=>if neI x.1 0=true then .pure (x.1,()) else (gv x0.1 x0.2.1).bind fun x=>if ntB x.1=true then .pure (4,()) else if gtI (zF x0.2.2.1) 8=true then .pure (2,()) else (Comp.loop (fun (x:A35)=>if ltI x.2 (zF x0.2.2.1)=true then (gE x0.2.2.1 x.2).bind fun a=>if neI a.1 0=true then .pure (.done (Sum.inr a.1)) else (idx x0.2.2.1 x.2).bind fun b=>.pure (.next (zJ .i64 x.1 (zF b.1),zJ .i64 x.2 1)) else .pure (.done (Sum.inl x.1))) (zF x0.2.1.2.2.1,0)).bind fun (x:Int⊕Int)=>match x with
        |.inl x=>if gtI x 24=true then .pure (2,()) else .pure (0,())
        |.inr x=>.pure (x,())
def jw:List A16->Comp (A15×Unit):=fun x0=>(sub x0 0 (Dd (zF x0) 2)).bind fun x=>(jx x).bind fun a=>(jN a.1).bind fun b=>jn (fun (c:A6×A5×List A4×Unit)=>(Comp.loop (fun (x:Int×A6×A5×List A4×Unit)=>if sel (ltI x.1 (zF x0)) (ltI x.1 7) false=true then (idx x0 x.1).bind fun d=>(yj a.1 d (gj .i64 x.1 3)).bind fun e=>(app x.2.2.2.1 [e.1]).bind fun zs=>.pure (.next (zJ .i64 x.1 1,x.2.1,x.2.2.1,zs,())) else .pure (.done (x.2.1,x.2.2.1,x.2.2.2.1,()))) (3,c.1,c.2.1,c.2.2.1,())).bind fun d=>jn (fun (e:A6×A5×List A4×Unit)=>(Comp.loop (fun (f:A6×A5×List A4×Unit)=>(Comp.gd (gtI (zF f.2.2.1) 1) (gU (f.1,f.2.1,f.2.2.1,())) (0,())).bind fun g=>if sel (gtI (zF f.2.2.1) 1) (eqI g.1 2) false=true then jn (fun (x:A6×A5×List A4×Unit)=>.pure (.next (x.1,x.2.1,x.2.2.1,()))) fun (j:A6×A5×List A4×Unit->Comp (Comp.Step A13 A13))=>(sub f.2.2.1 0 (gj .i64 (zF f.2.2.1) 1)).bind fun ys=>j (f.1,f.2.1,ys,()) else .pure (.done (f.1,f.2.1,f.2.2.1,()))) (e.1,e.2.1,e.2.2.1,())).bind fun x=>.pure ((x.1,x.2.1,x.2.2.1,()),())) fun (j:A6×A5×List A4×Unit->Comp (A13×Unit))=>if eqI (zF d.2.2.1) 0=true then (yj a.1 [] (Int.ofNat 0)).bind fun x=>(app d.2.2.1 [x.1]).bind fun zs=>j (d.1,d.2.1,zs,()) else j (d.1,d.2.1,d.2.2.1,())) fun (j:A6×A5×List A4×Unit->Comp (A13×Unit))=>if gtI (zF x0) 2=true then (idx x0 2).bind fun x=>(zG (x,0,()) (Int.ofNat 3)).bind fun y=>jn (fun (x:A6×A5×List A4×Unit)=>j (x.1,x.2.1,x.2.2.1,())) fun (j:A6×A5×List A4×Unit->Comp (A13×Unit))=>if eqI y.2.1 2=true then (idx x0 2).bind fun x=>(idx x0 2).bind fun c=>(sub x (Dd (zF c) 1) (zF x)).bind fun x=>(vK [x] a.1).bind fun x=>(jX a.1 b.1 x.1 []).bind fun x=>jn (fun (x:A6×A5×List A4×Unit)=>j (x.1,x.2.1,x.2.2.1,())) fun (j:A6×A5×List A4×Unit->Comp (A13×Unit))=>if eqI x.2.1 0=true then j (a.1,x.1,[],()) else j (a.1,b.1,[],()) else j (a.1,b.1,[],()) else j (a.1,b.1,[],())
def kJ:A8×A5×List A4×Unit->List Int->Comp (A15×Unit):=fun x0 x1=>(Comp.loop (fun (x:Int×A6×A5×List A4×Unit)=>if ltI x.1 (zF x0.2.2.1)=true then (idx x0.2.2.1 x.1).bind fun a=>(app [] a.2.2.2.1).bind fun zs=>(app x.2.2.2.1 [(a.1,a.2.1,a.2.2.1,zs,())]).bind fun zs=>.pure (.next (zJ .i64 x.1 1,x.2.1,x.2.2.1,zs,())) else .pure (.done (x.2.1,x.2.2.1,x.2.2.2.1,()))) (0,x0.1,x0.2.1,[],())).bind fun x=>(idx x1 2).bind fun a=>(idx x1 2).bind fun b=>(zz b (Int.ofNat 8)).bind fun c=>(idx [a,0,1, -1,2,8,1048576,1048577] c.1).bind fun d=>(idx x1 1).bind fun e=>(zz e (wy 1 (zF x.2.2.1))).bind fun f=>if eqI (zF x.2.2.1) 0=true then .pure ((x.1,x.2.1,x.2.2.1,()),()) else (idx x1 0).bind fun g=>(zz g (Int.ofNat 8)).bind fun h=>jn (fun (x:A6×A5×List A4×Unit)=>.pure ((x.1,x.2.1,x.2.2.1,()),())) fun (j:A6×A5×List A4×Unit->Comp (A13×Unit))=>if eqI h.1 0=true then (idx x1 1).bind fun x=>(idx x1 2).bind fun x=>(idx x1 0).bind fun x=>Comp.fail else jn (fun (x:A6×A5×List A4×Unit)=>j (x.1,x.2.1,x.2.2.1,())) fun (j:A6×A5×List A4×Unit->Comp (A13×Unit))=>if eqI h.1 1=true then (idx x1 1).bind fun x=>(idx x1 2).bind fun x=>(idx x1 0).bind fun x=>Comp.fail else jn (fun (x:A6×A5×List A4×Unit)=>j (x.1,x.2.1,x.2.2.1,())) fun (j:A6×A5×List A4×Unit->Comp (A13×Unit))=>if eqI h.1 2=true then (inb x.2.2.1.length f.1).bind fun i=>(idx x.2.2.1 f.1).bind fun (z:List A3×List A3×Int×List Int×Unit)=>j (x.1,x.2.1,vt x.2.2.1 f.1 (z.1,z.2.1,d,z.2.2.2),()) else Comp.fail
def gR:vF×List A3×List Int×Unit->Comp (A8×Unit):=fun x0=>(gD x0.2.1).bind fun x=>(app [] x0.2.2.1).bind fun zs=>.pure ((x0.1,x.1,zs,()),())
def jE:List A16->List Int->Int->Int->Comp A9:=fun x0 x1 x2 x3=>jG.bind fun x=>(kL x0).bind fun y=>(jw y.1).bind fun y_1=>(gG (y_1.1.1,y_1.1.2.1,y_1.1.2.2.1,())).bind fun a=>if sel (neI a.2.2.2.1 0) (neI a.2.2.2.1 60) false=true then .pure (x.1,()) else (rem (qw .i64 x2) (zF y_1.1.2.2.1)).bind fun b=>(Comp.loop (fun (c:Int)=>if ltI c 4=true then jn (fun (x:Unit)=>.pure (.next (zJ .i64 c 1))) fun (j:Unit->Comp (Comp.Step Int A29))=>(kJ (y_1.1.1,y_1.1.2.1,y_1.1.2.2.1,()) [2,b,4]).bind fun y_2=>(idx y_1.1.2.2.1 b).bind fun d=>(inb y_2.1.2.2.1.length b).bind fun e=>(idx y_2.1.2.2.1 b).bind fun (z:List A3×List A3×Int×List Int×Unit)=>jn (fun (x:A6×A5×List A4×Unit)=>(gG (x.1,x.2.1,x.2.2.1,())).bind fun x=>if sel (neI x.2.2.2.1 0) (neI x.2.2.2.1 60) false=true then j () else if sel (sel (sel (ltI c 2) (eqI a.2.2.2.1 0) false) (sel (neI x.2.2.2.1 0) true (gtI x.2.1 a.2.1)) false) true (sel (sel (gtI c 1) (eqI x.2.2.2.1 0) false) (sel (neI a.2.2.2.1 0) true (ltI x.2.1 a.2.1)) false)=true then .pure (.done (Sum.inr false)) else j ()) fun (j_1:A6×A5×List A4×Unit->Comp (Comp.Step Int A29))=>if eqI c 0=true then (sub x1 0 (Dd (zF x1) 40)).bind fun x=>(yj y_1.1.1 x (Int.ofNat 0)).bind fun x=>(app (vt y_2.1.2.2.1 b (z.1,z.2.1,d.2.2.1,z.2.2.2)) [x.1]).bind fun zs=>j_1 (y_2.1.1,y_2.1.2.1,zs,()) else jn (fun (x:A6×A5×List A4×Unit)=>j_1 (x.1,x.2.1,x.2.2.1,())) fun (j_2:A6×A5×List A4×Unit->Comp (Comp.Step Int A29))=>if eqI c 1=true then (idx y_1.1.2.2.1 b).bind fun x=>(rem (qw .i64 x3) x.2.2.1).bind fun x=>(inb (vt y_2.1.2.2.1 b (z.1,z.2.1,d.2.2.1,z.2.2.2)).length b).bind fun f=>(idx (vt y_2.1.2.2.1 b (z.1,z.2.1,d.2.2.1,z.2.2.2)) b).bind fun (z_1:List A3×List A3×Int×List Int×Unit)=>j_2 (y_2.1.1,y_2.1.2.1,vt (vt y_2.1.2.2.1 b (z.1,z.2.1,d.2.2.1,z.2.2.2)) b (z_1.1,z_1.2.1,zJ .i64 1 x,z_1.2.2.2),()) else jn (fun (x:A6×A5×List A4×Unit)=>j_2 (x.1,x.2.1,x.2.2.1,())) fun (j_3:A6×A5×List A4×Unit->Comp (Comp.Step Int A29))=>if eqI c 2=true then (Comp.gd (ntB (eqI b 0)) (idx (vt y_2.1.2.2.1 b (z.1,z.2.1,d.2.2.1,z.2.2.2)) b) ([],[],0,[],())).bind fun f=>if sel (eqI b 0) true (gtI (zF f.2.2.2.1) 0)=true then j () else (rem (qw .i64 x3) b).bind fun x=>(inb (vt y_2.1.2.2.1 b (z.1,z.2.1,d.2.2.1,z.2.2.2)).length b).bind fun g=>(idx (vt y_2.1.2.2.1 b (z.1,z.2.1,d.2.2.1,z.2.2.2)) b).bind fun (z_1:List A3×List A3×Int×List Int×Unit)=>j_3 (y_2.1.1,y_2.1.2.1,vt (vt y_2.1.2.2.1 b (z.1,z.2.1,d.2.2.1,z.2.2.2)) b (z_1.1,z_1.2.1,z_1.2.2.1,[x],z_1.2.2.2.2),()) else jn (fun (x:A6×A5×List A4×Unit)=>j_3 (x.1,x.2.1,x.2.2.1,())) fun (j_4:A6×A5×List A4×Unit->Comp (Comp.Step Int A29))=>if eqI c 3=true then (gR y_1.1.1).bind fun y_3=>(rem (qw .i64 x3) (zF y_3.1.2.2.1)).bind fun f=>(idx y_3.1.2.2.1 f).bind fun g=>if neI g 3=true then j () else (inb y_3.1.2.2.1.length f).bind fun x=>j_4 ((y_3.1.1,y_3.1.2.1,vt y_3.1.2.2.1 f (Int.ofNat 1),()),y_2.1.2.1,vt y_2.1.2.2.1 b (z.1,z.2.1,d.2.2.1,z.2.2.2),()) else j_4 (y_2.1.1,y_2.1.2.1,vt y_2.1.2.2.1 b (z.1,z.2.1,d.2.2.1,z.2.2.2),()) else .pure (.done (Sum.inl ()))) 0).bind fun (c:A29)=>match c with
         |.inl d=>.pure (x.1,())
         |.inr x=>.pure (x,())
end Go.F
end
section
namespace Go.Geo
open Go Go.Eng Go.Lift Go.Den Go.F
variable {α β γ δ ε σ τ:Type}
abbrev V3:=Int×Int×Int×Unit
abbrev Pnt:=Int×Int×Int×Int×Unit
def okv(k n:Int):Bool:=decide (-k<=n/\n<=k)
def Jt(v:V3):Nat:=Nat.gcd (Nat.gcd v.1.natAbs v.2.1.natAbs) v.2.2.1.natAbs
def okN(v:V3):Bool:=okv 4608 v.1 && (okv 4608 v.2.1 && okv 4608 v.2.2.1)
def okP(p:Pln):Bool:=okN p.1 && (decide (Jt p.1=1) && okv 2097152 p.2.1)
theorem RF:∀(b a:Nat),(Comp.loop
   (fun (x:Int×Int)=>if gtI x.2 0=true then (rem x.1 x.2).bind fun x_3=>Comp.pure (.next (x.2,x_3))
    else Comp.pure (.done x.1)) ((a:Int),(b:Int))).val=some ((Nat.gcd a b:Nat):Int):=by
 intro b
 induction b using Nat.strongRecOn with
 |_ b ih =>
  intro a
  conv=>lhs;rw[zO]
  by_cases hb:0<b
  ·have h1:(0:Int)<(b:Int):=by omega
   have h2:(rem (a:Int) (b:Int)).val=some ((a % b:Nat):Int):=by rw[Zl (by omega)];rfl
   have:=ih (a % b) (Nat.mod_lt _ hb) b;simp only[ya,h1,if_true,zA,h2,zKS,Comp.zB];rw[show Nat.gcd a b=Nat.gcd b (a % b) by rw[Nat.gcd_comm a b,Nat.gcd_rec,Nat.gcd_comm]]
   simp only[ya]at this;exact this
  ·have h0:b=0:=by omega
   subst h0;simp[gtI]
theorem Ga:∀(b a:Int),∃r,r.natAbs=Nat.gcd a.natAbs b.natAbs/\(Comp.loop
   (fun (x:Int×Int)=>if neI x.2 0=true then (rem x.1 x.2).bind fun x_2=>Comp.pure (.next (x.2,x_2)) else Comp.pure (.done x.1)) (a,b)).val=some r:=by
 intro b;generalize hn:b.natAbs=n
 induction n using Nat.strongRecOn generalizing b with
 |_ n ih =>
  intro a;by_cases hb:b=0
  ·refine⟨a,?_,?_⟩
   ·subst hb;simp at hn;simp[<-hn]
   ·conv=>lhs;rw[zO]
    simp[neI,hb]
  ·have gF:(a.tmod b).natAbs<n:=by rw[Int.natAbs_tmod,<-hn];exact Nat.mod_lt _ (by omega)
   obtain⟨r,h1,h2⟩:=ih _ gF (a.tmod b) rfl b;refine⟨r,?_,?_⟩
   ·rw[h1,Int.natAbs_tmod,hn]
    exact(Nat.gcd_comm _ _).trans ((Nat.gcd_rec n a.natAbs).symm.trans (Nat.gcd_comm _ _))
   ·conv=>lhs;rw[zO]
    simp only[zj,ne_eq,hb,not_false_eq_true,if_true,zA,Zl hb,zKS,Comp.zB];simp only[zj,ne_eq]at h2;exact h2
theorem qg{n:Int}(h : -9223372036854775808<n/\n<9223372036854775808):wy n (Yb .i64 n)=(n.natAbs:Int):=by
 rw[JV h];unfold wy;omega
theorem pZ{n:Int}(h : -9223372036854775808<n/\n<9223372036854775808):(jk n).val=some ((n.natAbs:Int),()):=by
 unfold jk;rw[Comp.zB,qg h]
theorem AK{l:List Int}(hl:l.length<9223372036854775807)(h:∀n∈l, -9223372036854775808<n/\n<9223372036854775808):(ZZ l).val=some (((l.foldl (fun g n=>Nat.gcd g n.natAbs) 0:Nat):Int),()):=by
 unfold ZZ;have h1:=K2 (fun (s:Nat) i=>(((s:Nat):Int),((i:Nat):Int))) l (fun (s:Nat) n=>.next (Nat.gcd s n.natAbs)) (fun s=>(Sum.inl ((s:Nat):Int):Int⊕Int)) 0
  (body:=fun (x:Int×Int)=>if ltI x.2 (zF l)=true then
       (idx l x.2).bind fun x_1=>if eqI x_1 (-9223372036854775808)=true then Comp.pure (.done (Sum.inr 0))
        else
         (Go.F.jk x_1).bind fun x_2=>(Comp.loop
             (fun (x:Int×Int)=>if gtI x.2 0=true then (rem x.1 x.2).bind fun x_3=>Comp.pure (.next (x.2,x_3))
              else Comp.pure (.done x.1))
             (x.1,x_2.1)).bind fun x_3=>Comp.pure (.next (x_3,zJ .i64 x.2 1))
      else Comp.pure (.done (Sum.inl x.1)))
  (fun s i n hx=>by
   have gF:=zM hx;have hn:=h n (zKZ hx)
   have h1:(i:Int)<zF l:=by rw[zC];omega
   rw[zKu (by rw[zH];exact h1),zA,zQ hx,zKS,zKv (by rw[yA];omega),zA,pZ hn,zKS,zA,RF,zKS,Comp.zB,zL (show i<9223372036854775807 by omega)]
   rfl)
  (fun s=>by
   have h1:¬((l.length:Int)<zF l):=by rw[zC];omega
   simp only[zH,h1,if_false,Comp.zB])
 rw[Comp.XU]at h1;rw[zA];refine(zKl (fun o=>Option.bind o _) h1).trans ?_
 rw[zKS];exact Comp.zB _
theorem u7{k:Int}{l:List Int}(hk:0<=k/\k<9223372036854775808)(hl:l.length<9223372036854775807):(jL k l).val=some (l.all fun n=>okv k n,()):=by
 unfold jL;have h1:=Zq l (okv k) (c:=(Sum.inr false:Unit⊕Bool)) (d:=Sum.inl ())
  (body:=fun (x:Int)=>if ltI x (zF l)=true then
       (idx l x).bind fun x_1=>if sel (ltI x_1 (Yb .i64 k)) true (gtI x_1 k)=true then Comp.pure (.done (Sum.inr false))
        else Comp.pure (.next (zJ .i64 x 1))
      else Comp.pure (.done (Sum.inl ())))
  (fun i n hx=>by
   have gF:=zM hx;have h1:(i:Int)<zF l:=by rw[zC];omega
   rw[zKu (by rw[zH];exact h1),zA,zQ hx,zKS,JV (by omega),zL (show i<9223372036854775807 by omega),Xj]
   have e:sel (ltI n (-k)) true (gtI n k) = !okv k n:=by
    rw[jD];unfold ltI gtI okv;by_cases h1:n < -k<;>by_cases h2:n > k<;>simp[h1,h2]<;>omega
   rw[e];cases okv k n<;>simp)
  (by
   have h1:¬((l.length:Int)<zF l):=by rw[zC];omega
   simp only[zH,h1,if_false,Comp.zB])
 rw[zA];refine(zKl (fun o=>Option.bind o _) h1).trans ?_
 rw[zKS];show _=some (l.all (okv k),())
 cases l.all (okv k)<;>exact Comp.zB _
theorem EO{v:V3}(h:okN v=true):∀n∈[v.1,v.2.1,v.2.2.1], -4608<=n/\n<=4608:=by
 unfold okN okv at h;simp only[zKU,zKm]at h;intro n hn;simp only[zKY,List.not_mem_nil,or_false]at hn;rcases hn with rfl|rfl|rfl<;>omega
theorem w9(p:Pln):(Yw p).val=some (okP p,()):=by
 unfold Yw;have h1:(jL (Int.ofNat 4608) [p.1.1,p.1.2.1,p.1.2.2.1]).val=some (okN p.1,()):=by
  rw[u7 (by decide) (by simp)]
  simp[okN]
 have h2:(jL (Int.ofNat 2097152) [p.2.1]).val=some (okv 2097152 p.2.1,()):=by
  rw[u7 (by decide) (by simp)]
  simp
 rw[vR,zA,h1,zKS,Xj]
 cases hN:okN p.1 with
 |false=>simp[okP,hN]
 |true =>
  rw[zKu rfl];have h3:=AK (l:=[p.1.1,p.1.2.1,p.1.2.2.1]) (by simp) (fun n hn=>by have:=EO hN n hn;omega)
  have h4:[p.1.1,p.1.2.1,p.1.2.2.1].foldl (fun g n=>Nat.gcd g n.natAbs) 0=Jt p.1:=by simp[Jt]
  rw[h4]at h3;rw[zA,h3,zKS,Xj];by_cases hg:Jt p.1=1
  ·have:eqI ((Jt p.1:Nat):Int) 1=true:=by rw[yA];omega
   rw[zKu this,zA,h2,zKS,Comp.zB];unfold okP;rw[hN,zKx hg];rfl
  ·have:eqI ((Jt p.1:Nat):Int) 1=false:=by unfold eqI;rw[zKw];omega
   rw[zKv (by rw[this];simp),Comp.zB]
   unfold okP;rw[hN,zKw hg];rfl
def chk(c:List Pln):Int:=if 48<c.length then 2 else bif c.all okP then 0 else 12
theorem Ec{c:List Pln}:chk c=0↔c.length<=48/\c.all okP=true:=by
 unfold chk;split
 ·simp;omega
 ·cases c.all okP<;>simp;omega
theorem Vw(c:List Pln):(c.any fun p=>!okP p) = !c.all okP:=by rw[List.all_eq_not_any_not,Bool.not_not]
theorem jo(c:List Pln):(gm c).val=some (chk c,()):=by
 unfold gm chk;by_cases h:48<c.length
 ·rw[zKu (by rw[ya,zC];omega),zKu h,Comp.zB]
 ·rw[zKv (by rw[ya,zC];omega),zKv h]
  have h1:(zY c fun z=>jS z.1).val=some (c.any fun p=>!okP p,()) :=
   Zp (xs:=c) (f:=fun z=>jS z.1) (p:=fun p=>!okP p) (by omega) fun p _=>by
    show (jS p).val=_
    unfold jS;rw[zA,w9,zKS,Comp.zB];rfl
  rw[zA,h1,zKS,Vw,Xj];cases c.all okP<;>simp
theorem YU(l:List (List Pln))(hl:l.length<9223372036854775807):(ZT l).val=some (l.all fun c=>decide (chk c=0),()):=by
 unfold ZT;have h1:(zI l fun z=>jR z.1).val=some (l.any fun c=>!decide (chk c=0),()) :=
  Zp (xs:=l) (f:=fun z=>jR z.1) (p:=fun c=>!decide (chk c=0)) hl fun c _=>by
   show (jR c).val=_
   unfold jR;rw[zA,jo,zKS,Comp.zB];unfold neI;by_cases h:chk c=0<;>simp[h]
 rw[zA,h1,zKS,Comp.zB,yQ,List.all_eq_not_any_not]
theorem M9{n:Int}(h : -9223372036854775808<n/\n<9223372036854775808):(vX n).val=some ((n.natAbs:Int),()):=by
 unfold vX;by_cases h0:n<0
 ·rw[zKu (by rw[zH];exact h0),Comp.zB,JV h];congr 2;omega
 ·rw[zKv (by rw[zH];exact h0),Comp.zB];congr 2;omega
theorem IF{v:V3}(h:okN v=true):∃u,(gx v).val=some (u,((Jt v:Nat):Int),()):=by
 have fT:=EO h;unfold gx;have hc:(yC v).val=some ([v.1,v.2.1,v.2.2.1],()):=by unfold yC;exact Comp.zB _
 rw[zA,hc,zKS];simp only;generalize hl:[v.1,v.2.1,v.2.2.1]=l at fT;have kA:l.length=3:=by rw[<-hl];rfl
 have h1:=K2 (fun (s:Nat) i=>((((s:Nat):Int),((i:Nat):Int),(0,0,0,())):Int×Int×Int×Int×Int×Unit)) l (fun (s:Nat) n=>.next (Nat.gcd s n.natAbs)) (fun s=>(Sum.inl ((((s:Nat):Int),(0,0,0,())):Int×Int×Int×Int×Unit):(Int×Int×Int×Int×Unit)⊕(Int×Int×Int×Int×Unit))) 0
  (body:=(fun (x_1:Int×Int×Int×Int×Int×Unit)=>if ltI x_1.2.1 3=true then
        (idx l x_1.2.1).bind fun x_2=>if eqI x_2 (-9223372036854775808)=true then Comp.pure (.done (Sum.inr (0,0,0,0,())))
         else
          (idx l x_1.2.1).bind fun x=>(Go.F.vX x).bind fun x=>(Comp.loop
               (fun (x:Int×Int)=>if gtI x.2 0=true then (rem x.1 x.2).bind fun x_3=>Comp.pure (.next (x.2,x_3))
                else Comp.pure (.done x.1))
               (x_1.1,x.1)).bind fun x=>Comp.pure (.next (x,zJ .i64 x_1.2.1 1,x_1.2.2))
       else Comp.pure (.done (Sum.inl (x_1.1,x_1.2.2)))))
  (fun s i n hx=>by
   have gF:=zM hx;have hn:=fT n (zKZ hx)
   rw[zKu (by rw[zH];show (i:Int)<3;omega),zA,zQ hx,zKS,zKv (by rw[yA];omega),zA,zQ hx,zKS,zA,M9 (by omega),zKS,zA,RF,zKS,Comp.zB,zL (show i<9223372036854775807 by omega)]
   rfl)
  (fun s=>by
   rw[zKv (by rw[zH,kA];simp),Comp.zB])
 rw[Comp.XU]at h1;have hg:l.foldl (fun g n=>Nat.gcd g n.natAbs) 0=Jt v:=by rw[<-hl];simp[Jt]
 rw[hg]at h1;rw[zA]
 have h2:=zKl (fun o=>Option.bind o fun (x:(Int×Int×Int×Int×Unit)⊕(Int×Int×Int×Int×Unit))=>(match x with
    |Sum.inl x =>
     if eqI x.1 0=true then Comp.pure ((0,0,0,()),0,())
     else
      (quo .i64 v.1 x.1).bind fun x_1=>(quo .i64 v.2.1 x.1).bind fun x_2=>(quo .i64 v.2.2.1 x.1).bind fun x_3=>Comp.pure ((x_1,x_2,x_3,()),x.1,())
    |Sum.inr x=>Comp.pure (x.2,x.1,()):Comp Pln).val) h1
 by_cases h0:Jt v=0
 ·refine⟨(0,0,0,()),h2.trans ?_⟩
  show (if eqI ((Jt v:Nat):Int) 0=true then _ else _:Comp Pln).val=_
  rw[zKu (by rw[yA];omega),Comp.zB,h0];rfl
 ·have hq:∀n,∃m,(quo .i64 n ((Jt v:Nat):Int)).val=some m:=fun n=>by
   unfold quo;rw[zKv (by omega)]
   exact⟨_,Comp.zB _⟩
  obtain⟨a,ha⟩:=hq v.1;obtain⟨b,hb⟩:=hq v.2.1;obtain⟨c,hc⟩:=hq v.2.2.1;refine⟨(a,b,c,()),h2.trans ?_⟩;show (if eqI ((Jt v:Nat):Int) 0=true then _ else _:Comp Pln).val=_
  rw[zKv (by rw[yA];omega),zA,ha,zKS,zA,hb,zKS,zA,hc,zKS,Comp.zB]
theorem DA(p:Pln):(gX p).val=some (okP p,()):=by
 unfold gX;have hc:(yC p.1).val=some ([p.1.1,p.1.2.1,p.1.2.2.1],()):=by unfold yC;exact Comp.zB _
 rw[zA,hc,zKS];have h1:=Zq [p.1.1,p.1.2.1,p.1.2.2.1] (okv 4608) (c:=(Sum.inr false:Unit⊕Bool)) (d:=Sum.inl ())
  (body:=(fun (x_1:Int)=>if ltI x_1 3=true then
        (idx [p.1.1,p.1.2.1,p.1.2.2.1] x_1).bind fun x_2=>(Comp.gd (ntB (ltI x_2 (-4608))) (idx [p.1.1,p.1.2.1,p.1.2.2.1] x_1) (Int.ofNat 0)).bind fun x_3=>if sel (ltI x_2 (-4608)) true (gtI x_3 4608)=true then Comp.pure (.done (Sum.inr false))
          else Comp.pure (.next (zJ .i64 x_1 1))
       else Comp.pure (.done (Sum.inl ()))))
  (fun i n hx=>by
   have gF:=zM hx;have hlt3:i<3:=gF
   rw[zKu (by rw[zH];omega),zA,zQ hx,zKS,zA,QM,zQ hx,zL (show i<9223372036854775807 by omega)]
   unfold okv;by_cases h1:n < -4608
   ·have:ltI n (-4608)=true:=by rw[zH];exact h1
    have h2:¬(-4608<=n/\n<=4608):=by omega
    simp[this,yQ,sel,h2]
   ·have:ltI n (-4608)=false:=by unfold ltI;exact zKw h1
    by_cases h3:n > 4608
    ·have h2:¬(-4608<=n/\n<=4608):=by omega
     have h4:gtI n 4608=true:=by rw[ya];exact h3
     simp[this,yQ,sel,h2,h4]
    ·have h2:(-4608<=n/\n<=4608):=by omega
     have h4:gtI n 4608=false:=by unfold gtI;exact zKw h3
     simp[this,yQ,sel,h2,h4])
  (by rw[zKv (by rw[zH];simp),Comp.zB])
 rw[zA];have fE:[p.1.1,p.1.2.1,p.1.2.2.1].all (okv 4608)=okN p.1:=by simp[okN]
 rw[fE]at h1;refine(zKl (fun o=>Option.bind o _) h1).trans ?_
 rw[zKS]
 cases hN:okN p.1 with
 |false=>exact(Comp.zB _).trans (by unfold okP;rw[hN];rfl)
 |true =>
  obtain⟨u,hu⟩:=IF hN;show ((gx p.1).bind fun x=>Comp.pure (sel (sel (eqI x.2.1 1) (geI p.2.1 (-2097152)) false) (leI p.2.1 2097152) false,())).val=_
  rw[zA,hu,zKS,Comp.zB];unfold okP okv;rw[hN,vg,vg];unfold eqI geI leI
  congr 2
  have:decide (((Jt p.1:Nat):Int)=1)=decide (Jt p.1=1):=by by_cases hg:Jt p.1=1<;>simp[hg]<;>omega
  rw[this];by_cases h1:p.2.1 ≥ -2097152<;>by_cases h2:p.2.1<=2097152<;>simp[h1,h2]
theorem ju(c:List Pln):(zZ c).val=some (chk c,()):=by
 unfold zZ chk;by_cases h:48<c.length
 ·rw[zKu (by rw[ya,zC];omega),zKu h,Comp.zB]
 ·rw[zKv (by rw[ya,zC];omega),zKv h]
  have h1:=Zq c okP (c:=(Sum.inr 12:Unit⊕Int)) (d:=Sum.inl ())
   (body:=(fun (x:Int)=>if ltI x (zF c)=true then
        (idx c x).bind fun x_1=>(Go.F.gX x_1).bind fun x_2=>if ntB x_2.1=true then Comp.pure (.done (Sum.inr 12)) else Comp.pure (.next (zJ .i64 x 1))
       else Comp.pure (.done (Sum.inl ()))))
   (fun i p hx=>by
    have gF:=zM hx;rw[zKu (by rw[zH,zC];omega),zA,zQ hx,zKS,zA,DA,zKS,Xj,yQ,zL (show i<9223372036854775807 by omega)]
    cases okP p<;>simp)
   (by rw[zKv (by rw[zH,zC];omega),Comp.zB])
  rw[zA];refine(zKl (fun o=>Option.bind o _) h1).trans ?_
  rw[zKS];cases c.all okP<;>exact Comp.zB _
def cr(a b:V3):V3:=(a.2.1 * b.2.2.1-a.2.2.1 * b.2.1,a.2.2.1 * b.1-a.1 * b.2.2.1,a.1 * b.2.1-a.2.1 * b.1,())
def dt(a b:V3):Int:=a.1 * b.1+a.2.1 * b.2.1+a.2.2.1 * b.2.2.1
def ad(a b:V3):V3:=(a.1+b.1,a.2.1+b.2.1,a.2.2.1+b.2.2.1,())
def sc(a:V3)(n:Int):V3:=(a.1 * n,a.2.1 * n,a.2.2.1 * n,())
def Bd(k:Int)(v:V3):Prop:=(-k<=v.1/\v.1<=k)/\(-k<=v.2.1/\v.2.1<=k)/\(-k<=v.2.2.1/\v.2.2.1<=k)
theorem vr{a b A B:Int}(ha : -A<=a/\a<=A)(hb : -B<=b/\b<=B) : -(A * B)<=a * b/\a * b<=A * B:=by
 have hA:0<=A:=by omega
 have hB:0<=B:=by omega
 have h1:(a * b).natAbs<=(A * B).natAbs:=by
  rw[Int.natAbs_mul,Int.natAbs_mul];exact Nat.mul_le_mul (by omega) (by omega)
 have h2:0<=A * B:=Int.mul_nonneg hA hB;omega
theorem zCh{v:V3}(h:okN v=true):Bd 4608 v:=by
 have:=EO h;exact⟨this v.1 (by simp),this v.2.1 (by simp),this v.2.2.1 (by simp)⟩
theorem J2{a b:V3}(ha:Bd 4608 a)(hb:Bd 4608 b):Bd 42467328 (cr a b):=by
 obtain⟨a1,a2,a3⟩:=ha;obtain⟨b1,b2,b3⟩:=hb;have e1:=vr a2 b3;have e2:=vr a3 b2;have e3:=vr a3 b1;have e4:=vr a1 b3;have e5:=vr a1 b2;have e6:=vr a2 b1
 unfold cr Bd;simp only;refine⟨?_,?_,?_⟩<;>omega
theorem Kr{a:V3}{n A B:Int}(ha:Bd A a)(hn : -B<=n/\n<=B):Bd (A * B) (sc a n):=⟨vr ha.1 hn,vr ha.2.1 hn,vr ha.2.2 hn⟩
theorem Bd.le{A B:Int}{v:V3}(h:Bd A v)(xP:A<=B):Bd B v:=by
 obtain⟨h1,h2,h3⟩:=h;refine⟨?_,?_,?_⟩<;>omega
theorem JP{a b:V3}(ha:Bd 4608 a)(hb:Bd 4608 b):(Ze a b).val=some (cr a b,()):=by
 obtain⟨a1,a2,a3⟩:=ha;obtain⟨b1,b2,b3⟩:=hb;have e1:=vr a2 b3;have e2:=vr a3 b2;have e3:=vr a3 b1;have e4:=vr a1 b3;have e5:=vr a1 b2;have e6:=vr a2 b1
 unfold Ze;rw[Comp.zB,YG (m:=a.2.1) (by omega),YG (m:=a.2.2.1) (by omega),YG (m:=a.2.2.1) (by omega),YG (m:=a.1) (by omega),YG (m:=a.1) (by omega),YG (m:=a.2.1) (by omega),
  YE (by omega),YE (by omega),YE (by omega)]
 rfl
theorem XT{a b:V3}(ha:Bd 4608 a)(hb:Bd 4608 b):(vf a b).val=some (cr a b,()):=JP ha hb
theorem uj{a b:V3}(ha:Bd 4608 a)(hb:Bd 42467328 b):(ZW a b).val=some (dt a b,()):=by
 obtain⟨a1,a2,a3⟩:=ha;obtain⟨b1,b2,b3⟩:=hb;have e1:=vr a1 b1;have e2:=vr a2 b2;have e3:=vr a3 b3
 unfold ZW;rw[Comp.zB,YG (m:=a.1) (by omega),YG (m:=a.2.1) (by omega),YG (m:=a.2.2.1) (by omega),yh (m:=a.1 * b.1) (by omega),yh (by omega)]
 rfl
theorem M8{a b:V3}(ha:Bd 4608 a)(hb:Bd 42467328 b):(Z6 a b).val=some (dt a b,()):=uj ha hb
theorem JK{a:V3}{n:Int}(h:Bd 9223372036854775807 (sc a n)):(Ya a n).val=some (sc a n,()):=by
 obtain⟨h1,h2,h3⟩:=h;unfold sc at h1 h2 h3;simp only at h1 h2 h3;unfold Ya;rw[Comp.zB,YG (m:=a.1) (by omega),YG (m:=a.2.1) (by omega),YG (m:=a.2.2.1) (by omega)]
 rfl
theorem Yv{a:V3}{n:Int}(h:Bd 9223372036854775807 (sc a n)):(yk a n).val=some (sc a n,()):=JK h
theorem uu{a b:V3}(h:Bd 9223372036854775807 (ad a b)):(XG a b).val=some (ad a b,()):=by
 obtain⟨h1,h2,h3⟩:=h;unfold ad at h1 h2 h3;simp only at h1 h2 h3;unfold XG;rw[Comp.zB,yh (m:=a.1) (by omega),yh (m:=a.2.1) (by omega),yh (m:=a.2.2.1) (by omega)]
 rfl
theorem Aq{a b:V3}(h:Bd 9223372036854775807 (ad a b)):(kK a b).val=some (ad a b,()):=uu h
theorem qy{a b:V3}{A B:Int}(ha:Bd A a)(hb:Bd B b):Bd (A+B) (ad a b):=by
 obtain⟨a1,a2,a3⟩:=ha;obtain⟨b1,b2,b3⟩:=hb;unfold ad Bd;simp only;refine⟨?_,?_,?_⟩<;>omega
def det(p q r:Pln):Int:=dt p.1 (cr q.1 r.1)
def num(p q r:Pln):V3:=ad (ad (sc (cr q.1 r.1) p.2.1) (sc (cr r.1 p.1) q.2.1)) (sc (cr p.1 q.1) r.2.1)
theorem mR(p q r:Pln):det p q r=dt r.1 (cr p.1 q.1):=by
 unfold det dt cr;simp only[Int.mul_sub];generalize p.1.1=a1;generalize p.1.2.1=a2;generalize p.1.2.2.1=a3;generalize q.1.1=b1;generalize q.1.2.1=b2;generalize q.1.2.2.1=b3;generalize r.1.1=c1;generalize r.1.2.1=c2;generalize r.1.2.2.1=c3;have e:∀x y z:Int,x * (y * z)=z * (x * y):=fun x y z=>by rw[<-Int.mul_assoc,Int.mul_comm]
 have e1:=e a1 b2 c3;have e2:=e a1 b3 c2;have e3:=e a2 b3 c1;have e4:=e a2 b1 c3;have e5:=e a3 b1 c2;have e6:=e a3 b2 c1
 rw[e1,e2,e3,e4,e5,e6,Int.mul_comm a2 b1,Int.mul_comm a3 b1,Int.mul_comm a3 b2];rw[Int.mul_comm b1 a2,Int.mul_comm b1 a3,Int.mul_comm b2 a3];omega
def okB(p:Pln):Prop:=Bd 4608 p.1/\(-2097152<=p.2.1/\p.2.1<=2097152)
theorem zFH{p:Pln}(h:okP p=true):okB p:=by
 unfold okP okv at h;simp only[zKU,zKm]at h;exact⟨zCh h.1,h.2.2⟩
theorem Ea{p q r:Pln}(hp:okB p)(hq:okB q)(hr:okB r) : -600000000000<=det p q r/\det p q r<=600000000000:=by
 have hc:=J2 hq.1 hr.1;have e1:=vr hp.1.1 hc.1;have e2:=vr hp.1.2.1 hc.2.1;have e3:=vr hp.1.2.2 hc.2.2
 unfold det dt;omega
theorem EP{p q r:Pln}(hp:okB p)(hq:okB q)(hr:okB r):Bd 300000000000000 (num p q r):=by
 have h1:=Kr (J2 hq.1 hr.1) hp.2;have h2:=Kr (J2 hr.1 hp.1) hq.2
 have h3:=Kr (J2 hp.1 hq.1) hr.2;exact(qy (qy h1 h2) h3).le (by decide)
def Z1(v:V3)(w:Int):Nat:=Nat.gcd (Nat.gcd v.1.natAbs v.2.1.natAbs) (Nat.gcd v.2.2.1.natAbs w.natAbs)
def mkP(v:V3)(w:Int):Pnt :=
 let g:Int:=(Z1 v w:Nat)
 if w<0 then ((-v.1).tdiv g,(-v.2.1).tdiv g,(-v.2.2.1).tdiv g,(-w).tdiv g,()) else (v.1.tdiv g,v.2.1.tdiv g,v.2.2.1.tdiv g,w.tdiv g,())
def mt(p q r:Pln):Option Pnt:=if det p q r=0 then none else some (mkP (num p q r) (det p q r))
def uE:Option Pnt->Pnt×Bool×Unit
 |some x=>(x,true,())
 |none=>((0,0,0,0,()),false,())
theorem BS{v:V3}{w:Int}(h:w≠0):0<Z1 v w:=by
 unfold Z1;refine Nat.gcd_pos_of_pos_right _ (Nat.gcd_pos_of_pos_right _ (by omega))
theorem Eu{a b:Int}:(a.tdiv b).natAbs<=a.natAbs:=by rw[Int.natAbs_tdiv];exact Nat.div_le_self _ _
theorem kY{a b:Int}(hb:b≠0)(ha : -9223372036854775808<a/\a<9223372036854775808):(quo .i64 a b).val=some (a.tdiv b):=by
 unfold quo;rw[zKv hb,Comp.zB];have:=Eu (a:=a) (b:=b)
 exact zKl some (ml (by omega))
theorem pY{v:V3}{w:Int}(hv:Bd 300000000000000 v)(hw : -600000000000<=w/\w<=600000000000):(KV [v.1,v.2.1,v.2.2.1,w]).val=some (((Z1 v w:Nat):Int),()):=by
 unfold KV;generalize hl:[v.1,v.2.1,v.2.2.1,w]=l;have kA:l.length=4:=by rw[<-hl];rfl
 have key:∀(ys zs:List Int) (g:Int),l=zs++ys->∃r,r.natAbs=ys.foldl (fun g n=>Nat.gcd g n.natAbs) g.natAbs/\(Comp.loop
     (fun (x:Int×Int)=>if ltI x.2 (zF l)=true then
       (idx l x.2).bind fun x_1=>(Comp.loop
           (fun (x:Int×Int)=>if neI x.2 0=true then (rem x.1 x.2).bind fun x_2=>Comp.pure (.next (x.2,x_2)) else Comp.pure (.done x.1))
           (x.1,x_1)).bind fun x_2=>Comp.pure (.next (x_2,zJ .i64 x.2 1))
      else Comp.pure (.done x.1)) (g,(zs.length:Int))).val=some r:=by
  intro ys
  induction ys with
  |nil =>
   intro zs g hx;refine⟨g,rfl,?_⟩;rw[zO,zKv (by rw[zH,zC,hx];simp),Comp.zB,zKS]
  |cons y ys ih =>
   intro zs g hx;have hy:l[zs.length]?=some y:=by rw[hx];simp
   have gF:=zM hy;obtain⟨r1,h1,h2⟩:=Ga y g;obtain⟨r,h3,h4⟩:=ih (zs++[y]) r1 (by rw[hx];simp)
   refine⟨r,by rw[h3,List.foldl_cons,h1],?_⟩
   rw[zO,zKu (by rw[zH,zC];show (zs.length:Int)<_;omega),zA,zQ hy,zKS,zA,h2,zKS,Comp.zB,zL (by omega),zKS]
   simpa using h4
 obtain⟨r,h1,h2⟩:=key l [] 0 rfl;rw[zA];refine(zKl (fun o=>Option.bind o _) h2).trans ?_
 rw[zKS,Comp.zB];have hg:r.natAbs=Z1 v w:=by
  rw[h1,<-hl];simp only[List.foldl_cons,List.foldl_nil,Int.natAbs_zero,Nat.gcd_zero_left];unfold Z1;rw[Nat.gcd_assoc]
 have hgw:(Z1 v w)<=900000000000000:=by
  unfold Z1;by_cases hw0:w=0
  ·by_cases h3:v.2.2.1=0
   ·by_cases h2:v.2.1=0
    ·rw[hw0,h3,h2];simp;have:=hv.1;omega
    ·refine zKb (Nat.le_of_dvd (by omega) (Nat.dvd_trans (Nat.gcd_dvd_left _ _) (Nat.gcd_dvd_right _ _)):_<=v.2.1.natAbs) ?_
     have:=hv.2.1;omega
   ·refine zKb (Nat.le_of_dvd (by omega) (Nat.dvd_trans (Nat.gcd_dvd_right _ _) (Nat.gcd_dvd_left _ _)):_<=v.2.2.1.natAbs) ?_
    have:=hv.2.2;omega
  ·refine zKb (Nat.le_of_dvd (by omega) (Nat.dvd_trans (Nat.gcd_dvd_right _ _) (Nat.gcd_dvd_right _ _)):_<=w.natAbs) ?_
   omega
 rw[qg (by omega),hg]
theorem Js(a b:Nat):(zu (a:Int) (b:Int)).val=some (((Nat.gcd a b:Nat):Int),()):=by
 unfold zu;obtain⟨r,h1,h2⟩:=Ga (b:Int) (a:Int);have key:∀(b a:Nat),(Comp.loop
   (fun (x:Int×Int)=>if neI x.2 0=true then (rem x.1 x.2).bind fun x_2=>Comp.pure (.next (x.2,x_2)) else Comp.pure (.done x.1)) ((a:Int),(b:Int))).val=some ((Nat.gcd a b:Nat):Int):=by
  intro b
  induction b using Nat.strongRecOn with
  |_ b ih =>
   intro a;rw[zO];by_cases hb:b=0
   ·subst hb
    rw[zKv (by rw[zj];simp),Comp.zB,zKS];simp
   ·have h2:(rem (a:Int) (b:Int)).val=some ((a % b:Nat):Int):=by rw[Zl (by omega)];rfl
    rw[zKu (by rw[zj];show (b:Int)≠0;omega),zA,h2,zKS,Comp.zB,zKS]
    refine(ih (a % b) (Nat.mod_lt _ (by omega)) b).trans ?_
    rw[show Nat.gcd a b=Nat.gcd b (a % b) by rw[Nat.gcd_comm a b,Nat.gcd_rec,Nat.gcd_comm]]
 rw[zA,key,zKS,Comp.zB]
theorem zCm{v:V3}{k:Int}(h:Bd k v):Bd k (sc v (-1)):=by
 obtain⟨h1,h2,h3⟩:=h;unfold sc Bd;simp only;refine⟨?_,?_,?_⟩<;>omega
theorem rB{p q r:Pln}(hp:okB p)(hq:okB q)(hr:okB r):(XK [p,q,r]).val=some (uE (mt p q r)):=by
 unfold XK;have hd:=Ea hp hq hr
 have hn:=EP hp hq hr;have c1:=J2 hq.1 hr.1;have c2:=J2 hr.1 hp.1;have c3:=J2 hp.1 hq.1
 have s1:=Kr c1 hp.2;have s2:=Kr c2 hq.2;have s3:=Kr c3 hr.2
 have z:Bd 0 (0,0,0,()):=by unfold Bd;simp
 have a1:=qy z s1;have a2:=qy a1 s2;have a3:=qy a2 s3
 have hz:ad (0,0,0,()) (sc (cr q.1 r.1) p.2.1)=sc (cr q.1 r.1) p.2.1:=by unfold ad;simp
 have r1:(rem (zJ .i64 0 1) 3).val=some 1:=by rw[Zl (by decide)];rfl
 have r2:(rem (zJ .i64 0 2) 3).val=some 2:=by rw[Zl (by decide)];rfl
 have r3:(rem (zJ .i64 1 1) 3).val=some 2:=by rw[Zl (by decide)];rfl
 have r4:(rem (zJ .i64 1 2) 3).val=some 0:=by rw[Zl (by decide)];rfl
 have r5:(rem (zJ .i64 2 1) 3).val=some 0:=by rw[Zl (by decide)];rfl
 have r6:(rem (zJ .i64 2 2) 3).val=some 1:=by rw[Zl (by decide)];rfl
 have i0:(idx [p,q,r] 0).val=some p:=Kk rfl;have i1:(idx [p,q,r] 1).val=some q:=Kk rfl
 have i2:(idx [p,q,r] 2).val=some r:=Kk rfl;have dS:(Comp.loop
     (fun (x:Int×Int×Int×Int×Int×Unit)=>if ltI x.2.1 3=true then
       (idx [p,q,r] x.2.1).bind fun x_1=>(rem (zJ .i64 x.2.1 1) 3).bind fun x_2=>(idx [p,q,r] x_2).bind fun x_3=>(rem (zJ .i64 x.2.1 2) 3).bind fun x_4=>(idx [p,q,r] x_4).bind fun x_5=>(Go.F.Ze x_3.1 x_5.1).bind fun x_6=>(Go.F.ZW x_1.1 x_6.1).bind fun x_7=>(Go.F.Ya x_6.1 x_1.2.1).bind fun x_8=>(Go.F.XG x.2.2 x_8.1).bind fun x_9=>Comp.pure (.next (x_7.1,zJ .i64 x.2.1 1,x_9.1))
      else Comp.pure (.done (x.1,x.2.2)))
     (0,0,0,0,0,())).val=some ((det p q r,num p q r):Int×V3):=by
  rw[zO,zKu (by rw[zH];show (0:Int)<3;omega)]
  simp only[zA,i0,r1,i1,r2,i2,JP hq.1 hr.1,uj hp.1 c1,JK (s1.le (by decide)),zKS,Comp.zB]
  rw[uu (a1.le (by decide)),zKS,zKS]
  simp only;rw[zO,zKu (by rw[zH];show zJ .i64 0 1<3;decide)]
  simp only[show zJ .i64 0 1=1 from rfl,zA,i1,r3,i2,r4,i0,JP hr.1 hp.1,uj hq.1 c2,JK (s2.le (by decide)),zKS,Comp.zB]
  rw[uu (a2.le (by decide)),zKS,zKS]
  simp only;rw[zO,zKu (by rw[zH];show zJ .i64 1 1<3;decide)]
  simp only[show zJ .i64 1 1=2 from rfl,zA,i2,r5,i0,r6,i1,JP hp.1 hq.1,uj hr.1 c3,JK (s3.le (by decide)),zKS,Comp.zB]
  rw[uu (a3.le (by decide)),zKS,zKS]
  simp only;rw[zO,zKv (by rw[zH];show ¬(zJ .i64 2 1<3);decide),Comp.zB,zKS,hz,mR]
  rfl
 rw[zA];refine(zKl (fun o=>Option.bind o _) dS).trans ?_
 rw[zKS];simp only;unfold mt;by_cases h0:det p q r=0
 ·rw[zKu (by rw[yA];exact h0),zKu h0,Comp.zB];rfl
 ·rw[zKv (by rw[yA];exact h0),zKv h0,zA,pY hn hd,zKS,vR]
  have hg:=BS (v:=num p q r) h0;have dY:Z1 (num p q r) (det p q r)<=600000000000:=by
   refine zKb (Nat.le_of_dvd (by omega) (Nat.dvd_trans (Nat.gcd_dvd_right _ _) (Nat.gcd_dvd_right _ _)):_<=(det p q r).natAbs) ?_
   omega
  obtain⟨n1,n2,n3⟩:=hn;by_cases xL:det p q r<0
  ·rw[zKu (by rw[zH];exact xL),JV (by omega)]
   rw[zA,kY (by omega) (by omega),zKS,zA,kY (by omega) (by omega),zKS,zA,kY (by omega) (by omega),zKS,zA,kY (by omega) (by omega),zKS,Comp.zB]
   unfold mkP;simp only[zKu xL,Int.tdiv_neg,Int.neg_tdiv];rfl
  ·rw[zKv (by rw[zH];exact xL)]
   rw[zA,kY (by omega) (by omega),zKS,zA,kY (by omega) (by omega),zKS,zA,kY (by omega) (by omega),zKS,zA,kY (by omega) (by omega),zKS,Comp.zB]
   unfold mkP;simp only[zKv xL];rfl
theorem IC{p q r:Pln}(hp:okB p)(hq:okB q)(hr:okB r):(vL p q r).val=some (uE (mt p q r)):=by
 unfold vL;have hd:=Ea hp hq hr
 have hn:=EP hp hq hr;have c1:=J2 hq.1 hr.1;have c2:=J2 hr.1 hp.1;have c3:=J2 hp.1 hq.1
 have s1:=Kr c1 hp.2;have s2:=Kr c2 hq.2;have s3:=Kr c3 hr.2
 have a2:=qy s1 s2;have a3:=qy a2 s3
 rw[zA,XT hq.1 hr.1,zKS,zA,M8 hp.1 c1,zKS];unfold mt;by_cases h0:det p q r=0
 ·rw[zKu (by rw[yA];exact h0),zKu h0,Comp.zB];rfl
 ·rw[zKv (by rw[yA];exact h0),zKv h0]
  rw[zA,XT hq.1 hr.1,zKS,zA,Yv (s1.le (by decide)),zKS,zA,XT hr.1 hp.1,zKS,zA,Yv (s2.le (by decide)),zKS,
   zA,Aq (a2.le (by decide)),zKS,zA,XT hp.1 hq.1,zKS,zA,Yv (s3.le (by decide)),zKS,zA,Aq (a3.le (by decide)),zKS,vR]
  change (if ltI (det p q r) 0=true then (yk (num p q r) (Int.negSucc 0)).bind _ else _:Comp (Pnt×Bool×Unit)).val=_
  have key:∀(w:Int) (v:V3),w≠0->(0<w/\w<=600000000000)->Bd 300000000000000 v->((zu (wy v.1 (Yb .i64 v.1)) (wy v.2.1 (Yb .i64 v.2.1))).bind fun x_9=>(Go.F.zu (wy v.2.2.1 (Yb .i64 v.2.2.1)) w).bind fun x_10=>(Go.F.zu x_9.1 x_10.1).bind fun eU=>(quo .i64 v.1 eU.1).bind fun x_12=>(quo .i64 v.2.1 eU.1).bind fun x_13=>(quo .i64 v.2.2.1 eU.1).bind fun x_14=>(quo .i64 w eU.1).bind fun x=>(Comp.pure ((x_12,x_13,x_14,x,()),true,()):Comp (Pnt×Bool×Unit))).val =
     some ((v.1.tdiv (Z1 v w:Nat),v.2.1.tdiv (Z1 v w:Nat),v.2.2.1.tdiv (Z1 v w:Nat),w.tdiv (Z1 v w:Nat),()),true,()):=by
   intro w v hw0 hw hv;obtain⟨n1,n2,n3⟩:=hv;have hg:=BS (v:=v) hw0
   have ew:w=((w.natAbs:Nat):Int):=by omega
   rw[qg (by omega),qg (by omega),qg (by omega)]
   rw[zA,Js,zKS,zA];have h2:(zu ((v.2.2.1.natAbs:Nat):Int) w).val=some (((Nat.gcd v.2.2.1.natAbs w.natAbs:Nat):Int),()):=by
    conv=>lhs;rw[ew]
    rw[Js]
   rw[h2,zKS,zA,Js,zKS]
   change ((quo .i64 v.1 ((Z1 v w:Nat):Int)).bind _).val=_
   rw[zA,kY (by omega) (by omega),zKS]
   change ((quo .i64 v.2.1 ((Z1 v w:Nat):Int)).bind _).val=_
   rw[zA,kY (by omega) (by omega),zKS]
   change ((quo .i64 v.2.2.1 ((Z1 v w:Nat):Int)).bind _).val=_
   rw[zA,kY (by omega) (by omega),zKS]
   change ((quo .i64 w ((Z1 v w:Nat):Int)).bind _).val=_
   rw[zA,kY (by omega) (by omega),zKS,Comp.zB]
  by_cases xL:det p q r<0
  ·rw[zKu (by rw[zH];exact xL)]
   have hb:Bd 300000000000000 (sc (num p q r) (Int.negSucc 0)):=zCm hn;rw[zA,Yv (hb.le (by decide)),zKS,show Yb .i64 (dt p.1 (cr q.1 r.1)) = -det p q r from JV (m:=det p q r) (by omega)]
   refine(key (-det p q r) (sc (num p q r) (Int.negSucc 0)) (by omega) (by omega) hb).trans ?_
   have hg:Z1 (sc (num p q r) (Int.negSucc 0)) (-det p q r)=Z1 (num p q r) (det p q r):=by
    unfold Z1 sc;simp only[Int.natAbs_mul,Int.natAbs_neg];rw[show (Int.negSucc 0).natAbs=1 from rfl]
    simp
   unfold uE mkP;simp only[zKu xL,hg];unfold sc;simp only[show Int.negSucc 0 = -1 from rfl,Int.mul_neg,Int.mul_one]
  ·rw[zKv (by rw[zH];exact xL)]
   refine(key (det p q r) (num p q r) h0 (by omega) hn).trans ?_
   unfold uE mkP;simp only[zKv xL]
theorem Yf(ys:List τ)(c:Comp (List τ×β)):(tell ys c).val=c.val.map fun p=>(ys++p.1,p.2):=by
 unfold tell;rw[zA];cases c.val<;>simp
theorem tG{body:σ->Comp (List τ×Comp.Step σ ε)}{s s':σ}{ys zs:List τ}{e:ε}(h1:(body s).val=some (ys,.next s'))(h2:(Z9 body s').val=some (zs,e)):(Z9 body s).val=some (ys++zs,e):=by
 obtain⟨n,hn⟩:=vN.1 h1;obtain⟨m,hm⟩:=vN.1 h2;refine vN.2 ⟨max n m+1,?_⟩;have a1:=(body s).mono (show n<=max n m+1 by omega) hn
 have a2:kM body (max n m+1) (max n m) s'=some (zs,e):=wU (by omega) (by omega) hm
 show kM body (max n m+1) (max n m+1) s=_
 simp only[kM,a1,a2]
theorem Jp{body:σ->Comp (List τ×Comp.Step σ ε)}{s:σ}{ys:List τ}{e:ε}(h1:(body s).val=some (ys,.done e)):(Z9 body s).val=some (ys,e):=by
 obtain⟨n,hn⟩:=vN.1 h1;refine vN.2 ⟨n+1,?_⟩;have a1:=(body s).mono (show n<=n+1 by omega) hn
 show kM body (n+1) (n+1) s=_
 simp only[kM,a1]
theorem Jj{body:Int->Comp (List τ×Comp.Step Int ε)}(xs:List α)(g:Nat->List τ){e:ε}(hb:∀(i:Nat) x,xs[i]?=some x->(body (i:Int)).val=some (g i,.next ((i+1:Nat):Int)))(he:(body (xs.length:Int)).val=some ([],.done e)) :
  (Z9 body 0).val=some ((List.range xs.length).flatMap g,e):=by
 have key:∀(m k:Nat),k+m=xs.length->(Z9 body (k:Int)).val=some ((List.range' k m).flatMap g,e):=by
  intro m
  induction m with
  |zero =>
   intro k hk;rw[show k=xs.length by omega]
   exact Jp he
  |succ m ih =>
   intro k hk;obtain⟨x,hx⟩:=zR (xs:=xs) (k:=k) (by omega)
   rw[List.range'_succ,List.flatMap_cons];exact tG (hb k x hx) (ih (k+1) (by omega))
 rw[List.range_eq_range'];exact key xs.length 0 (by omega)
def prs:List α->List (α×α)
 | []=>[]
 |q::l=>l.map (fun s=>(q,s))++prs l
def tri:List α->List (α×α×α)
 | []=>[]
 |p::l=>(prs l).map (fun t=>(p,t))++tri l
theorem Ig(l:List α)(f:α->List β)(i:Nat)(g:Nat->List β)(h:∀(k:Nat) x,l[k]?=some x->g (i+k)=f x):(List.range' i l.length).flatMap g=l.flatMap f:=by
 induction l generalizing i with
 |nil=>rfl
 |cons x l ih =>
  rw[zKc,List.range'_succ,List.flatMap_cons,List.flatMap_cons];have h0:=h 0 x rfl
  rw[Nat.add_zero]at h0;rw[h0,ih (i+1) fun k y hk=>by rw[<-h (k+1) y (by simpa using hk)];congr 1;omega]
theorem AH(l:List α)(f:α->β):l.flatMap (fun s=>[f s])=l.map f:=by
 induction l with
 |nil=>rfl
 |cons x l ih=>rw[List.flatMap_cons,ih];rfl
theorem IH(l:List α)(g:Nat->List β)(f:α×α->β)(i:Nat)(h:∀(k:Nat) q,l[k]?=some q->g (i+k)=(l.drop (k+1)).map fun s=>f (q,s)):(List.range' i l.length).flatMap g=(prs l).map f:=by
 induction l generalizing i with
 |nil=>rfl
 |cons x l ih =>
  rw[zKc,List.range'_succ,List.flatMap_cons];have h0:=h 0 x rfl
  rw[Nat.add_zero]at h0;rw[h0,prs,List.map_append,List.map_map]
  congr 1
  exact ih (i+1) fun k y hk=>by
   have:=h (k+1) y (by simpa using hk)
   rw[show i+1+k=i+(k+1) by omega,this];rfl
theorem H2(l:List α)(g:Nat->List β)(f:α×α×α->β)(i:Nat)(h:∀(k:Nat) p,l[k]?=some p->g (i+k)=(prs (l.drop (k+1))).map fun t=>f (p,t)):(List.range' i l.length).flatMap g=(tri l).map f:=by
 induction l generalizing i with
 |nil=>rfl
 |cons x l ih =>
  rw[zKc,List.range'_succ,List.flatMap_cons];have h0:=h 0 x rfl
  rw[Nat.add_zero]at h0;rw[h0,tri,List.map_append,List.map_map]
  congr 1
  exact ih (i+1) fun k y hk=>by
   have:=h (k+1) y (by simpa using hk)
   rw[show i+1+k=i+(k+1) by omega,this];rfl
theorem nJ{xs:List α}{k:Nat}(h:k<=xs.length):(sub xs (k:Int) (zF xs)).val=some (xs.drop k):=by
 rw[YK (by rw[zC];omega),zC];simp
theorem lq{r:List Pln}(hl:r.length<4611686018427387904):(vu r).val=some ((tri r).map fun t=>([t.1,t.2.1,t.2.2],())):=by
 unfold vu;have inner:∀(p q:Pln) (l:List Pln),l.length<4611686018427387904->(Z9
                     (fun (x_5:Int)=>if ltI x_5 (zF l)=true then
                       (idx l x_5).bind fun x=>tell [([p,q,x],())] (Comp.pure ([],.next (zJ .i64 x_5 1)))
                      else Comp.pure ([],.done (Sum.inl ():Unit⊕Unit)))
                     0).val=some (l.map fun s=>([p,q,s],()),Sum.inl ()):=by
  intro p q l hl;have h1:=Jj l (fun i=>match l[i]? with|some s=>[([p,q,s],())]|none=>[]) (e:=(Sum.inl ():Unit⊕Unit)) (body:=(fun (x_5:Int)=>if ltI x_5 (zF l)=true then
                       (idx l x_5).bind fun x=>tell [([p,q,x],())] (Comp.pure ([],.next (zJ .i64 x_5 1)))
                      else Comp.pure ([],.done (Sum.inl ():Unit⊕Unit))))
   (fun i x hx=>by
    have gF:=zM hx;rw[zKu (by rw[zH,zC];omega),zA,zQ hx,zKS,Yf,Comp.zB,zL (by omega),hx]
    rfl)
   (by rw[zKv (by rw[zH,zC];omega),Comp.zB])
  rw[h1,List.range_eq_range',Ig l (fun s=>[([p,q,s],())]) 0 _ (fun k x hk=>by rw[Nat.zero_add,hk])]
  rw[AH]
 have mid:∀(p:Pln) (i:Nat),i<r.length->(Z9
              (fun (x_3:Int)=>if ltI x_3 (zF (r.drop (i+1)))=true then
                (idx (r.drop (i+1)) x_3).bind fun x_4=>(sub r (zJ .i64 (zJ .i64 (i:Int) x_3) 2) (zF r)).bind fun x=>(Z9
                     (fun (x_5:Int)=>if ltI x_5 (zF x)=true then
                       (idx x x_5).bind fun x=>tell [([p,x_4,x],())] (Comp.pure ([],.next (zJ .i64 x_5 1)))
                      else Comp.pure ([],.done (Sum.inl ():Unit⊕Unit)))
                     0).bind fun (p:List (List (Pln)×Unit)×(Unit⊕Unit))=>tell p.1
                    (match p.2 with
                    |Sum.inl x=>Comp.pure ([],.next (zJ .i64 x_3 1))
                    |Sum.inr x=>Comp.pure ([],.done (Sum.inr ():Unit⊕Unit)))
               else Comp.pure ([],.done (Sum.inl ():Unit⊕Unit)))
              0).val=some ((prs (r.drop (i+1))).map fun t=>([p,t.1,t.2],()),Sum.inl ()):=by
  intro p i hi;have hdl:(r.drop (i+1)).length=r.length-(i+1):=List.length_drop ..
  have h1:=Jj (r.drop (i+1)) (fun j=>match (r.drop (i+1))[j]? with|some q=>((r.drop (i+1)).drop (j+1)).map fun s=>([p,q,s],())|none=>[]) (e:=(Sum.inl ():Unit⊕Unit)) (body:=(fun (x_3:Int)=>if ltI x_3 (zF (r.drop (i+1)))=true then
                (idx (r.drop (i+1)) x_3).bind fun x_4=>(sub r (zJ .i64 (zJ .i64 (i:Int) x_3) 2) (zF r)).bind fun x=>(Z9
                     (fun (x_5:Int)=>if ltI x_5 (zF x)=true then
                       (idx x x_5).bind fun x=>tell [([p,x_4,x],())] (Comp.pure ([],.next (zJ .i64 x_5 1)))
                      else Comp.pure ([],.done (Sum.inl ():Unit⊕Unit)))
                     0).bind fun (p:List (List (Pln)×Unit)×(Unit⊕Unit))=>tell p.1
                    (match p.2 with
                    |Sum.inl x=>Comp.pure ([],.next (zJ .i64 x_3 1))
                    |Sum.inr x=>Comp.pure ([],.done (Sum.inr ():Unit⊕Unit)))
               else Comp.pure ([],.done (Sum.inl ():Unit⊕Unit))))
   (fun j q hq=>by
    have gF:=zM hq;have e1:zJ .i64 (zJ .i64 (i:Int) (j:Int)) 2=((i+j+2:Nat):Int):=by rw[yh (m:=(i:Int)) (by omega),yh (by omega)];omega
    rw[zKu (by rw[zH,zC];omega),zA,zQ hq,zKS,e1,zA,nJ (by omega),zKS,zA,inner p q _ (by rw[List.length_drop];omega),zKS,Yf]
    simp only;rw[Comp.zB,zL (by omega),hq,List.drop_drop]
    simp only[Option.map_some,List.append_nil];rw[show i+1+(j+1)=i+j+2 by omega])
   (by rw[zKv (by rw[zH,zC];omega),Comp.zB])
  rw[h1,List.range_eq_range',IH (r.drop (i+1)) _ (fun t=>([p,t.1,t.2],())) 0 (fun k q hk=>by rw[Nat.zero_add,hk])]
 have h1:=Jj r (fun i=>match r[i]? with|some p=>(prs (r.drop (i+1))).map fun t=>([p,t.1,t.2],())|none=>[]) (e:=(Sum.inl ():Unit⊕Unit)) (body:=(fun (x:Int)=>if ltI x (zF r)=true then
         (idx r x).bind fun x_1=>(sub r (zJ .i64 x 1) (zF r)).bind fun x_2=>(Z9
              (fun (x_3:Int)=>if ltI x_3 (zF x_2)=true then
                (idx x_2 x_3).bind fun x_4=>(sub r (zJ .i64 (zJ .i64 x x_3) 2) (zF r)).bind fun x=>(Z9
                     (fun (x_5:Int)=>if ltI x_5 (zF x)=true then
                       (idx x x_5).bind fun x=>tell [([x_1,x_4,x],())] (Comp.pure ([],.next (zJ .i64 x_5 1)))
                      else Comp.pure ([],.done (Sum.inl ())))
                     0).bind fun (p:List (List (Pln)×Unit)×(Unit⊕Unit))=>tell p.1
                    (match p.2 with
                    |Sum.inl x=>Comp.pure ([],.next (zJ .i64 x_3 1))
                    |Sum.inr x=>Comp.pure ([],.done (Sum.inr ())))
               else Comp.pure ([],.done (Sum.inl ())))
              0).bind fun (p:List (List (Pln)×Unit)×(Unit⊕Unit))=>tell p.1
             (match p.2 with
             |Sum.inl x_3=>Comp.pure ([],.next (zJ .i64 x 1))
             |Sum.inr x=>Comp.pure ([],.done (Sum.inr ())))
        else Comp.pure ([],.done (Sum.inl ()))))
  (fun i p hp=>by
   have gF:=zM hp;rw[zKu (by rw[zH,zC];omega),zA,zQ hp,zKS,zL (by omega),zA,nJ (by omega),zKS,zA,mid p i gF,zKS,Yf]
   simp only;rw[Comp.zB,hp];simp only[Option.map_some,List.append_nil])
  (by rw[zKv (by rw[zH,zC];omega),Comp.zB])
 rw[List.range_eq_range',H2 r _ (fun t=>([t.1,t.2.1,t.2.2],())) 0 (fun k p hk=>by rw[Nat.zero_add,hk])]at h1
 rw[zA,zA];refine(zKl (fun o=>Option.bind (Option.bind o _) _) h1).trans ?_
 rw[zKS,Yf];simp only;rw[Comp.zB];simp only[Option.map_some,zKS,List.append_nil];exact Comp.zB _
def rm(p:Pln)(x:Pnt):Int:=W (p.2.1 * x.2.2.2.1-dt p.1 (x.1,x.2.1,x.2.2.1,()))
def ins(r:List Pln)(x:Pnt):Bool:=r.all fun p=>decide (0<=rm p x)
def kX(r:List Pln)(l:List Pnt)(t:Pln×Pln×Pln):List Pnt:=match mt t.1 t.2.1 t.2.2 with
 |none=>l
 |some x=>if x∈l then l else bif ins r x then l++[x] else l
def crn(r:List Pln):List Pnt:=(tri r).foldl (kX r) []
def full(r:List Pln):Bool:=r.all fun p=>(crn r).any fun x=>decide (0<rm p x)
theorem qC(p:Pln)(x:Pnt):(ZY p x).val=some (rm p x,()):=by
 unfold ZY ZW;rw[zA,Comp.zB,zKS,Comp.zB]
 congr 2
 unfold rm dt;simp only[QQ,Qv,zDe,G7,G6,V2,V1]
theorem Z7{r:List Pln}{x:Pnt}(hl:r.length<9223372036854775807):(Zi r x).val=some (ins r x,()):=by
 unfold Zi;have h1:(zY r fun z=>jA z.1 x).val=some (r.any fun p=>decide (rm p x<0),()) :=
  Zp (xs:=r) (f:=fun z=>jA z.1 x) (p:=fun p=>decide (rm p x<0)) hl fun p _=>by
   show (jA p x).val=_
   unfold jA;rw[zA,qC,zKS,Comp.zB];rfl
 rw[zA,h1,zKS,Comp.zB];unfold ins
 congr 2
 simp only[yQ];rw[List.all_eq_not_any_not]
 congr 2
 funext p
 by_cases h:rm p x<0
 ·have:¬(0<=rm p x):=by omega
  simp[h,this]
 ·have:0<=rm p x:=by omega
  simp[h,this]
def rI(x y:Pnt):Bool:=adB (eqI x.1 y.1) (adB (eqI x.2.1 y.2.1) (adB (eqI x.2.2.1 y.2.2.1) (eqI x.2.2.2.1 y.2.2.2.1)))
theorem mP(x y:Pnt):rI x y=decide (x=y):=by
 obtain⟨a,b,c,d,_⟩:=x;obtain⟨a',b',c',d',_⟩:=y;unfold rI eqI adB;simp only;rw[Bool.eq_iff_iff];simp[Prod.ext_iff]
def kn(l:List Pnt):List (Pnt×Bool):=l.map fun x=>(x,true)
theorem zDB(l:List Pnt)(x:Pnt):mgB rI (kn l) x=if x∈l then some true else none:=by
 induction l with
 |nil=>rfl
 |cons y l ih =>
  show (bif rI x y then some true else mgB rI (kn l) x)=_
  rw[mP,ih];by_cases h:x=y
  ·simp[h]
  ·simp[h]
theorem zDA{l:List Pnt}{x:Pnt}(h:x ∉ l):mpB rI (kn l) x true=kn (l++[x]):=by
 induction l with
 |nil=>rfl
 |cons y l ih =>
  simp only[zKY,not_or]at h;show (bif rI x y then (x,true)::kn l else (y,true)::mpB rI (kn l) x true)=_
  rw[mP,zKw h.1,cond_false,ih h.2];rfl
theorem nI:∀ {r:List α} {t:α×α×α},t∈tri r->t.1∈r/\t.2.1∈r/\t.2.2∈r
 | [],_,h=>by cases h
 |p::l,t,h=>by
  have prs_mem:∀ {l:List α} {t:α×α},t∈prs l->t.1∈l/\t.2∈l:=by
   intro l
   induction l with
   |nil=>intro t h;cases h
   |cons q l ih =>
    intro t h;simp only[prs,zKd,List.mem_map]at h;rcases h with ⟨s,h1,rfl⟩|h
    ·exact⟨by simp,zKe _ h1⟩
    ·have:=ih h;exact⟨zKe _ this.1,zKe _ this.2⟩
  simp only[tri,zKd,List.mem_map]at h;rcases h with ⟨s,h1,rfl⟩|h
  ·have:=prs_mem h1
   exact⟨by simp,zKe _ this.1,zKe _ this.2⟩
  ·have:=nI h
   exact⟨zKe _ this.1,zKe _ this.2.1,zKe _ this.2.2⟩
theorem Ui(l:List α):(prs l).length<=l.length * l.length:=by
 induction l with
 |nil=>simp[prs]
 |cons x l ih =>
  simp only[prs,zKV,List.length_map,zKc];have:(l.length+1) * (l.length+1)=l.length * l.length+2 * l.length+1:=by
   rw[Nat.add_mul,Nat.mul_add];omega
  omega
theorem Kc(l:List α):(tri l).length<=l.length * (l.length * l.length):=by
 induction l with
 |nil=>simp[tri]
 |cons x l ih =>
  simp only[tri,zKV,List.length_map,zKc];have h1:=Ui l
  have h2:l.length * (l.length * l.length)+l.length * l.length<=(l.length+1) * ((l.length+1) * (l.length+1)):=by
   rw[Nat.add_mul,Nat.one_mul];refine Nat.add_le_add (Nat.mul_le_mul_left _ (Nat.mul_le_mul (by omega) (by omega))) (Nat.mul_le_mul (by omega) (by omega))
  omega
theorem KS{r:List Pln}{l:List Pnt}{t:Pln×Pln×Pln}:(kX r l t).length<=l.length+1:=by
 unfold kX;split
 ·omega
 ·split
  ·omega
  ·cases ins r _<;>simp
theorem mS(r:List Pln):(crn r).length<=(tri r).length:=by
 unfold crn;have key:∀(ts:List (Pln×Pln×Pln)) (l:List Pnt),(ts.foldl (kX r) l).length<=l.length+ts.length:=by
  intro ts
  induction ts with
  |nil=>intro l;simp
  |cons t ts ih =>
   intro l;have:=ih (kX r l t)
   have:=KS (r:=r) (l:=l) (t:=t);simp only[List.foldl_cons,zKc];omega
 have:=key (tri r) [];simpa using this
theorem JJ{b k i:Bool}{c:Comp (Bool×Unit)}(hc:b=true->k=false->c.val=some (i,())){A B:Comp β} :
  ((Comp.gd (sel b (ntB k) false) c (false,())).bind fun x2=>if sel (sel b (ntB k) false) x2.1 false=true then A else B).val=(bif b && (!k && i) then A else B).val:=by
 rw[zA]
 cases b with
 |false =>
  show (Option.bind (Comp.pure (false,())).val _)=_
  rw[Comp.zB,zKS];rfl
 |true =>
  cases k with
  |true =>
   show (Option.bind (Comp.pure (false,())).val _)=_
   rw[Comp.zB,zKS];rfl
  |false =>
   have:=hc rfl rfl;show (Option.bind c.val _)=_
   rw[this,zKS];cases i<;>rfl
theorem wY{r:List Pln}(hl:r.length<=1000)(hb:∀p∈r,okB p):(vo r).val=some (crn r,()):=by
 have hL:=YP;have h3:(tri r).length<=1000000000:=by
  refine zKb (Kc r) ?_;exact Nat.mul_le_mul hl (Nat.mul_le_mul hl hl)
 unfold vo j6;rw[zA,Comp.zB,zKS,zA,lq (by omega),zKS]
 -- the walk over a list of triples,from a list of vertices
 have key:∀(ts:List (Pln×Pln×Pln)) (l:List Pnt),(∀t∈ts,okB t.1/\okB t.2.1/\okB t.2.2)->l.length+ts.length<=1000000000->(Kv
       (fun (x:List (Pnt)×List ((Pnt)×Bool))
         (d:List (Pln)×Unit) =>
        (Go.F.XK d.1).bind fun x_1=>(Comp.gd
            (sel x_1.2.1
             (ntB
              (match
               mgB
                (fun (x x_2:Pnt)=>adB (eqI x.1 x_2.1) (adB (eqI x.2.1 x_2.2.1) (adB (eqI x.2.2.1 x_2.2.2.1) (eqI x.2.2.2.1 x_2.2.2.2.1))))
                x.2 x_1.1 with
              |some x=>x
              |none=>false))
             false)
            (Go.F.Zi r x_1.1) (false,())).bind fun x_2=>jn (fun (x:List (Pnt)×List ((Pnt)×Bool))=>Comp.pure (.next (x.1,x.2)))
           fun (j :
             List (Pnt)×List ((Pnt)×Bool)->Comp (Comp.Step (List (Pnt)×List ((Pnt)×Bool)) Empty)) =>
           if
             sel
               (sel x_1.2.1
                (ntB
                 (match
                  mgB
                   (fun (x x_3:Pnt)=>adB (eqI x.1 x_3.1) (adB (eqI x.2.1 x_3.2.1) (adB (eqI x.2.2.1 x_3.2.2.1) (eqI x.2.2.2.1 x_3.2.2.2.1))))
                   x.2 x_1.1 with
                 |some x=>x
                 |none=>false))
                false)
               x_2.1 false =
              true then
            (app x.1 [x_1.1]).bind fun zs=>j
              (zs,
               mpB
                (fun (x x_3:Pnt)=>adB (eqI x.1 x_3.1) (adB (eqI x.2.1 x_3.2.1) (adB (eqI x.2.2.1 x_3.2.2.1) (eqI x.2.2.2.1 x_3.2.2.2.1))))
                x.2 x_1.1 true)
           else j (x.1,x.2))
       (ts.map fun t=>([t.1,t.2.1,t.2.2],())) (l,kn l)).val=some (.next (ts.foldl (kX r) l,kn (ts.foldl (kX r) l))):=by
  intro ts
  induction ts with
  |nil=>intro l _ _;exact Comp.zB _
  |cons t ts ih =>
   intro l bU kA;obtain⟨h1,h2,h3⟩:=bU t (by simp)
   simp only[zKc]at kA;rw[List.map_cons];unfold Kv;have hmg:∀x,(match mgB (fun (x x_2:Pnt)=>adB (eqI x.1 x_2.1) (adB (eqI x.2.1 x_2.2.1) (adB (eqI x.2.2.1 x_2.2.2.1) (eqI x.2.2.2.1 x_2.2.2.2.1)))) (kn l) x with|some x=>x|none=>false)=decide (x∈l):=by
    intro x;show (match mgB rI (kn l) x with|some x=>x|none=>false)=_
    rw[zDB];by_cases h:x∈l<;>simp[h]
   have hlen':=KS (r:=r) (l:=l) (t:=t);have sP:=ih (kX r l t) (fun t' ht'=>bU t' (zKe _ ht')) (by omega)
   rw[zA,zA,rB h1 h2 h3,zKS,List.foldl_cons]
   let B0:Comp (Comp.Step (List Pnt×List (Pnt×Bool)) Empty):=Comp.pure (.next (l,kn l))
   let A0:Pnt->Comp (Comp.Step (List Pnt×List (Pnt×Bool)) Empty):=fun x=>(app l [x]).bind fun zs=>Comp.pure (.next (zs,mpB rI (kn l) x true))
   cases hm:mt t.1 t.2.1 t.2.2 with
   |none =>
    have bM:kX r l t=l:=by unfold kX;rw[hm]
    rw[bM]at sP |-;refine(zKl (fun o=>Option.bind o _) ((JJ (b:=false) (i:=false) (fun h=>nomatch h) (A:=A0 (0,0,0,0,())) (B:=B0)).trans (Comp.zB _))).trans ?_
    exact sP
   |some x =>
    have bM:kX r l t=if x∈l then l else bif ins r x then l++[x] else l:=by unfold kX;rw[hm]
    by_cases hx:x∈l
    ·rw[zKu hx]at bM
     rw[bM]at sP |-;have hk:=hmg x
     rw[zKx hx]at hk;have hv:∀k,k=true->(bif true && (!k && ins r x) then A0 x else B0).val=some (.next (l,kn l)):=fun k hk=>by subst hk;exact Comp.zB _
     refine(zKl (fun o=>Option.bind o _) ((JJ (b:=true) (i:=ins r x) (fun _ _=>Z7 (by omega)) (A:=A0 x) (B:=B0)).trans (hv _ hk))).trans ?_
     exact sP
    ·rw[zKv hx]at bM
     have hk:=hmg x;rw[zKw hx]at hk
     cases fT:ins r x with
     |false =>
      rw[fT,cond_false]at bM;rw[bM]at sP |-;have hv:∀k,k=false->(bif true && (!k && ins r x) then A0 x else B0).val=some (.next (l,kn l)):=fun k hk=>by subst hk;rw[fT];exact Comp.zB _
      refine(zKl (fun o=>Option.bind o _) ((JJ (b:=true) (i:=ins r x) (fun _ _=>Z7 (by omega)) (A:=A0 x) (B:=B0)).trans (hv _ hk))).trans ?_
      exact sP
     |true =>
      rw[fT,cond_true]at bM;rw[bM]at sP |-;have hv:∀k,k=false->(bif true && (!k && ins r x) then A0 x else B0).val=some (.next (l++[x],kn (l++[x]))):=fun k hk=>by
       subst hk;rw[fT];show ((app l [x]).bind fun zs=>(Comp.pure (.next (zs,mpB rI (kn l) x true)):Comp (Comp.Step (List Pnt×List (Pnt×Bool)) Empty))).val=_
       rw[zA,yP (by simp only[zKX];unfold LIM;omega),zKS,Comp.zB,zDA hx]
      refine(zKl (fun o=>Option.bind o _) ((JJ (b:=true) (i:=ins r x) (fun _ _=>Z7 (by omega)) (A:=A0 x) (B:=B0)).trans (hv _ hk))).trans ?_
      exact sP
 have h1:=key (tri r) [] (fun t ht=>by
  obtain⟨a,b,c⟩:=nI ht;exact⟨hb _ a,hb _ b,hb _ c⟩) (by simpa using h3)
 rw[zA];refine(zKl (fun o=>Option.bind o _) h1).trans ?_
 rw[zKS];exact Comp.zB _
theorem BV{r:List Pln}(hl:r.length<=1000)(hb:∀p∈r,okB p):(gy r).val=some (full r,()):=by
 have hL:=YP;have h3:(crn r).length<=1000000000:=by
  refine zKb (mS r) (zKb (Kc r) ?_);exact Nat.mul_le_mul hl (Nat.mul_le_mul hl hl)
 unfold gy;rw[zA,wY hl hb,zKS];have h1:(yH r fun z=>vA z.1 (crn r)).val=some (r.any fun p=>!(crn r).any fun x=>decide (0<rm p x),()) :=
  Zp (xs:=r) (f:=fun z=>vA z.1 (crn r)) (p:=fun p=>!(crn r).any fun x=>decide (0<rm p x)) (by omega) fun p _=>by
   show (vA p (crn r)).val=_
   unfold vA;have h2:(yN (crn r) fun z=>yT z.1 p).val=some ((crn r).any fun x=>decide (0<rm p x),()) :=
    Zp (xs:=crn r) (f:=fun z=>yT z.1 p) (p:=fun x=>decide (0<rm p x)) (by omega) fun x _=>by
     show (yT x p).val=_
     unfold yT;rw[zA,qC,zKS,Comp.zB];rfl
   rw[zA,h2,zKS,Comp.zB];rfl
 rw[zA,h1,zKS,Comp.zB,yQ];unfold full;rw[List.all_eq_not_any_not]
def bx0:List Pln:=[((1,0,0,()),24,()),((-1,0,0,()),24,()),((0,1,0,()),24,()),((0, -1,0,()),24,()),((0,0,1,()),24,()),((0,0, -1,()),24,())]
theorem qx:∀p∈bx0,okB p:=by
 intro p hp;unfold bx0 at hp;simp only[zKY,List.not_mem_nil,or_false]at hp;unfold okB Bd;rcases hp with rfl|rfl|rfl|rfl|rfl|rfl<;>simp
theorem yc{l:List (List Pln)}(hl:l.length<9223372036854775807)(h:l.flatten.length<=1000):(cell_of l).val=some (l.flatten++bx0,()):=by
 unfold cell_of;have h1:(zN l).val=some (l.flatten,()):=mV (z:=((0,0,0,()),0,())) (by unfold LIM;omega) hl
 rw[zA,h1,zKS];generalize l.flatten=c at h;have h2:=Comp.YW (fun (s:List Pln) i=>(s,((i:Nat):Int))) [(1,0,0,()),(-1,0,0,()),(0,1,0,()),(0, -1,0,()),(0,0,1,()),(0,0, -1,())] (fun (s:List Pln) (x:V3)=>.next (s++[(x,24,())])) (fun s=>s) (fun s i=>s.length=c.length+i)
  (body:=(fun (x:List (Pln)×Int)=>if
         ltI x.2
           (zF
            [(1,0,0,()),(-1,0,0,()),(0,1,0,()),(0, -1,0,()),(0,0,1,()),
             (0,0, -1,())]) =
          true then
        (idx [(1,0,0,()),(-1,0,0,()),(0,1,0,()),(0, -1,0,()),(0,0,1,()),(0,0, -1,())]
           x.2).bind fun x_1=>(app x.1 [(x_1,24,())]).bind fun zs=>Comp.pure (.next (zs,zJ .i64 x.2 1))
       else Comp.pure (.done x.1)))
  (fun s i x hx hs=>by
   have gF:=zM hx;simp only[zKc,List.length_nil]at gF;rw[zKu (by rw[zH,zC];simp only[zKc,List.length_nil];omega),zA,zQ hx,zKS,zA,yP (by simp only[zKX];unfold LIM;omega),zKS,Comp.zB,zL (by omega)]
   rfl)
  (fun s i x s' hx hs he=>by cases he;simp[hs];omega)
  (fun s hs=>by rw[zKv (by rw[zH,zC];simp),Comp.zB]) c (by simp)
 rw[Comp.XU]at h2;rw[zA];refine(zKl (fun o=>Option.bind o _) h2).trans ?_
 rw[zKS,Comp.zB];simp[bx0]
theorem Ye{c:List Pln}(h:chk c=0):c.length<=48/\∀p∈c,okB p:=by
 rw[Ec]at h;exact⟨h.1,fun p hp=>zFH (List.all_eq_true.1 h.2 p hp)⟩
def ful(c:List Pln):Bool:=decide (chk c=0) && full (c++bx0)
def apa(a b:List Pln):Bool:=!(decide (chk a=0) && decide (chk b=0)) || !full (a++b++bx0)
theorem Za(c:List Pln):(j5 c).val=some (ful c,()):=by
 unfold j5;rw[vR,zA,YU _ (by simp),zKS]
 simp only[List.all_cons,List.all_nil,Bool.and_true];unfold ful;by_cases h:chk c=0
 ·obtain⟨h1,h2⟩:=Ye h
  rw[zKu (by simpa using h),zA,yc (by simp) (by simp;omega),zKS,zA]
  simp only[List.flatten_cons,List.flatten_nil,List.append_nil];rw[BV (by simp[bx0];omega) (fun p hp=>(zKd.1 hp).elim (h2 p) (qx p)),zKS,Comp.zB,zKx h,Bool.true_and]
 ·rw[zKv (by simpa using h),Comp.zB,zKw h,Bool.false_and]
theorem jq(a b:List Pln):(kV a b).val=some (apa a b,()):=by
 unfold kV;rw[vR,zA,YU _ (by simp),zKS]
 simp only[List.all_cons,List.all_nil,Bool.and_true,yQ,Bool.not_not];unfold apa;by_cases h:(decide (chk a=0) && decide (chk b=0))=true
 ·rw[zKu h,h]
  simp only[zKU,zKm]at h;obtain⟨h1,h2⟩:=Ye h.1;obtain⟨h3,h4⟩:=Ye h.2;rw[zA,yc (by simp) (by simp;omega),zKS,zA]
  simp only[List.flatten_cons,List.flatten_nil,List.append_nil];rw[BV (by simp[bx0];omega) (fun p hp=>(zKd.1 hp).elim (fun hp=>(zKd.1 hp).elim (h2 p) (h4 p)) (qx p)),zKS,Comp.zB]
  rfl
 ·have h':(decide (chk a=0) && decide (chk b=0))=false:=by simpa using h
  rw[zKv h,h',Comp.zB];rfl
theorem K3(p:Pln)(x:Pnt):(zd p x).val=some (rm p x,()):=by
 unfold zd;rw[Comp.zB]
 congr 2
 unfold rm dt;simp only[QQ,Qv,G7,G6]
 congr 1
 omega
theorem Ud{r:List Pln}{x:Pnt}(hl:r.length<9223372036854775807):(gL r x).val=some (ins r x,()):=by
 unfold gL;have h1:=Zq r (fun p=>decide (0<=rm p x)) (c:=(Sum.inr false:Unit⊕Bool)) (d:=Sum.inl ())
  (body:=(fun (x_1:Int)=>if ltI x_1 (zF r)=true then
       (idx r x_1).bind fun x_2=>(Go.F.zd x_2 x).bind fun x_3=>if ltI x_3.1 0=true then Comp.pure (.done (Sum.inr false)) else Comp.pure (.next (zJ .i64 x_1 1))
      else Comp.pure (.done (Sum.inl ()))))
  (fun i p hp=>by
   have gF:=zM hp;rw[zKu (by rw[zH,zC];omega),zA,zQ hp,zKS,zA,K3,zKS,zL (by omega)]
   by_cases h:rm p x<0
   ·rw[zKu (by rw[zH];exact h),Comp.zB,zKv (by simp;omega)]
   ·rw[zKv (by rw[zH];exact h),Comp.zB,zKu (by simp;omega)])
  (by rw[zKv (by rw[zH,zC];omega),Comp.zB])
 rw[zA];refine(zKl (fun o=>Option.bind o _) h1).trans ?_
 rw[zKS];unfold ins;cases r.all fun p=>decide (0<=rm p x)<;>exact Comp.zB _
theorem C1{l:List Pnt}{x:Pnt}(hl:l.length<9223372036854775807):(y4 l x).val=some (decide (x∈l),()):=by
 unfold y4;have h1:=Zq l (fun y=>!decide (y=x)) (c:=(Sum.inr true:Unit⊕Bool)) (d:=Sum.inl ())
  (body:=(fun (i:Int)=>if ltI i (zF l)=true then
       (idx l i).bind fun x_1=>if adB (eqI x_1.1 x.1) (adB (eqI x_1.2.1 x.2.1) (adB (eqI x_1.2.2.1 x.2.2.1) (eqI x_1.2.2.2.1 x.2.2.2.1)))=true then
         Comp.pure (.done (Sum.inr true))
        else Comp.pure (.next (zJ .i64 i 1))
      else Comp.pure (.done (Sum.inl ()))))
  (fun i p hp=>by
   have gF:=zM hp;have he:adB (eqI p.1 x.1) (adB (eqI p.2.1 x.2.1) (adB (eqI p.2.2.1 x.2.2.1) (eqI p.2.2.2.1 x.2.2.2.1)))=decide (p=x):=mP p x
   rw[zKu (by rw[zH,zC];omega),zA,zQ hp,zKS,zL (by omega)]
   by_cases h:p=x
   ·rw[zKu (by rw[he];exact zKx h),Comp.zB,zKv (by simp[h])]
   ·rw[zKv (by rw[he,zKw h];simp),Comp.zB,zKu (by simp[h])])
  (by rw[zKv (by rw[zH,zC];omega),Comp.zB])
 rw[zA];refine(zKl (fun o=>Option.bind o _) h1).trans ?_
 rw[zKS];by_cases h:x∈l
 ·have:(l.all fun y=>!decide (y=x))=false:=by
   rw[List.all_eq_false];exact⟨x,h,by simp⟩
  rw[this,zKx h];exact Comp.zB _
 ·have:(l.all fun y=>!decide (y=x))=true:=by
   rw[List.all_eq_true];intro y hy;simp;intro e;subst e;exact h hy
  rw[this,zKw h];exact Comp.zB _
theorem ZB{body:σ×Int->Comp (Comp.Step (σ×Int) σ)}(n:Nat)(G F:Nat->σ->σ)(I:σ->Nat->Prop)
  (hb:∀s (i:Nat),i<n->I s i->(body (s,(i:Int))).val=some (.next (G i s,((i+1:Nat):Int)))/\I (G i s) (i+1)/\F i s=F (i+1) (G i s)) (he:∀s,(body (s,(n:Int))).val=some (.done s)) (hF:∀s,F n s=s) :
  ∀(k:Nat) (s:σ),k<=n->I s k->(Comp.loop body (s,(k:Int))).val=some (F k s):=by
 have key:∀(m k:Nat) (s:σ),k+m=n->I s k->(Comp.loop body (s,(k:Int))).val=some (F k s):=by
  intro m
  induction m with
  |zero =>
   intro k s hk hI;rw[show k=n by omega,zO,he,hF];rfl
  |succ m ih =>
   intro k s hk hI;obtain⟨h1,h2,h3⟩:=hb s k (by omega) hI
   rw[zO,h1,h3];exact ih (k+1) (G k s) (by omega) h2
 exact fun k s hk hI=>key (n-k) k s (by omega) hI
theorem drop_cons{xs:List α}{k:Nat}{x:α}(h:xs[k]?=some x):xs.drop k=x::xs.drop (k+1):=by
 have:=zKa.1 h;rw[List.drop_eq_getElem_cons this.1];congr 1;exact this.2
theorem pE{r:List Pln}(ts:List (Pln×Pln×Pln)):∀(l:List Pnt),(ts.foldl (kX r) l).length<=l.length+ts.length:=by
 induction ts with
 |nil=>intro l;simp
 |cons t ts ih =>
  intro l;have h1:=ih (kX r l t)
  have h2:=KS (r:=r) (l:=l) (t:=t);simp only[List.foldl_cons,zKc];omega
theorem wL{b i h:Bool}{c:Comp (Bool×Unit)}{d:Comp (Bool×Unit)}(hc:b=true->c.val=some (i,()))(hd:b=true->i=true->d.val=some (h,())){A B:Comp β} :
  ((Comp.gd b c (false,())).bind fun x5=>(Comp.gd (sel b x5.1 false) d (false,())).bind fun x6=>if sel (sel b x5.1 false) (ntB x6.1) false=true then A else B).val=(bif b && (i && !h) then A else B).val:=by
 rw[zA]
 cases b with
 |false =>
  show (Option.bind (Comp.pure (false,())).val _)=_
  rw[Comp.zB,zKS,zA];show (Option.bind (Comp.pure (false,())).val _)=_
  rw[Comp.zB,zKS];rfl
 |true =>
  have h1:=hc rfl;show (Option.bind c.val _)=_
  rw[h1,zKS,zA]
  cases i with
  |false =>
   show (Option.bind (Comp.pure (false,())).val _)=_
   rw[Comp.zB,zKS];rfl
  |true =>
   have h2:=hd rfl rfl;show (Option.bind d.val _)=_
   rw[h2,zKS];cases h<;>rfl
theorem J9{r:List Pln}(hl:r.length<=1000)(hb:∀p∈r,okB p):(vn r).val=some (crn r,()):=by
 have hL:=YP;have h3:(tri r).length<=1000000000:=by
  refine zKb (Kc r) ?_;exact Nat.mul_le_mul hl (Nat.mul_le_mul hl hl)
 unfold vn
 -- the innermost walk
 have inner:∀(i j:Nat) (p q:Pln),r[i]?=some p->r[j]?=some q->∀(k:Nat) (l:List Pnt),k<=r.length->l.length+(r.length-k)<=1000000000->(Comp.loop
               (fun (x_2:List (Pnt)×Int)=>if ltI x_2.2 (zF r)=true then
                 (idx r (i:Int)).bind fun x=>(idx r (j:Int)).bind fun x_3=>(idx r x_2.2).bind fun x_4=>(Go.F.vL x x_3 x_4).bind fun x=>(Comp.gd x.2.1 (Go.F.gL r x.1) (false,())).bind fun x_5=>(Comp.gd (sel x.2.1 x_5.1 false) (Go.F.y4 x_2.1 x.1) (false,())).bind fun x_6=>jn (fun (x:List (Pnt))=>Comp.pure (.next (x,zJ .i64 x_2.2 1)))
                        fun (j :
                          List (Pnt)->Comp (Comp.Step (List (Pnt)×Int) (List (Pnt)))) =>
                        if sel (sel x.2.1 x_5.1 false) (ntB x_6.1) false=true then
                         (app x_2.1 [x.1]).bind fun zs=>j zs
                        else j x_2.1
                else Comp.pure (.done x_2.1)) (l,(k:Int))).val=some ((r.drop k).foldl (fun l s=>kX r l (p,q,s)) l):=by
  intro i j p q hp hq;refine ZB r.length (fun k l=>match r[k]? with|some s=>kX r l (p,q,s)|none=>l) (fun k l=>(r.drop k).foldl (fun l s=>kX r l (p,q,s)) l) (fun l k=>l.length+(r.length-k)<=1000000000)
   (fun l k hk hI=>?_) (fun l=>by rw[zKv (by rw[zH,zC];simp),Comp.zB]) (fun l=>by rw[List.drop_length];rfl)
  obtain⟨s,hs⟩:=zR (xs:=r) (k:=k) hk;have kA:=KS (r:=r) (l:=l) (t:=(p,q,s))
  refine⟨?_,by rw[hs];show (kX r l (p,q,s)).length+_<=_;omega,by rw[drop_cons hs,hs];rfl⟩
  rw[hs];simp only;rw[zKu (by rw[zH,zC];show (k:Int)<_;omega),zA,zQ hp,zKS,zA,zQ hq,zKS,zA,zQ hs,zKS,zA,
   IC (hb p (zKZ hp)) (hb q (zKZ hq)) (hb s (zKZ hs)),zKS]
  let A0:Pnt->Comp (Comp.Step (List Pnt×Int) (List Pnt)):=fun x=>(app l [x]).bind fun zs=>Comp.pure (.next (zs,zJ .i64 (k:Int) 1))
  let B0:Comp (Comp.Step (List Pnt×Int) (List Pnt)):=Comp.pure (.next (l,zJ .i64 (k:Int) 1))
  cases hm:mt p q s with
  |none =>
   have bM:kX r l (p,q,s)=l:=by unfold kX;rw[hm]
   rw[bM];refine(wL (b:=false) (i:=false) (h:=false) (fun h=>nomatch h) (fun h=>nomatch h) (A:=A0 (0,0,0,0,())) (B:=B0)).trans ?_
   show B0.val=_
   rw[<-zL (show k<9223372036854775807 by omega)]
   exact Comp.zB _
  |some x =>
   have bM:kX r l (p,q,s)=if x∈l then l else bif ins r x then l++[x] else l:=by unfold kX;rw[hm]
   refine(wL (b:=true) (i:=ins r x) (h:=decide (x∈l)) (fun _=>Ud (by omega)) (fun _ _=>C1 (by omega)) (A:=A0 x) (B:=B0)).trans ?_
   rw[bM,<-zL (show k<9223372036854775807 by omega)]
   by_cases hx:x∈l
   ·rw[zKx hx,zKu hx]
    cases ins r x<;>exact Comp.zB _
   ·rw[zKw hx,zKv hx]
    cases ins r x with
    |false=>exact Comp.zB _
    |true =>
     show (A0 x).val=_
     show ((app l [x]).bind fun zs=>(Comp.pure (.next (zs,zJ .i64 (k:Int) 1)):Comp (Comp.Step (List Pnt×Int) (List Pnt)))).val=_
     rw[zA,yP (by simp only[zKX];unfold LIM;omega),zKS,Comp.zB]
     rfl
 have mid:∀(i:Nat) (p:Pln),r[i]?=some p->∀(k:Nat) (l:List Pnt),k<=r.length->l.length+(prs (r.drop k)).length<=1000000000->(Comp.loop
          (fun (x_1:List (Pnt)×Int)=>if ltI x_1.2 (zF r)=true then
            (Comp.loop
               (fun (x_2:List (Pnt)×Int)=>if ltI x_2.2 (zF r)=true then
                 (idx r (i:Int)).bind fun x=>(idx r x_1.2).bind fun x_3=>(idx r x_2.2).bind fun x_4=>(Go.F.vL x x_3 x_4).bind fun x=>(Comp.gd x.2.1 (Go.F.gL r x.1) (false,())).bind fun x_5=>(Comp.gd (sel x.2.1 x_5.1 false) (Go.F.y4 x_2.1 x.1) (false,())).bind fun x_6=>jn (fun (x:List (Pnt))=>Comp.pure (.next (x,zJ .i64 x_2.2 1)))
                        fun (j :
                          List (Pnt)->Comp (Comp.Step (List (Pnt)×Int) (List (Pnt)))) =>
                        if sel (sel x.2.1 x_5.1 false) (ntB x_6.1) false=true then
                         (app x_2.1 [x.1]).bind fun zs=>j zs
                        else j x_2.1
                else Comp.pure (.done x_2.1))
               (x_1.1,zJ .i64 x_1.2 1)).bind fun x=>Comp.pure (.next (x,zJ .i64 x_1.2 1))
           else Comp.pure (.done x_1.1)) (l,(k:Int))).val=some ((prs (r.drop k)).foldl (fun l t=>kX r l (p,t)) l):=by
  intro i p hp;refine ZB r.length (fun k l=>match r[k]? with|some q=>(r.drop (k+1)).foldl (fun l s=>kX r l (p,q,s)) l|none=>l) (fun k l=>(prs (r.drop k)).foldl (fun l t=>kX r l (p,t)) l) (fun l k=>l.length+(prs (r.drop k)).length<=1000000000)
   (fun l k hk hI=>?_) (fun l=>by rw[zKv (by rw[zH,zC];simp),Comp.zB]) (fun l=>by rw[List.drop_length];rfl)
  obtain⟨q,hq⟩:=zR (xs:=r) (k:=k) hk;have hpl:(prs (r.drop k)).length=(r.length-(k+1))+(prs (r.drop (k+1))).length:=by rw[drop_cons hq,prs,zKV,List.length_map,List.length_drop]
  have aO:((r.drop (k+1)).foldl (fun l s=>kX r l (p,q,s)) l).length<=l.length+(r.length-(k+1)):=by
   have:=pE (r:=r) ((r.drop (k+1)).map fun s=>(p,q,s)) l
   rw[List.foldl_map,List.length_map,List.length_drop]at this;exact this
  refine⟨?_,by rw[hq];show ((r.drop (k+1)).foldl (fun l s=>kX r l (p,q,s)) l).length+_<=_;omega,by rw[drop_cons hq,hq,prs,List.foldl_append,List.foldl_map]⟩
  rw[hq];simp only;rw[zKu (by rw[zH,zC];show (k:Int)<_;omega),zA]
  have h4:=inner i k p q hp hq (k+1) l (by omega) (by omega)
  rw[<-zL (show k<9223372036854775807 by omega)]at h4
  refine(zKl (fun o=>Option.bind o _) h4).trans ?_
  rw[zKS,Comp.zB,zL (show k<9223372036854775807 by omega)]
 have outer:∀(k:Nat) (l:List Pnt),k<=r.length->l.length+(tri (r.drop k)).length<=1000000000->(Comp.loop
     (fun (x:List (Pnt)×Int)=>if ltI x.2 (zF r)=true then
       (Comp.loop
          (fun (x_1:List (Pnt)×Int)=>if ltI x_1.2 (zF r)=true then
            (Comp.loop
               (fun (x_2:List (Pnt)×Int)=>if ltI x_2.2 (zF r)=true then
                 (idx r x.2).bind fun x=>(idx r x_1.2).bind fun x_3=>(idx r x_2.2).bind fun x_4=>(Go.F.vL x x_3 x_4).bind fun x=>(Comp.gd x.2.1 (Go.F.gL r x.1) (false,())).bind fun x_5=>(Comp.gd (sel x.2.1 x_5.1 false) (Go.F.y4 x_2.1 x.1) (false,())).bind fun x_6=>jn (fun (x:List (Pnt))=>Comp.pure (.next (x,zJ .i64 x_2.2 1)))
                        fun (j :
                          List (Pnt)->Comp (Comp.Step (List (Pnt)×Int) (List (Pnt)))) =>
                        if sel (sel x.2.1 x_5.1 false) (ntB x_6.1) false=true then
                         (app x_2.1 [x.1]).bind fun zs=>j zs
                        else j x_2.1
                else Comp.pure (.done x_2.1))
               (x_1.1,zJ .i64 x_1.2 1)).bind fun x=>Comp.pure (.next (x,zJ .i64 x_1.2 1))
           else Comp.pure (.done x_1.1))
          (x.1,zJ .i64 x.2 1)).bind fun x_1=>Comp.pure (.next (x_1,zJ .i64 x.2 1))
      else Comp.pure (.done x.1)) (l,(k:Int))).val=some ((tri (r.drop k)).foldl (kX r) l):=by
  refine ZB r.length (fun k l=>match r[k]? with|some p=>(prs (r.drop (k+1))).foldl (fun l t=>kX r l (p,t)) l|none=>l) (fun k l=>(tri (r.drop k)).foldl (kX r) l) (fun l k=>l.length+(tri (r.drop k)).length<=1000000000)
   (fun l k hk hI=>?_) (fun l=>by rw[zKv (by rw[zH,zC];simp),Comp.zB]) (fun l=>by rw[List.drop_length];rfl)
  obtain⟨p,hp⟩:=zR (xs:=r) (k:=k) hk;have hpl:(tri (r.drop k)).length=(prs (r.drop (k+1))).length+(tri (r.drop (k+1))).length:=by rw[drop_cons hp,tri,zKV,List.length_map]
  have aO:((prs (r.drop (k+1))).foldl (fun l t=>kX r l (p,t)) l).length<=l.length+(prs (r.drop (k+1))).length:=by
   have:=pE (r:=r) ((prs (r.drop (k+1))).map fun t=>(p,t)) l
   rw[List.foldl_map,List.length_map]at this;exact this
  refine⟨?_,by rw[hp];show ((prs (r.drop (k+1))).foldl (fun l t=>kX r l (p,t)) l).length+_<=_;omega,by rw[drop_cons hp,hp,tri,List.foldl_append,List.foldl_map]⟩
  rw[hp];simp only;rw[zKu (by rw[zH,zC];show (k:Int)<_;omega),zA]
  have h4:=mid k p hp (k+1) l (by omega) (by omega)
  rw[<-zL (show k<9223372036854775807 by omega)]at h4
  refine(zKl (fun o=>Option.bind o _) h4).trans ?_
  rw[zKS,Comp.zB,zL (show k<9223372036854775807 by omega)]
 have h1:=outer 0 [] (Nat.zero_le _) (by simpa using h3)
 rw[zA];refine(zKl (fun o=>Option.bind o _) h1).trans ?_
 rw[zKS];exact Comp.zB _
theorem rT{r:List Pln}(hl:r.length<=1000)(hb:∀p∈r,okB p):(gw r).val=some (full r,()):=by
 have hL:=YP;have h3:(crn r).length<=1000000000:=by
  refine zKb (mS r) (zKb (Kc r) ?_);exact Nat.mul_le_mul hl (Nat.mul_le_mul hl hl)
 unfold gw;rw[zA,J9 hl hb,zKS];have inner:∀(i:Nat) (p:Pln),r[i]?=some p->(Comp.loop
           (fun (x_1:Bool×Int)=>if ltI x_1.2 (zF (crn r))=true then
             (Comp.gd (ntB x_1.1) (idx r (i:Int)) ((0,0,0,()),0,())).bind fun x=>(Comp.gd (ntB x_1.1) (idx (crn r) x_1.2) (0,0,0,0,())).bind fun x_2=>(Comp.gd (ntB x_1.1) (Go.F.zd x x_2) (0,())).bind fun x=>Comp.pure (.next (sel x_1.1 true (gtI x.1 0),zJ .i64 x_1.2 1))
            else Comp.pure (.done x_1.1))
           (false,((0:Nat):Int))).val=some ((crn r).any fun x=>decide (0<rm p x)):=by
  intro i p hp;have h5:=ZB (crn r).length (fun k b=>match (crn r)[k]? with|some x=>b || decide (0<rm p x)|none=>b) (fun k b=>b || ((crn r).drop k).any fun x=>decide (0<rm p x)) (fun _ _=>True)
   (body:=(fun (x_1:Bool×Int)=>if ltI x_1.2 (zF (crn r))=true then
             (Comp.gd (ntB x_1.1) (idx r (i:Int)) ((0,0,0,()),0,())).bind fun x=>(Comp.gd (ntB x_1.1) (idx (crn r) x_1.2) (0,0,0,0,())).bind fun x_2=>(Comp.gd (ntB x_1.1) (Go.F.zd x x_2) (0,())).bind fun x=>Comp.pure (.next (sel x_1.1 true (gtI x.1 0),zJ .i64 x_1.2 1))
            else Comp.pure (.done x_1.1)))
   (fun b k hk _=>by
    obtain⟨x,hx⟩:=zR (xs:=crn r) (k:=k) hk;refine⟨?_,trivial,by rw[drop_cons hx,hx,List.any_cons,Bool.or_assoc]⟩
    rw[hx];simp only;rw[zKu (by rw[zH,zC];show (k:Int)<_;omega),zA]
    cases b with
    |true =>
     show Option.bind (Comp.pure _).val _=_
     rw[Comp.zB,zKS,zA];show Option.bind (Comp.pure _).val _=_
     rw[Comp.zB,zKS,zA];show Option.bind (Comp.pure _).val _=_
     rw[Comp.zB,zKS,Comp.zB,zL (by omega)]
     rfl
    |false =>
     show Option.bind (idx r (i:Int)).val _=_
     rw[zQ hp,zKS,zA];show Option.bind (idx (crn r) (k:Int)).val _=_
     rw[zQ hx,zKS,zA];show Option.bind (zd p x).val _=_
     rw[K3,zKS,Comp.zB,zL (by omega)]
     rfl)
   (fun b=>by rw[zKv (by rw[zH,zC];simp),Comp.zB]) (fun b=>by rw[List.drop_length];simp) 0 false (Nat.zero_le _) trivial
  simpa using h5
 have h1:=Zq r (fun p=>(crn r).any fun x=>decide (0<rm p x)) (c:=(Sum.inr false:Unit⊕Bool)) (d:=Sum.inl ())
  (body:=(fun (x:Int)=>if ltI x (zF r)=true then
        (Comp.loop
           (fun (x_1:Bool×Int)=>if ltI x_1.2 (zF (crn r))=true then
             (Comp.gd (ntB x_1.1) (idx r x) ((0,0,0,()),0,())).bind fun x=>(Comp.gd (ntB x_1.1) (idx (crn r) x_1.2) (0,0,0,0,())).bind fun x_2=>(Comp.gd (ntB x_1.1) (Go.F.zd x x_2) (0,())).bind fun x=>Comp.pure (.next (sel x_1.1 true (gtI x.1 0),zJ .i64 x_1.2 1))
            else Comp.pure (.done x_1.1))
           (false,0)).bind fun x_1=>if ntB x_1=true then Comp.pure (.done (Sum.inr false)) else Comp.pure (.next (zJ .i64 x 1))
       else Comp.pure (.done (Sum.inl ()))))
  (fun i p hp=>by
   have gF:=zM hp;rw[zKu (by rw[zH,zC];omega),zA]
   refine(zKl (fun o=>Option.bind o _) (inner i p hp)).trans ?_
   rw[zKS,zL (by omega)]
   cases (crn r).any fun x=>decide (0<rm p x)<;>exact Comp.zB _)
  (by rw[zKv (by rw[zH,zC];omega),Comp.zB])
 rw[zA];refine(zKl (fun o=>Option.bind o _) h1).trans ?_
 rw[zKS];unfold full;cases r.all fun p=>(crn r).any fun x=>decide (0<rm p x)<;>exact Comp.zB _
theorem qE{c:List Pln}(h:c.length<=1000):(gP c).val=some (c++bx0,()):=by
 unfold gP;have h1:(zq (-24, -24, -24,()) (24,24,24,())).val=some (bx0,()):=by
  unfold zq;rw[Comp.zB];rfl
 rw[zA,yP (by simp;unfold LIM;omega),zKS,zA,h1,zKS,zA,yP (by simp[bx0];unfold LIM;omega),zKS,Comp.zB]
 simp
theorem YQ(c:List Pln):(z6 c).val=some (ful c,()):=by
 unfold z6;rw[vR,zA,ju,zKS];unfold ful;by_cases h:chk c=0
 ·obtain⟨h1,h2⟩:=Ye h
  rw[zKu (by rw[yA];exact h),zA,qE (by omega),zKS,zA,
   rT (by simp[bx0];omega) (fun p hp=>(zKd.1 hp).elim (h2 p) (qx p)),zKS,Comp.zB,zKx h,Bool.true_and]
 ·rw[zKv (by rw[yA];exact h),Comp.zB,zKw h,Bool.false_and]
theorem ZQ(a b:List Pln):(zb a b).val=some (apa a b,()):=by
 unfold zb;rw[zA,ju,zKS,zA];unfold apa;by_cases ha:chk a=0
 ·obtain⟨h1,h2⟩:=Ye ha
  have e1:neI (chk a) 0=false:=by unfold neI;simp[ha]
  show Option.bind (Comp.gd (ntB (neI (chk a) 0)) _ _).val _=_
  rw[e1];show Option.bind (zZ b).val _=_
  rw[ju,zKS];by_cases hb:chk b=0
  ·obtain⟨h3,h4⟩:=Ye hb
   have e2:neI (chk b) 0=false:=by unfold neI;simp[hb]
   rw[zKv (by show ¬sel false true (neI (chk b) 0)=true;rw[e2];simp[sel]),zA,yP (by simp;unfold LIM;omega),zKS,zA,yP (by simp;unfold LIM;omega),zKS,zA]
   simp only[List.nil_append];rw[qE (by simp;omega),zKS,zA,
    rT (by simp[bx0];omega) (fun p hp=>(zKd.1 hp).elim (fun hp=>(zKd.1 hp).elim (h2 p) (h4 p)) (qx p)),zKS,Comp.zB,zKx ha,zKx hb]
   rfl
  ·have e2:neI (chk b) 0=true:=by unfold neI;simp[hb]
   rw[zKu (by show sel false true (neI (chk b) 0)=true;rw[e2];rfl),Comp.zB,zKx ha,zKw hb]
   rfl
 ·have e1:neI (chk a) 0=true:=by unfold neI;simp[ha]
  show Option.bind (Comp.gd (ntB (neI (chk a) 0)) _ _).val _=_
  rw[e1];show Option.bind (Comp.pure _).val _=_
  rw[Comp.zB,zKS,zKu (by rfl),Comp.zB,zKw ha]
  rfl
theorem Y5(a b:V3):cr b a=sc (cr a b) (-1):=by
 unfold cr sc;simp only[Int.mul_neg,Int.mul_one,Prod.mk.injEq,and_true];refine⟨?_,?_,?_⟩
 ·rw[Int.mul_comm b.2.1,Int.mul_comm b.2.2.1];omega
 ·rw[Int.mul_comm b.2.2.1,Int.mul_comm b.1];omega
 ·rw[Int.mul_comm b.1,Int.mul_comm b.2.1];omega
theorem zAS(a b:V3)(n:Int):dt a (sc b n)=dt a b * n:=by
 unfold dt sc;simp only[<-Int.mul_assoc,<-Int.add_mul]
theorem pk(a:V3)(m n:Int):sc (sc a m) n=sc (sc a n) m:=by
 unfold sc;simp only[Prod.mk.injEq,and_true];refine⟨?_,?_,?_⟩<;>rw[Int.mul_right_comm]
theorem Hn(a b:V3)(n:Int):ad (sc a n) (sc b n)=sc (ad a b) n:=by
 unfold ad sc;simp only[Int.add_mul]
theorem V0(a b:V3):ad a b=ad b a:=by
 unfold ad;simp only[Prod.mk.injEq,and_true];refine⟨?_,?_,?_⟩<;>omega
theorem QJ(a b c:V3):ad (ad a b) c=ad (ad a c) b:=by
 unfold ad;simp only[Prod.mk.injEq,and_true];refine⟨?_,?_,?_⟩<;>omega
theorem zDT(p q r:Pln):det p r q = - det p q r:=by
 unfold det;rw[Y5 q.1 r.1,zAS];omega
theorem zDU(p q r:Pln):det q p r = - det p q r:=by
 rw[mR q p r,mR p q r,Y5 p.1 q.1,zAS];omega
theorem zCj(p q r:Pln):num p r q=sc (num p q r) (-1):=by
 unfold num;rw[Y5 q.1 r.1,Y5 p.1 q.1,Y5 r.1 p.1,pk (cr q.1 r.1),pk (cr p.1 q.1),pk (cr r.1 p.1),Hn,Hn,QJ]
theorem zCk(p q r:Pln):num q p r=sc (num p q r) (-1):=by
 unfold num;rw[Y5 q.1 r.1,Y5 p.1 q.1,Y5 r.1 p.1,pk (cr q.1 r.1),pk (cr p.1 q.1),pk (cr r.1 p.1),Hn,Hn,V0 (sc (cr r.1 p.1) q.2.1)]
theorem VI{v:V3}{w:Int}(h:w≠0):mkP (sc v (-1)) (-w)=mkP v w:=by
 have hg:Z1 (sc v (-1)) (-w)=Z1 v w:=by
  unfold Z1 sc;simp only[Int.natAbs_mul,Int.natAbs_neg];simp
 unfold mkP;simp only[hg];unfold sc;simp only[Int.mul_neg,Int.mul_one,Int.neg_neg];by_cases h1:w<0
 ·rw[zKv (by omega),zKu h1]
 ·rw[zKu (by omega),zKv h1]
theorem Qw{p q r p' q' r':Pln}(hd:det p' q' r' = - det p q r)(hn:num p' q' r'=sc (num p q r) (-1)):mt p' q' r'=mt p q r:=by
 unfold mt;rw[hd,hn];by_cases h:det p q r=0
 ·rw[zKu (by omega),zKu h]
 ·rw[zKv (by omega),zKv h,VI h]
def mtL:List Pln->Option Pnt
 | [p,q,r]=>mt p q r
 |_=>none
theorem MY{a b c d:α}(h:[a,b].Perm [c,d]):(a=c/\b=d)\/(a=d/\b=c):=by
 have hc:c∈[a,b]:=h.symm.subset (by simp)
 simp only[zKY,List.not_mem_nil,or_false]at hc;rcases hc with rfl|rfl
 ·have:=List.perm_singleton.1 h.cons_inv
  exact .inl ⟨rfl,by simpa using this⟩
 ·have:=List.perm_singleton.1 ((List.Perm.swap a c []).trans h).cons_inv
  exact .inr ⟨by simpa using this,rfl⟩
theorem NY{l l':List Pln}(h:l.Perm l'):mtL l=mtL l':=by
 induction h with
 |nil=>rfl
 |cons x h ih =>
  rename_i l1 l2;have kA:=h.length_eq
  match l1,l2,kA,h with
  | [a,b],[c,d],_,h =>
   rcases MY h with ⟨rfl,rfl⟩|⟨rfl,rfl⟩
   ·rfl
   ·exact Qw (zDT _ _ _) (zCj _ _ _)
  | [],[],_,_=>rfl
  | [_],[_],_,_=>rfl
  |_::_::_::_,_::_::_::_,_,_=>rfl
 |swap x y l =>
  match l with
  | [z]=>exact Qw (zDU _ _ _) (zCk _ _ _)
  | []=>rfl
  |_::_::_=>rfl
 |trans _ _ ih1 ih2=>exact ih1.trans ih2
theorem GD{l:List α}{a b:α}:(a,b)∈prs l↔[a,b].Sublist l:=by
 induction l with
 |nil=>simp[prs]
 |cons x l ih =>
  simp only[prs,zKd,List.mem_map,Prod.mk.injEq];constructor
  ·rintro(⟨s,h1,rfl,rfl⟩|h)
   ·exact List.Sublist.cons_cons _ (List.singleton_sublist.2 h1)
   ·exact(ih.1 h).cons _
  ·intro h
   cases h with
   |cons _ h=>exact .inr (ih.2 h)
   |cons_cons _ h=>exact .inl ⟨b,List.singleton_sublist.1 h,rfl,rfl⟩
theorem Et{l:List α}{a b c:α}:(a,b,c)∈tri l↔[a,b,c].Sublist l:=by
 induction l with
 |nil=>simp[tri]
 |cons x l ih =>
  simp only[tri,zKd,List.mem_map,Prod.mk.injEq];constructor
  ·rintro(⟨⟨s,t⟩,h1,rfl,h2⟩|h)
   ·cases h2
    exact List.Sublist.cons_cons _ (GD.1 h1)
   ·exact(ih.1 h).cons _
  ·intro h
   cases h with
   |cons _ h=>exact .inr (ih.2 h)
   |cons_cons _ h=>exact .inl ⟨(b,c),GD.2 h,rfl,rfl⟩
theorem uk{r:List Pln}{x:Pnt}:x∈crn r↔ins r x=true/\∃t∈tri r,mt t.1 t.2.1 t.2.2=some x:=by
 have key:∀(ts:List (Pln×Pln×Pln)) (l:List Pnt),x∈ts.foldl (kX r) l↔x∈l\/(ins r x=true/\∃t∈ts,mt t.1 t.2.1 t.2.2=some x):=by
  intro ts
  induction ts with
  |nil=>intro l;simp
  |cons t ts ih =>
   intro l;rw[List.foldl_cons,ih];have hs:x∈kX r l t↔x∈l\/(ins r x=true/\mt t.1 t.2.1 t.2.2=some x):=by
    unfold kX
    cases hm:mt t.1 t.2.1 t.2.2 with
    |none=>simp
    |some y =>
     simp only[zKr];by_cases hy:y∈l
     ·rw[zKu hy]
      constructor
      ·exact .inl
      ·rintro(h|⟨_,rfl⟩)
       ·exact h
       ·exact hy
     ·rw[zKv hy]
      cases hi:ins r y with
      |false =>
       rw[cond_false];constructor
       ·exact .inl
       ·rintro(h|⟨h1,rfl⟩)
        ·exact h
        ·rw[hi]at h1;cases h1
      |true =>
       rw[cond_true,zKd,List.mem_singleton];constructor
       ·rintro(h|rfl)
        ·exact .inl h
        ·exact .inr ⟨hi,rfl⟩
       ·rintro(h|⟨_,rfl⟩)
        ·exact .inl h
        ·exact .inr rfl
   rw[hs];simp only[zKY,exists_eq_or_imp];constructor
   ·rintro((h|⟨h1,h2⟩)|⟨h1,h2⟩)
    ·exact .inl h
    ·exact .inr ⟨h1,.inl h2⟩
    ·exact .inr ⟨h1,.inr h2⟩
   ·rintro(h|⟨h1,h2|h2⟩)
    ·exact .inl (.inl h)
    ·exact .inl (.inr ⟨h1,h2⟩)
    ·exact .inr ⟨h1,h2⟩
 unfold crn;rw[key];simp
theorem Mc{r r':List α}(h:r.Perm r'):∀ {s:List α},s.Sublist r->∃s':List α,s'.Perm s/\s'.Sublist r':=by
 induction h with
 |nil=>exact fun {s} hs=>⟨s,.refl _,hs⟩
 |cons x h ih =>
  intro s hs
  cases hs with
  |cons _ hs =>
   obtain⟨s',h1,h2⟩:=ih hs;exact⟨s',h1,h2.cons _⟩
  |cons_cons _ hs =>
   obtain⟨s',h1,h2⟩:=ih hs;exact⟨x::s',h1.cons _,h2.cons_cons _⟩
 |swap x y l =>
  intro s hs
  cases hs with
  |cons _ hs =>
   cases hs with
   |cons _ hs=>exact⟨_,.refl _,(hs.cons _).cons _⟩
   |cons_cons _ hs=>exact⟨_,.refl _,(hs.cons _).cons_cons _⟩
  |cons_cons _ hs =>
   cases hs with
   |cons _ hs=>exact⟨_,.refl _,(hs.cons_cons _).cons _⟩
   |cons_cons _ hs=>exact⟨_,.swap _ _ _,(hs.cons_cons _).cons_cons _⟩
 |trans _ _ ih1 ih2 =>
  intro s hs;obtain⟨s1,h1,h2⟩:=ih1 hs;obtain⟨s2,h3,h4⟩:=ih2 h2;exact⟨s2,h3.trans h1,h4⟩
theorem Nx{r r':List Pln}(h:r.Perm r'){x:Pnt}(hx:x∈crn r):x∈crn r':=by
 rw[uk]at hx |-;obtain⟨h1,⟨a,b,c⟩,h2,h3⟩:=hx;refine⟨?_,?_⟩
 ·unfold ins at h1 |-
  rw[List.all_eq_true]at h1 |-;exact fun p hp=>h1 p (h.symm.subset hp)
 ·obtain⟨l,g1,g2⟩:=Mc h (Et.1 h2)
  have kA:=g1.length_eq
  match l,kA,g1,g2 with
  | [a',b',c'],_,g1,g2=>exact⟨(a',b',c'),Et.2 g2,(NY g1).trans h3⟩
theorem Ip{r r':List Pln}(h:r.Perm r'):full r=full r':=by
 have key:∀ {r r':List Pln},r.Perm r'->full r=true->full r'=true:=by
  intro r r' h hf;unfold full at hf |-;rw[List.all_eq_true]at hf |-;intro p hp;have:=hf p (h.symm.subset hp)
  rw[List.any_eq_true]at this |-;obtain⟨x,h1,h2⟩:=this;exact⟨x,Nx h h1,h2⟩
 rw[Bool.eq_iff_iff];exact⟨key h,key h.symm⟩
theorem QF(a b:List Pln):apa a b=apa b a:=by
 unfold apa;rw[Bool.and_comm,Ip (List.Perm.append_right bx0 (List.perm_append_comm (l₁:=a) (l₂:=b)))]
abbrev SS(l:List Pln):Prop:=l.Pairwise LtP
abbrev SL(l:List Pln):Prop:=l.Pairwise fun p q=>¬LtP q p
theorem SS.eq{l m:List Pln}(hl:SS l)(hm:SS m)(h:∀p,p∈l↔p∈m):l=m:=by
 induction l generalizing m with
 |nil =>
  cases m with
  |nil=>rfl
  |cons q m=>have:=(h q).2 (by simp);cases this
 |cons p l ih =>
  cases m with
  |nil=>have:=(h p).1 (by simp);cases this
  |cons q m =>
   rw[SS,List.pairwise_cons]at hl hm;have cY:p=q:=by
    have h1:=(h p).1 (by simp)
    have h2:=(h q).2 (by simp)
    rcases zKY.1 h1 with rfl|h1
    ·rfl
    ·rcases zKY.1 h2 with rfl|h2
     ·rfl
     ·exact zKk (hl.1 q h2) fun k=>k.asym (hm.1 p h1)
   subst cY
   congr 1
   refine ih hl.2 hm.2 fun x=>?_
   constructor
   ·intro hx
    have:=(h x).1 (zKe _ hx);rcases zKY.1 this with rfl|h1
    ·exact zKk (hl.1 x hx) LtP.irr
    ·exact h1
   ·intro hx
    have:=(h x).2 (zKe _ hx);rcases zKY.1 this with rfl|h1
    ·exact zKk (hm.1 x hx) LtP.irr
    ·exact h1
theorem qJ{p x:Pln}:∀ {l:List Pln},x∈Kp p l↔x=p\/x∈l
 | []=>by simp[Kp]
 |q::l=>by
  unfold Kp;split
  ·rw[zKY,qJ,zKY]
   constructor
   ·rintro(h|h|h)
    ·exact .inr (.inl h)
    ·exact .inl h
    ·exact .inr (.inr h)
   ·rintro(h|h|h)
    ·exact .inr (.inl h)
    ·exact .inl h
    ·exact .inr (.inr h)
  ·rw[zKY]
theorem GZ{p:Pln}:∀ {l:List Pln},SL l->SL (Kp p l)
 | [],_=>by simp[Kp]
 |q::l,h=>by
  rw[SL,List.pairwise_cons]at h;unfold Kp;split
  ·rename_i hc
   rw[SL,List.pairwise_cons];refine⟨fun x hx=>?_,GZ h.2⟩
   rcases qJ.1 hx with rfl|hx
   ·exact fun k=>k.asym (J7.1 hc)
   ·exact h.1 x hx
  ·rename_i hc
   rw[SL,List.pairwise_cons];refine⟨fun x hx=>?_,by rw[List.pairwise_cons];exact h⟩
   have cY:¬LtP q p:=fun k=>hc (J7.2 k)
   rcases zKY.1 hx with rfl|oQ
   ·exact cY
   ·intro k
    have hxq:=h.1 x oQ;rcases LtP.tri p q with h1|h1|h1
    ·exact hxq (k.trans h1)
    ·exact hxq (h1 ▸ k)
    ·exact cY h1
theorem KJ{x:Pln}:∀ {l:List Pln},x∈Xr l↔x∈l
 | []=>by simp[Xr]
 |p::l=>by unfold Xr;rw[qJ,KJ,zKY]
theorem nZ:∀ {l:List Pln},SL (Xr l)
 | []=>by simp[Xr]
 |p::l=>GZ nZ
theorem BQ{p:Pln}:∀ {l:List Pln},(Kp p l).length=l.length+1
 | []=>rfl
 |q::l=>by unfold Kp;split<;>simp[BQ]
theorem tx:∀ {l:List Pln},(Xr l).length=l.length
 | []=>rfl
 |p::l=>by unfold Xr;rw[BQ,tx];rfl
theorem pF:∀ {l:List Pln} {p:Pln},SL (p::l)->SS (p::Ju p l)/\∀x,x∈p::Ju p l↔x∈p::l
 | [],p,_=>⟨by simp[Ju],fun x=>by simp[Ju]⟩
 |q::l,p,h=>by
  rw[SL,List.pairwise_cons]at h;obtain⟨h1,h2⟩:=pF h.2;unfold Ju;split
  ·rename_i e
   subst e;refine⟨h1,fun x=>?_⟩
   rw[h2,zKY (l:=q::l)];simp
  ·rename_i e
   refine⟨?_,fun x=>?_⟩
   ·rw[SS,List.pairwise_cons]
    refine⟨fun x hx=>?_,h1⟩
    have cY:LtP p q:=by
     rcases LtP.tri p q with k|k|k
     ·exact k
     ·exact zKk k.symm e
     ·exact zKk k (h.1 q (by simp))
    rcases zKY.1 hx with rfl|hx'
    ·exact cY
    ·exact cY.trans ((List.pairwise_cons.1 h1).1 x hx')
   ·rw[zKY,h2,<-zKY]
theorem Br{l:List Pln}(h:SL l):SS (cpc l)/\∀x,x∈cpc l↔x∈l:=by
 cases l with
 |nil=>exact⟨by simp[cpc],fun x=>by simp[cpc]⟩
 |cons p l=>exact pF h
def Yp(p:Pln):List Pln->List Pln
 | []=>[p]
 |q::l=>if Yq q p<0 then q::Yp p l else if q=p then q::l else p::q::l
theorem qF{p x:Pln}:∀ {l:List Pln},x∈Yp p l↔x=p\/x∈l
 | []=>by simp[Yp]
 |q::l=>by
  unfold Yp;split
  ·rw[zKY,qF,zKY]
   constructor
   ·rintro(h|h|h)
    ·exact .inr (.inl h)
    ·exact .inl h
    ·exact .inr (.inr h)
   ·rintro(h|h|h)
    ·exact .inr (.inl h)
    ·exact .inl h
    ·exact .inr (.inr h)
  ·split
   ·rename_i e;subst e;simp
   ·rw[zKY]
theorem GC{p:Pln}:∀ {l:List Pln},SS l->SS (Yp p l)
 | [],_=>by simp[Yp]
 |q::l,h=>by
  rw[SS,List.pairwise_cons]at h;unfold Yp;split
  ·rename_i hc
   rw[SS,List.pairwise_cons];refine⟨fun x hx=>?_,GC h.2⟩
   rcases qF.1 hx with rfl|hx
   ·exact J7.1 hc
   ·exact h.1 x hx
  ·rename_i hc
   split
   ·rw[SS,List.pairwise_cons];exact h
   ·rename_i e
    have cY:LtP p q:=by
     rcases LtP.tri p q with k|k|k
     ·exact k
     ·exact zKk k.symm e
     ·exact zKk (J7.2 k) hc
    rw[SS,List.pairwise_cons];refine⟨fun x hx=>?_,by rw[List.pairwise_cons];exact h⟩
    rcases zKY.1 hx with rfl|hx
    ·exact cY
    ·exact cY.trans (h.1 x hx)
theorem Ar{p:Pln}:∀ {l:List Pln},(Yp p l).length<=l.length+1
 | []=>by simp[Yp]
 |q::l=>by
  have:=Ar (p:=p) (l:=l);unfold Yp;split
  ·simp only[zKc];omega
  ·split<;>simp
theorem NB(l:List Pln):l.foldl (fun m p=>Yp p m) []=cpc (Xr l):=by
 have key:∀(l m:List Pln),SS m->SS (l.foldl (fun m p=>Yp p m) m)/\∀x,x∈l.foldl (fun m p=>Yp p m) m↔x∈l\/x∈m:=by
  intro l
  induction l with
  |nil=>intro m hm;exact⟨hm,fun x=>by simp⟩
  |cons p l ih =>
   intro m hm;obtain⟨h1,h2⟩:=ih (Yp p m) (GC hm);refine⟨h1,fun x=>?_⟩
   rw[List.foldl_cons,h2,qF,zKY];constructor
   ·rintro(h|h|h)
    ·exact .inl (.inr h)
    ·exact .inl (.inl h)
    ·exact .inr h
   ·rintro((h|h)|h)
    ·exact .inr (.inl h)
    ·exact .inl h
    ·exact .inr (.inr h)
 obtain⟨h1,h2⟩:=key l [] (by simp)
 obtain⟨h3,h4⟩:=Br (nZ (l:=l));refine SS.eq h1 h3 fun p=>?_
 rw[h2,h4,KJ];simp
theorem IK(a b:Int):(Zd a b).val=some (if a<b then -1 else if b<a then 1 else 0,()):=by
 unfold Zd;by_cases h1:a<b
 ·rw[zKu (by rw[zH];exact h1),zKu h1,Comp.zB]
 ·rw[zKv (by rw[zH];exact h1),zKv h1]
  by_cases h2:b<a
  ·rw[zKu (by rw[ya];exact h2),zKu h2,Comp.zB]
  ·rw[zKv (by rw[ya];exact h2),zKv h2,Comp.zB]
def MH:List (Int×Int)->Int
 | []=>0
 |x::l=>if x.1<x.2 then -1 else if x.2<x.1 then 1 else MH l
theorem RQ(p q:Pln):Yq p q=MH [(p.1.1,q.1.1),(p.1.2.1,q.1.2.1),(p.1.2.2.1,q.1.2.2.1),(p.2.1,q.2.1)]:=rfl
theorem AO(p q:Pln):(kF p q).val=some (Yq p q,()):=by
 unfold kF;rw[RQ];generalize hl:[(p.1.1,q.1.1),(p.1.2.1,q.1.2.1),(p.1.2.2.1,q.1.2.2.1),(p.2.1,q.2.1)]=l;have hm:[[p.1.1,q.1.1],[p.1.2.1,q.1.2.1],[p.1.2.2.1,q.1.2.2.1],[p.2.1,q.2.1]]=l.map fun x=>[x.1,x.2]:=by rw[<-hl];rfl
 have kA:l.length=4:=by rw[<-hl];rfl
 rw[hm];have key:∀(ys zs:List (Int×Int)),l=zs++ys->(Comp.loop
     (fun (x:Int×Int)=>if ltI x.2 (zF (l.map fun x=>[x.1,x.2]))=true then
       (idx (l.map fun x=>[x.1,x.2]) x.2).bind fun x_1=>(idx x_1 0).bind fun x_2=>(idx x_1 1).bind fun x_3=>(Go.F.Zd x_2 x_3).bind fun x_4=>if eqI x_4.1 0=true then Comp.pure (.next (x_4.1,zJ .i64 x.2 1)) else Comp.pure (.done x_4.1)
      else Comp.pure (.done x.1)) (0,(zs.length:Int))).val=some (MH ys):=by
  intro ys
  induction ys with
  |nil =>
   intro zs hx;rw[zO,zKv (by rw[zH,zC,List.length_map,hx];simp),Comp.zB];rfl
  |cons y ys ih =>
   intro zs hx;have hy:(l.map fun x=>[x.1,x.2])[zs.length]?=some [y.1,y.2]:=by rw[hx];simp
   have gF:=zM hy;rw[List.length_map]at gF;have i0:(idx [y.1,y.2] 0).val=some y.1:=Kk rfl
   have i1:(idx [y.1,y.2] 1).val=some y.2:=Kk rfl;rw[zO,zKu (by rw[zH,zC,List.length_map];show (zs.length:Int)<_;omega),zA,zQ hy,zKS,zA,i0,zKS,zA,i1,zKS,zA,IK,zKS]
   unfold MH;by_cases h1:y.1<y.2
   ·rw[zKu h1,zKv (by rw[yA];show ¬((-1:Int)=0);decide),Comp.zB,zKu h1];rfl
   ·rw[zKv h1]
    by_cases h2:y.2<y.1
    ·rw[zKu h2,zKv (by rw[yA];show ¬((1:Int)=0);decide),Comp.zB,zKv h1,zKu h2];rfl
    ·rw[zKv h2,zKu (by rw[yA]),Comp.zB,zKv h1,zKv h2,zL (by omega),zKS]
     have:=ih (zs++[y]) (by rw[hx];simp)
     simpa using this
 rw[zA];refine(zKl (fun o=>Option.bind o _) (key l [] rfl)).trans ?_
 rw[zKS,Comp.zB]
theorem Mq{l:List Pln}(h:l.length<=LIM):(z7 l fun z=>kF z.1 z.2.1).val=some (Xr l):=by
 unfold z7 CJ;rw[zKu ⟨h,fun x y=>vN.1 (AO x y)⟩,Comp.zB]
theorem zGv(x y:Pln):adB (adB (eqI x.1.1 y.1.1) (adB (eqI x.1.2.1 y.1.2.1) (eqI x.1.2.2.1 y.1.2.2.1))) (eqI x.2.1 y.2.1)=decide (x=y):=by
 obtain⟨⟨a,b,c,u⟩,d,v⟩:=x;obtain⟨⟨a',b',c',u'⟩,d',v'⟩:=y;unfold eqI adB;simp only;rw[Bool.eq_iff_iff];simp[Prod.ext_iff]
def zGw(x y:Pln):Bool:=adB (adB (eqI x.1.1 y.1.1) (adB (eqI x.1.2.1 y.1.2.1) (eqI x.1.2.2.1 y.1.2.2.1))) (eqI x.2.1 y.2.1)
theorem VT(x y:Pln):zGw x y=decide (x=y):=zGv x y
theorem AP{l:List Pln}(hl:l.length<9223372036854775807):(yB l).val=some (cpc l):=by
 have e:yB l=zEN zGw ((0,0,0,()),0,()) l:=by
  kernel_rfl
 rw[e];exact Vh VT hl
def onn(p:Pln)(X:List Pnt):Nat:=(X.filter fun x=>decide (rm p x=0)).length
def fac(c:List Pln):List Pln:=c.filter fun p=>decide (3<=onn p (crn (c++bx0)))
def ln(c:List Pln):List Pln:=bif ful c then cpc (Xr (fac c)) else []
theorem pD{c:List Pln}(h:c.length<=48):(crn (c++bx0)).length<=1000000000:=by
 refine zKb (mS _) (zKb (Kc _) ?_);have:(c++bx0).length<=1000:=by simp[bx0];omega
 exact Nat.mul_le_mul this (Nat.mul_le_mul this this)
theorem DD{c:List Pln}(h:chk c=0):(Yz c).val=some (crn (c++bx0),()):=by
 obtain⟨h1,h2⟩:=Ye h;unfold Yz;rw[zA,YU _ (by simp),zKS]
 simp only[List.all_cons,List.all_nil,Bool.and_true,yQ];rw[zKv (by simp[h]),zA,yc (by simp) (by simp;omega),zKS,zA]
 simp only[List.flatten_cons,List.flatten_nil,List.append_nil];rw[wY (by simp[bx0];omega) (fun p hp=>(zKd.1 hp).elim (h2 p) (qx p)),zKS,Comp.zB]
theorem lx{c:List Pln}(h:chk c=0):(jF c).val=some (crn (c++bx0),()):=by
 obtain⟨h1,h2⟩:=Ye h;unfold jF;rw[zA,ju,zKS,zKv (by rw[zj];simp[h]),zA,qE (by omega),zKS,zA,
  J9 (by simp[bx0];omega) (fun p hp=>(zKd.1 hp).elim (h2 p) (qx p)),zKS,Comp.zB]
theorem Ii{p:Pln}{X:List Pnt}(hX:X.length<=1000000000):(j0 p X).val=some (decide (onn p X<3),()):=by
 unfold j0;have h1:=ZB (σ:=Int) X.length (fun k n=>match X[k]? with|some x=>if rm p x=0 then n+1 else n|none=>n) (fun k n=>n+(onn p (X.drop k):Nat)) (fun n k=>0<=n/\n<=k)
  (body:=(fun (x:Int×Int)=>if ltI x.2 (zF X)=true then
       (idx X x.2).bind fun x_1=>(Go.F.ZY p x_1).bind fun x_2=>jn (fun (x_3:Int)=>Comp.pure (.next (x_3,zJ .i64 x.2 1))) fun (j:Int->Comp (Comp.Step (Int×Int) Int))=>if eqI x_2.1 0=true then j (zJ .i64 x.1 1) else j x.1
      else Comp.pure (.done x.1)))
  (fun n k hk hI=>by
   obtain⟨x,hx⟩:=zR (xs:=X) (k:=k) hk;refine⟨?_,?_,?_⟩
   ·rw[hx]
    simp only;rw[zKu (by rw[zH,zC];show (k:Int)<_;omega),zA,zQ hx,zKS,zA,qC,zKS,vR]
    by_cases h:rm p x=0
    ·rw[zKu (by rw[yA];exact h),zKu h,Comp.zB,zL (by omega),yh (by omega)]
    ·rw[zKv (by rw[yA];exact h),zKv h,Comp.zB,zL (by omega)]
   ·rw[hx]
    simp only;split<;>omega
   ·rw[drop_cons hx,hx]
    unfold onn;by_cases h:rm p x=0
    ·simp only[List.filter_cons,h,decide_true,if_true,zKc];omega
    ·simp[List.filter_cons,h])
  (fun n=>by rw[zKv (by rw[zH,zC];simp),Comp.zB]) (fun n=>by rw[List.drop_length];simp[onn]) 0 0 (Nat.zero_le _) (by omega)
 rw[zA];refine(zKl (fun o=>Option.bind o _) h1).trans ?_
 rw[zKS,Comp.zB]
 congr 2
 unfold ltI;rw[List.drop_zero,Int.zero_add];by_cases h:onn p X<3
 ·rw[zKx h,zKx (by omega)]
 ·rw[zKw h,zKw (by omega)]
theorem mO{c:List Pln}:(fac c).length<=c.length:=List.length_filter_le _ _
theorem KN(c:List Pln):(ga c).val=some (ln c,()):=by
 unfold ga ln;rw[zA,Za,zKS,yQ]
 cases hf:ful c with
 |false=>rw[zKu (by simp),Comp.zB];rfl
 |true =>
  have hc:chk c=0:=by
   unfold ful at hf;rw[zKU]at hf;simpa using hf.1
  obtain⟨h1,h2⟩:=Ye hc;have hX:=pD h1
  have hL:=YP;have e1:(yX c).val=some (c,()):=Gt (by unfold LIM;omega)
  have e2:(yG c fun z=>j0 z.1 (crn (c++bx0))).val=some (fac c):=by
   refine(Gm (z:=((0,0,0,()),0,())) (f:=fun z=>j0 z.1 (crn (c++bx0))) (p:=fun p=>decide (onn p (crn (c++bx0))<3)) (by omega) fun p _=>Ii hX).trans ?_
   unfold fac
   congr 2
   funext p
   by_cases h:onn p (crn (c++bx0))<3
   ·rw[zKx h,zKw (by omega)];rfl
   ·rw[zKw h,zKx (by omega)];rfl
  rw[zKv (by simp),zA,DD hc,zKS,zA,e1,zKS,zA,e2,zKS,zA,Mq (by have:=mO (c:=c);unfold LIM;omega),zKS,zA,
   AP (by rw[tx];have:=mO (c:=c);omega),zKS,Comp.zB]
  rfl
theorem pP(p q:Pln):(y8 p q).val=some (Yq p q,()):=by
 unfold y8;rw[RQ];generalize hl:[(p.1.1,q.1.1),(p.1.2.1,q.1.2.1),(p.1.2.2.1,q.1.2.2.1),(p.2.1,q.2.1)]=l;have hm1:[p.1.1,p.1.2.1,p.1.2.2.1,p.2.1]=l.map fun x=>x.1:=by rw[<-hl];rfl
 have hm2:[q.1.1,q.1.2.1,q.1.2.2.1,q.2.1]=l.map fun x=>x.2:=by rw[<-hl];rfl
 have kA:l.length=4:=by rw[<-hl];rfl
 rw[hm1,hm2];have key:∀(ys zs:List (Int×Int)),l=zs++ys->∃r:Unit⊕Int,(match r with|.inl _=>0|.inr n=>n)=MH ys/\(Comp.loop
     (fun (x:Int)=>if ltI x 4=true then
       (idx (l.map fun x=>x.1) x).bind fun x_1=>(idx (l.map fun x=>x.2) x).bind fun x_2=>if ltI x_1 x_2=true then Comp.pure (.done (Sum.inr (-1)))
         else
          (idx (l.map fun x=>x.1) x).bind fun x_3=>(idx (l.map fun x=>x.2) x).bind fun x_4=>if gtI x_3 x_4=true then Comp.pure (.done (Sum.inr 1)) else Comp.pure (.next (zJ .i64 x 1))
      else Comp.pure (.done (Sum.inl ()))) (zs.length:Int)).val=some r:=by
  intro ys
  induction ys with
  |nil =>
   intro zs hx;have hz:zs.length=4:=by rw[<-kA,hx];simp
   exact⟨.inl (),rfl,by rw[zO,zKv (by rw[zH];omega),Comp.zB];exact zKS ..⟩
  |cons y ys ih =>
   intro zs hx;have hz:zs.length<4:=by rw[<-kA,hx];simp
   have i1:(idx (l.map fun x=>x.1) (zs.length:Int)).val=some y.1:=zQ (by rw[hx];simp)
   have i2:(idx (l.map fun x=>x.2) (zs.length:Int)).val=some y.2:=zQ (by rw[hx];simp)
   unfold MH;by_cases h1:y.1<y.2
   ·refine⟨.inr (-1),by rw[zKu h1],?_⟩
    rw[zO,zKu (by rw[zH];omega),zA,i1,zKS,zA,i2,zKS,zKu (by rw[zH];exact h1),Comp.zB];rfl
   ·by_cases h2:y.2<y.1
    ·refine⟨.inr 1,by rw[zKv h1,zKu h2],?_⟩
     rw[zO,zKu (by rw[zH];omega),zA,i1,zKS,zA,i2,zKS,zKv (by rw[zH];exact h1),zA,i1,zKS,zA,i2,zKS,zKu (by rw[ya];exact h2),Comp.zB];rfl
    ·obtain⟨r,h3,h4⟩:=ih (zs++[y]) (by rw[hx];simp)
     refine⟨r,by rw[zKv h1,zKv h2];exact h3,?_⟩
     rw[zO,zKu (by rw[zH];omega),zA,i1,zKS,zA,i2,zKS,zKv (by rw[zH];exact h1),zA,i1,zKS,zA,i2,zKS,zKv (by rw[ya];exact h2),Comp.zB,zL (by omega),zKS]
     simpa using h4
 obtain⟨r,h3,h4⟩:=key l [] rfl;rw[zA];refine(zKl (fun o=>Option.bind o _) h4).trans ?_
 rw[zKS,<-h3];cases r<;>exact Comp.zB _
def bef(p:Pln):List Pln->Nat
 | []=>0
 |q::l=>if Yq q p<0 then bef p l+1 else 0
theorem RW{p:Pln}:∀ {l:List Pln},bef p l<=l.length
 | []=>zKW _
 |q::l=>by
  have:=RW (p:=p) (l:=l);unfold bef;split<;>simp only[zKc]<;>omega
theorem As{p:Pln}:∀ {l:List Pln},Yp p l=if l[bef p l]?=some p then l else l.take (bef p l)++p::l.drop (bef p l)
 | []=>rfl
 |q::l=>by
  have ih:=As (p:=p) (l:=l);unfold Yp bef;split
  ·rw[ih]
   simp only[List.getElem?_cons_succ,List.take_succ_cons,List.drop_succ_cons,List.cons_append];split<;>rfl
  ·simp only[List.getElem?_cons_zero,zKr,List.take_zero,List.drop_zero,List.nil_append]
theorem Mz{l:List Pln}{p:Pln}(hl:l.length<=1000000):(jO l p).val=some (Yp p l,()):=by
 have hL:=YP;unfold jO;have key:∀(ys zs:List Pln),l=zs++ys->(Comp.loop
     (fun (x:Int)=>(Comp.gd (ltI x (zF l)) (idx l x) ((0,0,0,()),0,())).bind fun x_1=>(Comp.gd (ltI x (zF l)) (Go.F.y8 x_1 p) (0,())).bind fun x_2=>if sel (ltI x (zF l)) (ltI x_2.1 0) false=true then Comp.pure (.next (zJ .i64 x 1)) else Comp.pure (.done x))
     (zs.length:Int)).val=some (((zs.length+bef p ys:Nat)):Int):=by
  intro ys
  induction ys with
  |nil =>
   intro zs hx;have h1:ltI (zs.length:Int) (zF l)=false:=by unfold ltI;rw[zKw];rw[zC,hx];simp
   rw[zO];simp only[h1];rw[zA];show Option.bind (Option.bind (Comp.pure _).val _) _=_
   rw[Comp.zB,zKS,zA];show Option.bind (Option.bind (Comp.pure _).val _) _=_
   rw[Comp.zB,zKS];rw[zKv (by simp[sel]),Comp.zB,zKS]
   rfl
  |cons y ys ih =>
   intro zs hx;have hy:l[zs.length]?=some y:=by rw[hx];simp
   have gF:=zM hy;have h1:ltI (zs.length:Int) (zF l)=true:=by rw[zH,zC];omega
   rw[zO];simp only[h1];rw[zA];show Option.bind (Option.bind (idx l (zs.length:Int)).val _) _=_
   rw[zQ hy,zKS,zA];show Option.bind (Option.bind (y8 y p).val _) _=_
   rw[pP,zKS];unfold bef;by_cases h2:Yq y p<0
   ·rw[zKu (by show sel true (ltI (Yq y p) 0) false=true;show ltI (Yq y p) 0=true;rw[zH];exact h2),zKu h2,Comp.zB,zL (by omega),zKS]
    have:=ih (zs++[y]) (by rw[hx];simp)
    simp only[zKV,zKX]at this;rw[show zs.length+(bef p ys+1)=zs.length+1+bef p ys by omega]
    exact this
   ·rw[zKv (by show ¬sel true (ltI (Yq y p) 0) false=true;show ¬ltI (Yq y p) 0=true;rw[zH];exact h2),zKv h2,Comp.zB,zKS]
    rfl
 have h1:=key l [] rfl;simp only[List.length_nil,Nat.zero_add]at h1;have hb:=RW (p:=p) (l:=l)
 rw[zA];refine(zKl (fun o=>Option.bind o _) h1).trans ?_
 rw[zKS,As];have tail:((sub l 0 ((bef p l:Nat):Int)).bind fun x_2=>(app [] x_2).bind fun zs=>(app zs [p]).bind fun zs=>(sub l ((bef p l:Nat):Int) (zF l)).bind fun x=>(app zs x).bind fun zs=>(Comp.pure (zs,()):Comp (List Pln×Unit))).val=some (l.take (bef p l)++p::l.drop (bef p l),()):=by
  have s1:(sub l 0 ((bef p l:Nat):Int)).val=some (l.take (bef p l)):=by rw[YK (by omega)];simp
  rw[zA,s1,zKS,zA,yP (by simp;unfold LIM;omega),zKS,zA,yP (by simp;unfold LIM;omega),zKS,zA,nJ hb,zKS,zA,
   yP (by simp;unfold LIM;omega),zKS,Comp.zB]
  simp
 by_cases gF:bef p l<l.length
 ·obtain⟨y,hy⟩:=zR (xs:=l) (k:=bef p l) gF
  have h2:ltI ((bef p l:Nat):Int) (zF l)=true:=by rw[zH,zC];omega
  rw[h2,zA];show Option.bind (idx l ((bef p l:Nat):Int)).val _=_
  rw[zQ hy,zKS,hy];have he:=zGv y p
  by_cases hp:y=p
  ·rw[zKu (by show sel true _ false=true;show (adB _ _)=true;rw[he];exact zKx hp),zKu (by rw[hp]),Comp.zB]
  ·rw[zKv (by show ¬sel true _ false=true;show ¬(adB _ _)=true;rw[he];simp[hp]),zKv (by simp[hp])]
   exact tail
 ·have h2:ltI ((bef p l:Nat):Int) (zF l)=false:=by unfold ltI;rw[zKw];rw[zC];omega
  rw[h2,zA];show Option.bind (Comp.pure _).val _=_
  rw[Comp.zB,zKS,zKv (by simp[sel]),zKv (by rw[List.getElem?_eq_none (by omega)];simp)]
  exact tail
theorem Uc{i:Nat}{c:List Pln}{p:Pln}(hp:c[i]?=some p){X:List Pnt}(hX:X.length<=1000000000):(Comp.loop
             (fun (x_2:Int×Int)=>if ltI x_2.2 (zF X)=true then
               (idx c (i:Int)).bind fun x=>(idx X x_2.2).bind fun x_3=>(Go.F.zd x x_3).bind fun x=>jn (fun (x:Int)=>Comp.pure (.next (x,zJ .i64 x_2.2 1)))
                   fun (j:Int->Comp (Comp.Step (Int×Int) Int))=>if eqI x.1 0=true then j (zJ .i64 x_2.1 1) else j x_2.1
              else Comp.pure (.done x_2.1))
             (0,0)).val=some ((onn p X:Nat):Int):=by
 have h1:=ZB (σ:=Int) X.length (fun k n=>match X[k]? with|some x=>if rm p x=0 then n+1 else n|none=>n) (fun k n=>n+(onn p (X.drop k):Nat)) (fun n k=>0<=n/\n<=k)
  (body:=(fun (x_2:Int×Int)=>if ltI x_2.2 (zF X)=true then
               (idx c (i:Int)).bind fun x=>(idx X x_2.2).bind fun x_3=>(Go.F.zd x x_3).bind fun x=>jn (fun (x:Int)=>Comp.pure (.next (x,zJ .i64 x_2.2 1)))
                   fun (j:Int->Comp (Comp.Step (Int×Int) Int))=>if eqI x.1 0=true then j (zJ .i64 x_2.1 1) else j x_2.1
              else Comp.pure (.done x_2.1)))
  (fun n k hk hI=>by
   obtain⟨x,hx⟩:=zR (xs:=X) (k:=k) hk;refine⟨?_,?_,?_⟩
   ·rw[hx]
    simp only;rw[zKu (by rw[zH,zC];show (k:Int)<_;omega),zA,zQ hp,zKS,zA,zQ hx,zKS,zA,K3,zKS,vR]
    by_cases h:rm p x=0
    ·rw[zKu (by rw[yA];exact h),zKu h,Comp.zB,zL (by omega),yh (by omega)]
    ·rw[zKv (by rw[yA];exact h),zKv h,Comp.zB,zL (by omega)]
   ·rw[hx]
    simp only;split<;>omega
   ·rw[drop_cons hx,hx]
    unfold onn;by_cases h:rm p x=0
    ·simp only[List.filter_cons,h,decide_true,if_true,zKc];omega
    ·simp[List.filter_cons,h])
  (fun n=>by rw[zKv (by rw[zH,zC];simp),Comp.zB]) (fun n=>by rw[List.drop_length];simp[onn]) 0 0 (Nat.zero_le _) (by omega)
 rw[List.drop_zero,Int.zero_add]at h1;exact h1
theorem XD(c:List Pln):(zm c).val=some (ln c,()):=by
 unfold zm ln;rw[zA,YQ,zKS,yQ]
 cases hf:ful c with
 |false=>rw[zKu (by simp),Comp.zB];rfl
 |true =>
  have hc:chk c=0:=by
   unfold ful at hf;rw[zKU]at hf;simpa using hf.1
  obtain⟨h1,h2⟩:=Ye hc;have hX:=pD h1
  have hL:=YP;rw[zKv (by simp),zA,lx hc,zKS]
  have h3:=ZB c.length (fun k l=>match c[k]? with|some p=>if 3<=onn p (crn (c++bx0)) then Yp p l else l|none=>l) (fun k l=>((c.drop k).filter fun p=>decide (3<=onn p (crn (c++bx0)))).foldl (fun m p=>Yp p m) l) (fun l k=>l.length<=k)
   (body:=(fun (x_1:List (Pln)×Int)=>if ltI x_1.2 (zF c)=true then
          (Comp.loop
             (fun (x_2:Int×Int)=>if ltI x_2.2 (zF (crn (c++bx0)))=true then
               (idx c x_1.2).bind fun x=>(idx (crn (c++bx0)) x_2.2).bind fun x_3=>(Go.F.zd x x_3).bind fun x=>jn (fun (x:Int)=>Comp.pure (.next (x,zJ .i64 x_2.2 1)))
                   fun (j:Int->Comp (Comp.Step (Int×Int) Int))=>if eqI x.1 0=true then j (zJ .i64 x_2.1 1) else j x_2.1
              else Comp.pure (.done x_2.1))
             (0,0)).bind fun x=>jn (fun (x:List (Pln))=>Comp.pure (.next (x,zJ .i64 x_1.2 1)))
            fun (j :
              List (Pln)->Comp (Comp.Step (List (Pln)×Int) (List (Pln)))) =>
            if geI x 3=true then
             (idx c x_1.2).bind fun x=>(Go.F.jO x_1.1 x).bind fun x=>j x.1
            else j x_1.1
         else Comp.pure (.done x_1.1)))
   (fun l k hk hI=>by
    obtain⟨p,hp⟩:=zR (xs:=c) (k:=k) hk;refine⟨?_,?_,?_⟩
    ·rw[hp]
     simp only;rw[zKu (by rw[zH,zC];show (k:Int)<_;omega),zA]
     refine(zKl (fun o=>Option.bind o _) (Uc hp hX)).trans ?_
     rw[zKS,vR];by_cases h:3<=onn p (crn (c++bx0))
     ·rw[zKu (by rw[YA];omega),zKu h,zA,zQ hp,zKS,zA,Mz (by omega),zKS,Comp.zB,zL (by omega)]
     ·rw[zKv (by rw[YA];omega),zKv h,Comp.zB,zL (by omega)]
    ·rw[hp]
     simp only;have:=Ar (p:=p) (l:=l)
     split<;>omega
    ·rw[drop_cons hp,hp]
     by_cases h:3<=onn p (crn (c++bx0))
     ·simp[List.filter_cons,h]
     ·simp[List.filter_cons,h])
   (fun n=>by rw[zKv (by rw[zH,zC];simp),Comp.zB]) (fun n=>by rw[List.drop_length];rfl) 0 [] (Nat.zero_le _) (by simp)
  rw[zA];refine(zKl (fun o=>Option.bind o _) h3).trans ?_
  rw[zKS,Comp.zB,List.drop_zero,NB];rfl
abbrev Cell:=List Pln
def ja:List Cell->Int
 | []=>0
 |c::s=>if chk c=0 then ja s else chk c
def sck(s:List Cell):Int:=if 16<s.length then 2 else ja s
def sap(c:Cell)(s:List Cell):Bool:=s.all fun q=>apa c q
def jc(p:Pln):Pln:=((-p.1.1, -p.1.2.1, -p.1.2.2.1,()), -p.2.1,())
def gp:Cell->List Pln->List (Option Cell)
 |_,[]=>[]
 |rest,p::fs=>if 48<=rest.length then [none] else (bif decide (ln (rest++[jc p])=[]) then [] else [some (ln (rest++[jc p]))])++gp (ln (rest++[p])) fs
def jg:List (Option α)->Bool
 | []=>false
 |none::_=>true
 |some _::l=>jg l
def yg:List (Option α)->List α
 | []=>[]
 |none::l=>yg l
 |some x::l=>x::yg l
def wo(q:Cell):List Cell->List Cell->Option (List Cell)
 | [],out=>some out
 |x::xs,out=>if apa x q=true then wo q xs (out++[x]) else if jg (gp x (ln q))=true then none else wo q xs (out++yg (gp x (ln q)))
def wth(pieces:List Cell)(q:Cell):List Cell×Int :=
 if ful q=true then match wo q pieces [] with
  |none=>([],9)
  |some out=>if 200<out.length then ([],9) else (out,0)
 else (pieces,0)
def Xb:List Cell->List Cell->List Cell×Int
 |pcs,[]=>(pcs,0)
 |pcs,q::s=>if (wth pcs q).2=0 then Xb (wth pcs q).1 s else ([],(wth pcs q).2)
def mns(c:Cell)(s:List Cell):List Cell×Int:=if chk c=0 then if sck s=0 then if ful c=true then Xb [ln c] s else ([],0) else ([],sck s) else ([],chk c)
def cov(s:List Cell)(c:Cell):Bool×Int:=(decide ((mns c s).2=0) && decide ((mns c s).1.length=0),(mns c s).2)
theorem lP:∀ {fs:List Pln} {rest:Cell},(gp rest fs).length<=fs.length
 | [],_=>zKW _
 |p::fs,rest=>by
  have:=lP (fs:=fs) (rest:=ln (rest++[p]));unfold gp;split
  ·simp
  ·cases decide (ln (rest++[jc p])=[])<;>simp<;>omega
theorem JL:∀ {l:List (Option α)},(yg l).length<=l.length
 | []=>zKW _
 |none::l=>by have:=JL (l:=l);simp only[yg,zKc];omega
 |some _::l=>by have:=JL (l:=l);simp only[yg,zKc];omega
theorem zAH:∀ {fs:List Pln} {rest:Cell} {c:Cell},some c∈gp rest fs->c≠[]
 | [],_,_,h=>by cases h
 |p::fs,rest,c,h=>by
  unfold gp at h;split at h
  ·simp at h
  ·rw[zKd]at h
   rcases h with h|h
   ·by_cases he:ln (rest++[jc p])=[]
    ·rw[zKx he]at h;cases h
    ·rw[zKw he]at h
     simp only[cond_false,List.mem_singleton,zKr]at h;subst h;exact he
   ·exact zAH h
theorem qM [DecidableEq α]{y:α}:∀ {l:List α} {x:α},y∈Ju x l->y∈l
 | [],_,h=>h
 |z::l,x,h=>by
  unfold Ju at h;split at h
  ·exact zKe _ (qM h)
  ·rcases zKY.1 h with rfl|h
   ·simp
   ·exact zKe _ (qM h)
theorem Vj [DecidableEq α]{y:α}{l:List α}(h:y∈cpc l):y∈l:=by
 cases l with
 |nil=>exact h
 |cons x l =>
  rcases zKY.1 h with rfl|h
  ·simp
  ·exact zKe _ (qM h)
theorem VO{c:Cell}(h:ful c=true):chk c=0:=by
 unfold ful at h;rw[zKU]at h;simpa using h.1
theorem zGd{c:Cell}:(ln c).length<=48/\∀p∈ln c,okB p:=by
 unfold ln
 cases hf:ful c with
 |false=>simp
 |true =>
  obtain⟨h1,h2⟩:=Ye (VO hf);have h3:=mO (c:=c)
  refine⟨?_,fun p hp=>?_⟩
  ·have:=Gs (l:=Xr (fac c))
   rw[tx]at this;show (cpc (Xr (fac c))).length<=48
   omega
  ·have:=KJ.1 (Vj (show p∈cpc (Xr (fac c)) from hp))
   exact h2 p (List.mem_filter.1 this).1
theorem Ek{pieces:List Cell}{q:Cell}(h:pieces.length<=200):(wth pieces q).1.length<=200:=by
 unfold wth;split
 ·split
  ·simp
  ·split
   ·simp
   ·simp only;omega
 ·exact h
end Go.Geo
end
