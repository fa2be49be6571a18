/- Lemmas behind a claim. -/
import Derived.Test.YtknbpncolbmoaaaGreatKPsD
set_option linter.unusedSimpArgs false
set_option linter.unusedVariables false
open Go.Lift.Comp (zA Qo Xj zM vK)
section
namespace Go.Lift
open Go Go.Eng
variable {α β γ δ ε σ τ:Type}
namespace Comp
def ZO(f:σ->α->Step σ ε)(fin:σ->ε):σ->List α->ε
 |s,[]=>fin s
 |s,x::xs=>match f s x with
  |.next s'=>ZO f fin s' xs
  |.done e=>e
def Step.map(g:σ->τ):Step σ ε->Step τ ε
 |.next s=>.next (g s)
 |.done e=>.done e
theorem YX{body:τ->Comp (Step τ ε)}(st:σ->Nat->τ)(xs:List α)(f:σ->α->Step σ ε)(fin:σ->ε)(I:σ->Nat->Prop)
  (hb:∀s i x,xs[i]?=some x->I s i->(body (st s i)).val=some ((f s x).map fun s'=>st s' (i+1)))
  (hI:∀s i x s',xs[i]?=some x->I s i->f s x=.next s'->I s' (i+1))
  (he:∀s,I s xs.length->(body (st s xs.length)).val=some (.done (fin s))) (s:σ) (h0:I s 0):(loop body (st s 0)).val=some (ZO f fin s xs):=by
 have key:∀(ys zs:List α) (s:σ),xs=zs++ys->I s zs.length->(loop body (st s zs.length)).val=some (ZO f fin s ys):=by
  intro ys
  induction ys with
  |nil =>
   intro zs s hx hs;rw[zLx]at hx;subst hx;rw[zM,he s hs];rfl
  |cons y ys ih =>
   intro zs s hx hs;have hy:xs[zs.length]?=some y:=by rw[hx];simp
   rw[zM,hb s _ y hy hs];simp only[ZO,zLP]
   cases hf:f s y with
   |next s' =>
    simp only[Step.map];have:=ih (zs++[y]) s' (by rw[hx];simp) (by have:=hI s _ y s' hy hs hf;simpa using this)
    simpa using this
   |done e=>rfl
 exact key xs [] s rfl h0
theorem XU{f:σ->α->σ}{fin:σ->ε}:∀(xs:List α) (s:σ),ZO (fun s x=>.next (f s x)) fin s xs=fin (xs.foldl f s)
 | [],_=>rfl
 |x::xs,s=>by simp only[ZO,List.foldl_cons];exact XU xs (f s x)
end Comp
theorem zO{xs:List α}{i:Nat}{x:α}(h:xs[i]?=some x):(idx xs (i:Int)).val=some x:=by
 unfold idx;rw[zLr (by omega)];simp[h]
theorem KT{xs:List α}{i:Int}{x:α}(h0:0<=i)(h:xs[i.toNat]?=some x):(idx xs i).val=some x:=by
 unfold idx;rw[zLr h0];simp[h]
theorem yO{xs ys:List α}(h:xs.length+ys.length<=LIM):(app xs ys).val=some (xs++ys):=by
 unfold app;rw[zLr h];simp
theorem YK{xs:List α}{l h:Int}(hr:0<=l/\l<=h/\h<=xs.length):(sub xs l h).val=some ((xs.take h.toNat).drop l.toNat):=by
 unfold sub;rw[zLr hr];simp
theorem mk_val{n:Int}{z:α}(h:0<=n/\n<=LIM):(mk n z).val=some (List.replicate n.toNat z):=by
 unfold mk;rw[zLr h];simp
theorem Ur{xs:List α}{i:Int}{x:α}(h:0<=i/\i<xs.length):(upd xs i x).val=some (xs.set i.toNat x):=by
 unfold upd;rw[zLr h];simp
theorem Zn{a b:Int}(h:b≠0):(rem a b).val=some (a.tmod b):=by
 unfold rem;rw[zLs h];simp
theorem zK{xs:List α}{i:Nat}{x:α}(h:xs[i]?=some x):i<xs.length:=(zLX.1 h).1
def Ok(c:Comp α)(P:α->Prop):Prop:=∃a,c.val=some a/\P a
namespace Ok
theorem yZ{c:Comp α}{a:α}{P:α->Prop}(h:c.val=some a):Ok c P↔P a:=by
 constructor
 ·rintro⟨b,h1,h2⟩;rw[h]at h1;cases h1;exact h2
 ·exact fun hp=>⟨a,h,hp⟩
theorem val{c:Comp α}{a:α}(h:Ok c (fun x=>x=a)):c.val=some a:=by
 obtain⟨b,h1,h2⟩:=h;rw[h1,h2]
theorem mono{c:Comp α}{P Q:α->Prop}(h:Ok c P)(i:∀a,P a->Q a):Ok c Q:=by
 obtain⟨a,h1,h2⟩:=h;exact⟨a,h1,i a h2⟩
theorem pure{a:α}{P:α->Prop}:Ok (Comp.pure a) P↔P a:=yZ (Comp.zB a)
theorem bind{c:Comp α}{f:α->Comp β}{P:β->Prop}:Ok (c.bind f) P↔Ok c fun a=>Ok (f a) P:=by
 unfold Ok;rw[zA]
 cases hc:c.val with
 |none=>simp
 |some a=>simp
theorem zQ{c:Comp α}{a:α}(h:c.val=some a){f:α->Comp β}{P:β->Prop}:Ok (c.bind f) P↔Ok (f a) P:=by rw[bind,yZ h]
theorem gd{g:Bool}{c:Comp α}{d:α}{P:α->Prop}:Ok (Comp.gd g c d) P↔if g=true then Ok c P else P d:=by
 cases g with
 |true=>exact Iff.rfl
 |false=>exact pure
theorem Y1{g:Bool}{c:Comp α}{d:α}{P:α->Prop}(h1:g=true->Ok c P)(h2:g=false->P d):Ok (Comp.gd g c d) P:=by
 cases g with
 |true=>exact h1 rfl
 |false=>exact pure.2 (h2 rfl)
theorem idx{xs:List α}{i:Int}{P:α->Prop}{x:α}(h0:0<=i)(h:xs[i.toNat]?=some x):Ok (Lift.idx xs i) P↔P x:=yZ (KT h0 h)
theorem JH{xs:List α}{i:Nat}{P:α->Prop}{x:α}(h:xs[i]?=some x):Ok (Lift.idx xs (i:Int)) P↔P x:=yZ (zO h)
theorem app{xs ys:List α}{P:List α->Prop}(h:xs.length+ys.length<=LIM):Ok (Lift.app xs ys) P↔P (xs++ys):=yZ (yO h)
theorem sub{xs:List α}{l h:Int}{P:List α->Prop}(hr:0<=l/\l<=h/\h<=xs.length):Ok (Lift.sub xs l h) P↔P ((xs.take h.toNat).drop l.toNat):=yZ (YK hr)
theorem rem{a b:Int}{P:Int->Prop}(h:b≠0):Ok (Lift.rem a b) P↔P (a.tmod b):=yZ (Zn h)
theorem upd{xs:List α}{i:Int}{x:α}{P:List α->Prop}(h:0<=i/\i<xs.length):Ok (Lift.upd xs i x) P↔P (xs.set i.toNat x):=yZ (Ur h)
theorem mk{n:Int}{z:α}{P:List α->Prop}(h:0<=n/\n<=LIM):Ok (Lift.mk n z) P↔P (List.replicate n.toNat z):=yZ (mk_val h)
theorem loop{body:σ->Comp (Comp.Step σ ε)}(I:σ->Prop)(m:σ->Nat){P:ε->Prop}{s:σ}(h0:I s)
  (hb:∀s,I s->Ok (body s) fun t=>match t with|.next s'=>I s'/\m s'<m s|.done e=>P e):Ok (Comp.loop body s) P:=by
 have key:∀k s,m s=k->I s->Ok (Comp.loop body s) P:=by
  intro k
  induction k using Nat.strongRecOn with
  |_ k ih =>
   intro s hk hI;obtain⟨t,h1,h2⟩:=hb s hI
   cases t with
   |next s' =>
    obtain⟨e,h3,h4⟩:=ih (m s') (by have:=h2.2;omega) s' rfl h2.1
    exact⟨e,by rw[zM,h1];exact h3,h4⟩
   |done e=>exact⟨e,by rw[zM,h1];rfl,h2⟩
 exact key _ s rfl h0
theorem count{body:σ->Comp (Comp.Step σ ε)}(N:Nat)(I:Nat->σ->Prop){P:ε->Prop}{s:σ}(h0:I 0 s)
  (hb:∀i s,i<N->I i s->Ok (body s) fun t=>match t with|.next s'=>I (i+1) s'|.done e=>P e)
  (he:∀s,I N s->Ok (body s) fun t=>match t with|.next _=>False|.done e=>P e):Ok (Comp.loop body s) P:=by
 have key:∀k i s,i+k=N->I i s->Ok (Comp.loop body s) P:=by
  intro k
  induction k with
  |zero =>
   intro i s hi hI;have:i=N:=by omega
   subst this;obtain⟨t,h1,h2⟩:=he s hI
   cases t with
   |next _=>exact h2.elim
   |done e=>exact⟨e,by rw[zM,h1];rfl,h2⟩
  |succ k ih =>
   intro i s hi hI;obtain⟨t,h1,h2⟩:=hb i s (by omega) hI
   cases t with
   |next s' =>
    obtain⟨e,h3,h4⟩:=ih (i+1) s' (by omega) h2
    exact⟨e,by rw[zM,h1];exact h3,h4⟩
   |done e=>exact⟨e,by rw[zM,h1];rfl,h2⟩
 exact key N 0 s (by omega) h0
end Ok
end Go.Lift
end
section
namespace Go.Geo
open Go Go.Eng Go.Lift Go.Den
variable {α β γ δ ε σ τ:Type}
theorem zH{m n:Int}:(ltI m n=true)=(m<n):=by simp[ltI]
theorem yd{m n:Int}:(gtI m n=true)=(n<m):=by simp[gtI]
theorem Sw{m n:Int}:(leI m n=true)=(m<=n):=by simp[leI]
theorem Ye{m n:Int}:(geI m n=true)=(n<=m):=by simp[geI]
theorem yi{m n:Int}:(eqI m n=true)=(m=n):=by simp[eqI]
theorem z6{m n:Int}:(neI m n=true)=(m≠n):=by simp[neI]
theorem vk(f:α->Comp β)(g:(α->Comp β)->Comp β):jn f g=g f:=rfl
theorem yP(b:Bool):ntB b = !b:=rfl
theorem gx(a b:Bool):sel a true b=(a || b):=by cases a<;>rfl
theorem gy(a b:Bool):sel a b false=(a && b):=by cases a<;>rfl
theorem zC(xs:List α):zF xs=(xs.length:Int):=rfl
def W(n:Int):Int:=IntKind.wrap .i64 n
theorem IH(n:Int):W n=(n+9223372036854775808) % 18446744073709551616-9223372036854775808:=by
 unfold W;simp[IntKind.wrap,IntKind.bits,IntKind.signed];split<;>omega
theorem rS{n:Int}(h : -9223372036854775808<=n/\n<9223372036854775808):W n=n:=by rw[IH];omega
theorem zAK{m n:Int}(k:Int)(h:m=n+18446744073709551616 * k):W m=W n:=by rw[IH,IH];omega
theorem IF(n:Int):∃k,W n=n+18446744073709551616 * k:=⟨- ((n+9223372036854775808) / 18446744073709551616),by rw[IH];omega⟩
theorem Wm(m n:Int):W (W m+n)=W (m+n):=by
 obtain⟨k,h⟩:=IF m;exact zAK k (by rw[h];omega)
theorem Wl(m n:Int):W (m+W n)=W (m+n):=by
 obtain⟨k,h⟩:=IF n;exact zAK k (by rw[h];omega)
theorem HZ(m n:Int):W (W m-n)=W (m-n):=by
 obtain⟨k,h⟩:=IF m;exact zAK k (by rw[h];omega)
theorem HY(m n:Int):W (m-W n)=W (m-n):=by
 obtain⟨k,h⟩:=IF n;exact zAK (-k) (by rw[h];omega)
theorem zEb(m n:Int):zJ .i64 m n=W (m+n):=rfl
theorem Qt(m n:Int):gQ .i64 m n=W (m-n):=rfl
theorem RY(m n:Int):kV .i64 m n=W (m * n):=rfl
theorem zDj(m:Int):Yc .i64 m=W (-m):=by unfold Yc;rw[Int.zero_sub];rfl
theorem ye{m n:Int}(h : -9223372036854775808<=m+n/\m+n<9223372036854775808):zJ .i64 m n=m+n:=rS h
theorem YG{m n:Int}(h : -9223372036854775808<=m-n/\m-n<9223372036854775808):gQ .i64 m n=m-n:=rS h
theorem YI{m n:Int}(h : -9223372036854775808<=m * n/\m * n<9223372036854775808):kV .i64 m n=m * n:=rS h
theorem JW{m:Int}(h : -9223372036854775808<m/\m<9223372036854775808):Yc .i64 m = -m:=by rw[zDj];exact rS (by omega)
theorem zN{i:Nat}(h:i<9223372036854775807):zJ .i64 (i:Int) 1=((i+1:Nat):Int):=by rw[ye (by omega)];omega
theorem YP:LIM<9223372036854775807:=by decide
theorem jM{n:Nat}{m:Int}(h:0<=m/\m<n):(inb n m).val=some ():=by unfold inb;rw[zLr h];exact Comp.zB _
theorem Wh{e:Bool}{c:Comp β}{y:β}(h1:e=true->c.val=some y){d:Comp β}(h2:d.val=some y):(amb e c d).val=some y:=by
 cases e with
 |false=>exact h2
 |true =>
  obtain⟨n,hn⟩:=vK.1 (h1 rfl);obtain⟨m,hm⟩:=vK.1 h2;have a1:=c.mono (Nat.le_max_left n m) hn
  have a2:=d.mono (Nat.le_max_right n m) hm;refine vK.2 ⟨max n m,?_⟩
  show (match c.run (max n m),d.run (max n m) with
  |some x,some y=>match Classical.propDecidable (x=y) with
   |.isTrue _=>some x
   |.isFalse _=>none
  |_,_=>none)=some y
  rw[a1,a2];simp only;split
  ·rfl
  ·rename_i h _;exact zLh rfl h
theorem Kq{xs:List α}{i:Int}{x:α}(h:(if 0<=i then xs[i.toNat]? else none)=some x):(idx xs i).val=some x:=by
 split at h
 ·rename_i h0;exact KT h0 h
 ·cases h
theorem K7{body:τ->Comp (Comp.Step τ ε)}(st:σ->Nat->τ)(xs:List α)(f:σ->α->Comp.Step σ ε)(fin:σ->ε)(s:σ)
  (hb:∀s i x,xs[i]?=some x->(body (st s i)).val=some ((f s x).map fun s'=>st s' (i+1)))
  (he:∀s,(body (st s xs.length)).val=some (.done (fin s))):(Comp.loop body (st s 0)).val=some (Comp.ZO f fin s xs) :=
 Comp.YX st xs f fin (fun _ _=>True) (fun s i x hx _=>hb s i x hx) (fun _ _ _ _ _ _ _=>trivial) (fun s _=>he s) s trivial
theorem pL{p:α->Bool}{c d:ε}:∀(xs:List α),Comp.ZO (fun (_:Unit) x=>if p x=true then .next () else .done c) (fun _=>d) () xs=bif xs.all p then d else c
 | []=>rfl
 |x::xs=>by
  have ih:=pL (p:=p) (c:=c) (d:=d) xs;rw[Comp.ZO,List.all_cons];generalize p x=b
  cases b with
  |true=>exact ih
  |false=>rfl
theorem Zt{body:Int->Comp (Comp.Step Int ε)}(xs:List α)(p:α->Bool){c d:ε}(hb:∀(i:Nat) x,xs[i]?=some x->(body (i:Int)).val=some (if p x=true then .next ((i+1:Nat):Int) else .done c))(he:(body (xs.length:Int)).val=some (.done d)) :
  (Comp.loop body 0).val=some (bif xs.all p then d else c):=by
 have h1:=K7 (fun (_:Unit) i=>((i:Nat):Int)) xs (fun (_:Unit) x=>if p x=true then .next () else .done c) (fun _=>d) () (body:=body)
  (fun s i x hx=>by rw[hb i x hx];cases p x<;>rfl) (fun s=>he)
 rw[pL]at h1;exact h1
def fnd(p:α->Bool):List α->Nat->Option Nat
 | [],_=>none
 |x::xs,i=>if p x=true then some i else fnd p xs (i+1)
theorem mf{p:α->Bool}:∀ {xs:List α} {i:Nat},(fnd p xs i).isSome=xs.any p
 | [],_=>rfl
 |x::xs,i=>by
  simp only[fnd,List.any_cons]
  cases hp:p x with
  |true=>rfl
  |false=>simp[mf (xs:=xs)]
theorem Bw{p:α->Bool}:∀ {xs:List α} {i j:Nat},fnd p xs i=some j->i<=j/\∃x,xs[j-i]?=some x/\p x=true/\∀k y,k<j-i->xs[k]?=some y->p y=false
 | [],_,_,h=>by cases h
 |x::xs,i,j,h=>by
  unfold fnd at h;split at h
  ·rename_i hp
   cases h
   exact⟨zLT _,x,by simp,hp,fun k y hk _=>by omega⟩
  ·rename_i hp
   obtain⟨h1,y,h2,h3,h4⟩:=Bw h;refine⟨by omega,y,by rw[show j-i=(j-(i+1))+1 by omega,List.getElem?_cons_succ];exact h2,h3,fun k z hk hz=>?_⟩
   cases k with
   |zero=>simp at hz;subst hz;simpa using hp
   |succ k=>exact h4 k z (by omega) (by simpa using hz)
def H8(x0:List α)(x1:α×Unit->Comp (Bool×Unit)):Comp (Int×Unit) :=
 (Comp.loop
   (fun (x:Int)=>if ltI x (zF x0)=true then
     (idx x0 x).bind fun x_1=>(x1 (x_1,())).bind fun x_2=>if x_2.1=true then Comp.pure (.done (Sum.inr x)) else Comp.pure (.next (zJ .i64 x 1))
    else Comp.pure (.done (Sum.inl ())))
   0).bind fun (x:Unit⊕Int)=>match x with
  |Sum.inl x=>Comp.pure (-1,())
  |Sum.inr x=>Comp.pure (x,())
def W9:Option Nat->Int
 |some i=>i
 |none => -1
theorem Bs{xs:List α}{f:α×Unit->Comp (Bool×Unit)}{p:α->Bool}(hl:xs.length<9223372036854775807)(hf:∀x∈xs,(f (x,())).val=some (p x,())):(H8 xs f).val=some (W9 (fnd p xs 0),()):=by
 unfold H8;have key:∀(ys:List α) (i:Nat),Comp.ZO (fun (s:Nat) x=>if p x=true then .done (Sum.inr ((s:Nat):Int)) else .next (s+1)) (fun _=>(Sum.inl ():Unit⊕Int)) i ys=match fnd p ys i with|some j=>Sum.inr ((j:Nat):Int)|none=>Sum.inl ():=by
  intro ys
  induction ys with
  |nil=>intro i;rfl
  |cons y ys ih =>
   intro i;simp only[Comp.ZO,fnd]
   cases hp:p y with
   |true=>rfl
   |false=>exact ih (i+1)
 have h:=Comp.YX (fun (s:Nat) i=>((i:Nat):Int)) xs (fun (s:Nat) x=>if p x=true then .done (Sum.inr ((s:Nat):Int)) else .next (s+1)) (fun _=>(Sum.inl ():Unit⊕Int)) (fun s i=>s=i)
  (body:=fun (x:Int)=>if ltI x (zF xs)=true then
     (idx xs x).bind fun x_1=>(f (x_1,())).bind fun x_2=>if x_2.1=true then Comp.pure (.done (Sum.inr x)) else Comp.pure (.next (zJ .i64 x 1))
    else Comp.pure (.done (Sum.inl ())))
  (fun s i x hx hs=>by
   subst hs;have gF:=zK hx
   have h1:(s:Int)<zF xs:=by rw[zC];omega
   simp only[zH,h1,if_true,zA,zO hx,zLP,hf x (zLW hx),zN (show s<9223372036854775807 by omega)]
   cases hp:p x<;>simp[Comp.Step.map])
  (fun s i x s' hx hs he=>by
   subst hs
   cases hp:p x with
   |true=>rw[hp]at he;cases he
   |false=>rw[hp]at he;cases he;rfl)
  (fun s hs=>by
   have h1:¬((xs.length:Int)<zF xs):=by rw[zC];omega
   simp only[zH,h1,if_false,Comp.zB]) 0 rfl
 rw[key xs 0]at h;rw[zA];refine(zLi (fun o=>Option.bind o _) h).trans ?_
 rw[zLP];cases fnd p xs 0<;>exact Comp.zB _
def zHu(x0:List α)(x1:α×Unit->Comp (Bool×Unit)):Comp (Bool×Unit):=(H8 x0 x1).bind fun x=>Comp.pure (geI x.1 0,())
theorem Zs{xs:List α}{f:α×Unit->Comp (Bool×Unit)}{p:α->Bool}(hl:xs.length<9223372036854775807)(hf:∀x∈xs,(f (x,())).val=some (p x,())):(zHu xs f).val=some (xs.any p,()):=by
 unfold zHu;rw[zA,Bs hl hf,zLP,Comp.zB,<-mf (i:=0)];cases fnd p xs 0<;>simp[W9,geI]
end Go.Geo
end
noncomputable section
namespace Go.Geo
open Go Go.Eng Go.Lift Go.Den
variable {α β γ δ ε σ τ:Type}
def Sz(z:α)(x0:Int):Comp (List α×Unit) :=
 jn
  (fun (x:Unit)=>jn (fun (x:List α)=>Comp.pure (x,()))
    fun (j:List α->Comp (List α×Unit))=>if gtI (gQ .i64 x0 0) 0=true then
     jn (fun (x:List α)=>j x)
      fun (j:List α->Comp (List α×Unit))=>((sub [] 0 0).bind fun (x:List Unit)=>Comp.pure ()).bind fun x=>(mk (gQ .i64 x0 0) z).bind fun zs=>(sub zs 0 0).bind fun ys=>j ys
    else j [])
  fun (j:Unit->Comp (List α×Unit))=>if ltI x0 0=true then Comp.fail else j ()
theorem N9{z:α}{n:Nat}(h:n<=LIM):(Sz z n).val=some ([],()):=by
 have hL:=YP;unfold Sz;simp only[vk,zH,yd,YG (show -9223372036854775808<=(n:Int)-0/\(n:Int)-0<9223372036854775808 by omega)]
 rw[zLs (by omega)]
 rw[Xj];split
 ·have h1:(sub ([]:List Unit) 0 0).val=some []:=by rw[YK (by simp)];rfl
  have h2:(mk ((n:Int)-0) z).val=some (List.replicate n z):=by rw[mk_val (by omega)];simp
  have h3:(sub (List.replicate n z) 0 0).val=some []:=by rw[YK (by simp)];simp
  simp only[zA,h1,h2,h3,zLP,Comp.zB]
 ·exact Comp.zB _
def zHx(z:α)(x0:List (List α)):Comp (List α×Unit) :=
 (Comp.loop
   (fun (x:Int×Int)=>if ltI x.2 (zF x0)=true then
     (idx x0 x.2).bind fun x_1=>jn (fun (x_2:Unit)=>Comp.pure (.next (zJ .i64 x.1 (zF x_1),zJ .i64 x.2 1)))
       fun (j:Unit->Comp (Comp.Step (Int×Int) Int))=>if ltI (zJ .i64 x.1 (zF x_1)) 0=true then Comp.fail else j ()
    else Comp.pure (.done x.1))
   (0,0)).bind fun x=>(Sz z x).bind fun y=>(Comp.loop
     (fun (x:List α×Int)=>if ltI x.2 (zF x0)=true then
       (idx x0 x.2).bind fun x_1=>(app x.1 x_1).bind fun zs=>Comp.pure (.next (zs,zJ .i64 x.2 1))
      else Comp.pure (.done x.1))
     (y.1,0)).bind fun x=>Comp.pure (x,())
theorem YF{xs:List (List α)}{i:Nat}{x:List α}(h:xs[i]?=some x):(xs.take (i+1)).flatten=(xs.take i).flatten++x:=by
 rw[List.take_add_one,h];simp
theorem tY{xs:List (List α)}(i:Nat):(xs.take i).flatten.length<=xs.flatten.length:=by
 conv=>rhs;rw[<-List.take_append_drop i xs,List.flatten_append,zLS]
 omega
theorem my{z:α}{xs:List (List α)}(h:xs.flatten.length<=LIM)(hn:xs.length<9223372036854775807):(zHx z xs).val=some (xs.flatten,()):=by
 have hL:=YP;unfold zHx;have h1:=Comp.YX (fun (s:Nat) i=>(((s:Nat):Int),((i:Nat):Int))) xs (fun (s:Nat) x=>.next (s+x.length)) (fun s=>((s:Nat):Int)) (fun s i=>s=(xs.take i).flatten.length)
  (body:=fun (x:Int×Int)=>if ltI x.2 (zF xs)=true then
     (idx xs x.2).bind fun x_1=>jn (fun (x_2:Unit)=>Comp.pure (.next (zJ .i64 x.1 (zF x_1),zJ .i64 x.2 1)))
       fun (j:Unit->Comp (Comp.Step (Int×Int) Int))=>if ltI (zJ .i64 x.1 (zF x_1)) 0=true then Comp.fail else j ()
    else Comp.pure (.done x.1))
  (fun s i x hx hs=>by
   have gF:=zK hx;have h1:(i:Int)<zF xs:=by rw[zC];omega
   have h2:s+x.length<=LIM:=by
    have:=tY (xs:=xs) (i+1);rw[YF hx,zLS]at this;omega
   have h3:zJ .i64 (s:Int) (zF x)=((s+x.length:Nat):Int):=by rw[zC,ye (by omega)];omega
   simp only[vk,zH,h1,if_true,zA,zO hx,zLP,h3];rw[zLs (by omega),Comp.zB,zN (show i<9223372036854775807 by omega)]
   rfl)
  (fun s i x s' hx hs he=>by cases he;rw[YF hx,zLS,<-hs])
  (fun s hs=>by
   have h1:¬((xs.length:Int)<zF xs):=by rw[zC];omega
   simp only[zH,h1,if_false,Comp.zB]) 0 (by simp)
 have hsum:Comp.ZO (fun (s:Nat) (x:List α)=>(.next (s+x.length):Comp.Step Nat Int)) (fun s=>((s:Nat):Int)) 0 xs=((xs.flatten.length:Nat):Int):=by
  have key:∀(ys:List (List α)) (s:Nat),Comp.ZO (fun (s:Nat) (x:List α)=>(.next (s+x.length):Comp.Step Nat Int)) (fun s=>((s:Nat):Int)) s ys=((s+ys.flatten.length:Nat):Int):=by
   intro ys
   induction ys with
   |nil=>intro s;simp[Comp.ZO]
   |cons y ys ih=>intro s;simp only[Comp.ZO];rw[ih];simp;omega
  rw[key];simp
 rw[hsum]at h1;have h2:=Comp.YX (fun (s:List α) i=>(s,((i:Nat):Int))) xs (fun (s:List α) x=>.next (s++x)) (fun s=>s) (fun s i=>s=(xs.take i).flatten)
  (body:=fun (x:List α×Int)=>if ltI x.2 (zF xs)=true then
       (idx xs x.2).bind fun x_1=>(app x.1 x_1).bind fun zs=>Comp.pure (.next (zs,zJ .i64 x.2 1))
      else Comp.pure (.done x.1))
  (fun s i x hx hs=>by
   have gF:=zK hx;have h1:(i:Int)<zF xs:=by rw[zC];omega
   have h2:s.length+x.length<=LIM:=by
    have:=tY (xs:=xs) (i+1);rw[YF hx,zLS]at this;rw[hs];omega
   simp only[zH,h1,if_true,zA,zO hx,zLP,yO h2,Comp.zB,zN (show i<9223372036854775807 by omega)]
   rfl)
  (fun s i x s' hx hs he=>by cases he;rw[YF hx,<-hs])
  (fun s hs=>by
   have h1:¬((xs.length:Int)<zF xs):=by rw[zC];omega
   simp only[zH,h1,if_false,Comp.zB]) [] (by simp)
 have oE:Comp.ZO (fun (s:List α) (x:List α)=>(.next (s++x):Comp.Step (List α) (List α))) (fun s=>s) [] xs=xs.flatten:=by
  have key:∀(ys:List (List α)) (s:List α),Comp.ZO (fun (s:List α) (x:List α)=>(.next (s++x):Comp.Step (List α) (List α))) (fun s=>s) s ys=s++ys.flatten:=by
   intro ys
   induction ys with
   |nil=>intro s;simp[Comp.ZO]
   |cons y ys ih=>intro s;simp only[Comp.ZO];rw[ih];simp
  rw[key];simp
 rw[oE]at h2;rw[zA];refine(zLi (fun o=>Option.bind o _) h1).trans ?_
 rw[zLP,zA,N9 h,zLP,zA];refine(zLi (fun o=>Option.bind o _) h2).trans ?_
 rw[zLP,Comp.zB]
def zHv(x0:List α):Comp (List α×Unit):=amb (uM x0) (Comp.pure ([],())) ((app [] x0).bind fun zs=>Comp.pure (zs,()))
theorem HL{xs:List α}(h:xs.length<=LIM):(zHv xs).val=some (xs,()):=by
 unfold zHv;refine Wh (fun he=>?_) ?_
 ·cases xs with
  |nil=>exact Comp.zB _
  |cons=>cases he
 ·rw[zA,yO (by simpa using h),zLP];simp
def zHt(z:α)(xs:List α)(x0:α×Unit->Comp (Bool×Unit)):Comp (List α) :=
 (H8 xs x0).bind fun x=>if eqI x.1 (-1)=true then Comp.pure xs
  else
   (Comp.loop
      (fun (x:List α×Int×Int)=>if ltI x.2.2 (zF x.1)=true then
        (idx x.1 x.2.2).bind fun x_1=>(x0 (x_1,())).bind fun x_2=>jn (fun (x_3:List α×Int)=>Comp.pure (.next (x_3.1,x_3.2,zJ .i64 x.2.2 1)))
           fun (j:List α×Int->Comp (Comp.Step (List α×Int×Int) (List α×Int)))=>if ntB x_2.1=true then (inb x.1.length x.2.1).bind fun x_3=>j (j9 x.1 x.2.1 x_1,zJ .i64 x.2.1 1)
           else j (x.1,x.2.1)
       else Comp.pure (.done (x.1,x.2.1)))
      (xs,x.1,zJ .i64 x.1 1)).bind fun x=>((sub x.1 x.2 (zF x.1)).bind fun x=>Comp.pure ()).bind fun x_1=>(sub x.1 (Int.ofNat x.2.toNat) (zF x.1)).bind fun x_2=>jn (fun (x:List α)=>Comp.pure x)
       fun (j:List α->Comp (List α))=>(sub (List.take x.2.toNat x.1++List.replicate (x.1.length.sub x.2.toNat) z) 0 x.2).bind fun ys=>j ys
theorem HJ{z:α}{l:List α}{k:Nat}(h:k<=l.length):(((sub l (k:Int) (zF l)).bind fun x=>Comp.pure ()).bind fun x_1=>(sub l (Int.ofNat (k:Int).toNat) (zF l)).bind fun x_2=>jn (fun (x:List α)=>Comp.pure x)
       fun (j:List α->Comp (List α))=>(sub (List.take (k:Int).toNat l++List.replicate (l.length.sub (k:Int).toNat) z) 0 (k:Int)).bind fun ys=>j ys).val=some (l.take k):=by
 have e:Int.ofNat (k:Int).toNat=(k:Int):=by simp
 have e2:(k:Int).toNat=k:=by simp
 rw[e,e2];have h1:(sub l (k:Int) (zF l)).val=some (l.drop k):=by rw[YK (by rw[zC];omega)];simp[zC]
 have h2:(sub (List.take k l++List.replicate (l.length.sub k) z) 0 (k:Int)).val=some (l.take k):=by
  rw[YK (by simp only[zLS,zLm,List.length_replicate];omega)]
  simp[List.take_append_of_le_length,h,Nat.min_eq_left h]
 simp only[zA,h1,zLP,Comp.zB,vk,h2]
theorem HH{z:α}{xs:List α}{f:α×Unit->Comp (Bool×Unit)}{p:α->Bool}(hl:xs.length<9223372036854775807)(hf:∀x∈xs,(f (x,())).val=some (p x,())):(zHt z xs f).val=some (xs.filter fun x=>!p x):=by
 unfold zHt;rw[zA,Bs hl hf,zLP]
 cases iN:fnd p xs 0 with
 |none =>
  have aS:xs.any p=false:=by rw[<-mf (i:=0),iN];rfl
  simp only[W9,eqI,decide_true,if_true,Comp.zB];rw[List.filter_eq_self.2];intro x hx;rw[List.any_eq_false]at aS;simpa using aS x hx
 |some i =>
  obtain⟨_,x,hx,hp,sG⟩:=Bw iN;rw[Nat.sub_zero]at hx sG;have gF:=zK hx
  have fC:¬((i:Int) = -1):=by omega
  simp only[W9,yi,fC,if_false];have fV:(xs.take (i+1)).filter (fun x=>!p x)=xs.take i:=by
   rw[List.take_add_one,hx,List.filter_append];simp only[Option.toList_some,List.filter_cons,hp,Bool.not_true,Bool.false_eq_true,if_false,List.filter_nil,zLx];rw[List.filter_eq_self];intro y hy;obtain⟨k,hk⟩:=List.mem_iff_getElem?.1 hy;have bP:=zK hk
   rw[zLm]at bP;rw[List.getElem?_take_of_lt (by omega)]at hk
   simp[sG k y (by omega) hk]
  -- the state: what is kept,then what was not walked over yet
  let st:List α->Nat->List α×Int×Int:=fun l k=>(l,(((xs.take k).filter fun x=>!p x).length:Int),(k:Int))
  have inv:∀(m k:Nat) (l:List α),k+m=xs.length->i+1<=k->l.length=xs.length->l.take ((xs.take k).filter fun x=>!p x).length=(xs.take k).filter (fun x=>!p x)->l.drop k=xs.drop k->∃l',l'.length=xs.length/\l'.take (xs.filter fun x=>!p x).length=xs.filter (fun x=>!p x)/\(Comp.loop
      (fun (x:List α×Int×Int)=>if ltI x.2.2 (zF x.1)=true then
        (idx x.1 x.2.2).bind fun x_1=>(f (x_1,())).bind fun x_2=>jn (fun (x_3:List α×Int)=>Comp.pure (.next (x_3.1,x_3.2,zJ .i64 x.2.2 1)))
           fun (j:List α×Int->Comp (Comp.Step (List α×Int×Int) (List α×Int)))=>if ntB x_2.1=true then (inb x.1.length x.2.1).bind fun x_3=>j (j9 x.1 x.2.1 x_1,zJ .i64 x.2.1 1)
           else j (x.1,x.2.1)
       else Comp.pure (.done (x.1,x.2.1)))
      (st l k)).val=some (l',((xs.filter fun x=>!p x).length:Int)):=by
   intro m
   induction m with
   |zero =>
    intro k l hk eK bO ht hd;have hk':k=xs.length:=by omega
    subst hk';rw[List.take_length]at ht;refine⟨l,bO,ht,?_⟩;rw[zM];have h1:¬((xs.length:Int)<zF l):=by rw[zC,bO];omega
    simp only[st,zH,h1,if_false,Comp.zB,zLP,List.take_length]
   |succ m ih =>
    intro k l hk eK bO ht hd;have bP:k<xs.length:=by omega
    obtain⟨y,hy⟩:∃y,xs[k]?=some y:=⟨xs[k],by simp[bP]⟩
    have hly:l[k]?=some y:=by
     have h1:(l.drop k)[0]?=some y:=by rw[hd];simpa using hy
     simpa using h1
    have h1:(k:Int)<zF l:=by rw[zC,bO];omega
    have hcnt:((xs.take k).filter fun x=>!p x).length<=k:=by
     have:=List.length_filter_le (fun x=>!p x) (xs.take k)
     rw[zLm]at this;omega
    -- at least one was dropped
    have hcnt':((xs.take k).filter fun x=>!p x).length<k:=by
     have:xs.take k=xs.take (i+1)++(xs.take k).drop (i+1):=by
      conv=>lhs;rw[<-List.take_append_drop (i+1) (xs.take k)]
      rw[List.take_take,Nat.min_eq_left eK]
     rw[this,List.filter_append,fV,zLS];have h2:=List.length_filter_le (fun x=>!p x) ((xs.take k).drop (i+1))
     rw[List.length_drop,zLm]at h2;rw[zLm];omega
    have fG:xs.take (k+1)=xs.take k++[y]:=by rw[List.take_add_one,hy];rfl
    have hd':l.drop (k+1)=xs.drop (k+1):=by rw[<-List.drop_drop,hd,List.drop_drop]
    rw[zM];have e1:(idx l (k:Int)).val=some y:=zO hly
    have e2:=hf y (zLW hy)
    cases oS:p y with
    |true =>
     obtain⟨l',g1,g2,g3⟩:=ih (k+1) l (by omega) (by omega) bO (by rw[fG,List.filter_append];simpa[oS] using ht) hd'
     refine⟨l',g1,g2,?_⟩;rw[<-g3];simp only[st,zH,h1,if_true,zA,e1,zLP,e2,oS,vk,yP,Bool.not_true,Bool.false_eq_true,if_false,Comp.zB,zN (show k<9223372036854775807 by omega)]
     rw[fG,List.filter_append];simp[oS]
    |false =>
     have hc:((xs.take k).filter fun x=>!p x).length<l.length:=by omega
     obtain⟨l',g1,g2,g3⟩:=ih (k+1) (l.set ((xs.take k).filter fun x=>!p x).length y) (by omega) (by omega) (by simpa using bO)
      (by
       rw[fG,List.filter_append];simp only[List.filter_cons,oS,Bool.not_false,if_true,List.filter_nil,zLS,zLU];rw[List.take_add_one,List.take_set_of_le (zLT _),ht];simp[hc])
      (by rw[List.drop_set_of_lt (by omega)];exact hd')
     refine⟨l',g1,g2,?_⟩;rw[<-g3];have e3:(inb l.length (((xs.take k).filter fun x=>!p x).length:Int)).val=some ():=jM (by omega)
     simp only[st,zH,h1,if_true,zA,e1,zLP,e2,oS,vk,yP,Bool.not_false,Comp.zB,zN (show k<9223372036854775807 by omega),e3,j9,Int.toNat_natCast,zN (show ((xs.take k).filter fun x=>!p x).length<9223372036854775807 by omega)]
     rw[fG,List.filter_append];simp[oS]
  obtain⟨l',g1,g2,g3⟩:=inv (xs.length-(i+1)) (i+1) xs (by omega) (zLT _) rfl (by rw[fV];rw[zLm,Nat.min_eq_left (by omega)]) rfl
  have f9:st xs (i+1)=(xs,(i:Int),zJ .i64 (i:Int) 1):=by
   show (xs,_,_)=_
   rw[fV,zLm,Nat.min_eq_left (by omega),zN (by omega)]
  rw[f9]at g3;rw[zA];refine(zLi (fun o=>Option.bind o _) g3).trans ?_
  rw[zLP];refine(HJ (z:=z) ?_).trans ?_
  ·have:=List.length_filter_le (fun x=>!p x) xs;show _<=l'.length;omega
  ·rw[g2]
def Jw [DecidableEq α]:α->List α->List α
 |_,[]=>[]
 |x,y::l=>if y=x then Jw y l else y::Jw y l
def cpc [DecidableEq α]:List α->List α
 | []=>[]
 |x::l=>x::Jw x l
theorem wL [DecidableEq α]{a b:α}:∀ {l:List α} {x:α},Jw x (l++[a,b])=Jw x (l++[a])++if b=a then [] else [b]
 | [],x=>by
  simp only[List.nil_append,Jw];by_cases h1:a=x<;>by_cases h2:b=a<;>simp[h1,h2]
 |y::l,x=>by
  simp only[List.cons_append,Jw];split
  ·exact wL
  ·rw[wL];rfl
theorem QP [DecidableEq α]{a b:α}{l:List α}:cpc (l++[a,b])=cpc (l++[a])++if b=a then [] else [b]:=by
 cases l with
 |nil=>simp only[List.nil_append,cpc,Jw];split<;>simp
 |cons x l=>simp only[List.cons_append,cpc];rw[wL]
theorem JF [DecidableEq α]{xs:List α}{k:Nat}{a b:α}(ha:xs[k]?=some a)(hb:xs[k+1]?=some b):cpc (xs.take (k+1+1))=cpc (xs.take (k+1))++if b=a then [] else [b]:=by
 rw[List.take_add_one (i:=k+1),hb,List.take_add_one,ha];simp only[Option.toList_some,zLl,List.cons_append,List.nil_append];exact QP
theorem CI [DecidableEq α]:∀ {l:List α} {x:α},(Jw x l).length<=l.length
 | [],_=>zLT _
 |y::l,x=>by
  have:=CI (l:=l) (x:=y);simp only[Jw];split<;>simp only[zLZ]<;>omega
theorem HK [DecidableEq α]:∀ {l:List α},(cpc l).length<=l.length
 | []=>zLT _
 |x::l=>by have:=CI (l:=l) (x:=x);simp only[cpc,zLZ];omega
end Go.Geo
end
section
namespace Go.Geo
open Go Go.Eng Go.Lift Go.Den
variable {α β γ δ ε σ τ:Type}
def zFN(eq:α->α->Bool)(x2:Int)(x1:List α):Comp (List α×Int) :=
 Comp.loop
  (fun (x_4:List α×Int×Int)=>if ltI x_4.2.2 (zF (List.drop x2.toNat x_4.1))=true then
    (idx (List.drop x2.toNat x_4.1) x_4.2.2).bind fun x_5=>(idx (List.drop x2.toNat x_4.1) (gQ .i64 x_4.2.2 1)).bind fun x_6=>jn
       (fun (x:List α×Int)=>Comp.pure (.next (x.1,x.2,zJ .i64 x_4.2.2 1)))
       fun (j:List α×Int->Comp (Comp.Step (List α×Int×Int) (List α×Int)))=>if ntB (eq x_5 x_6)=true then
        (idx (List.drop x2.toNat x_4.1) x_4.2.2).bind fun x=>(inb x_4.1.length x_4.2.1).bind fun x_7=>j (j9 x_4.1 x_4.2.1 x,zJ .i64 x_4.2.1 1)
       else j (x_4.1,x_4.2.1)
   else Comp.pure (.done (x_4.1,x_4.2.1)))
  (x1,x2,1)
def zFM(eq:α->α->Bool)(z:α)(xs:List α):Comp (List α) :=
 if ltI (zF xs) 2=true then Comp.pure xs
 else
  (Comp.loop
     (fun (x:List α×Int)=>if ltI x.2 (zF x.1)=true then
       (idx x.1 x.2).bind fun x_1=>(idx x.1 (gQ .i64 x.2 1)).bind fun x_2=>if eq x_1 x_2=true then
          ((sub x.1 x.2 (zF x.1)).bind fun x=>Comp.pure ()).bind fun x_3=>(zFN eq x.2 x.1).bind fun x=>((sub x.1 x.2 (zF x.1)).bind fun x=>Comp.pure ()).bind fun x_4=>(sub x.1 (Int.ofNat x.2.toNat) (zF x.1)).bind fun x_5=>jn (fun (x:List α)=>Comp.pure (.done (Sum.inr x)))
               fun (j:List α->Comp (Comp.Step (List α×Int) (List α⊕List α)))=>(sub (List.take x.2.toNat x.1++List.replicate (x.1.length.sub x.2.toNat) z) 0 x.2).bind fun ys=>j ys
         else Comp.pure (.next (x.1,zJ .i64 x.2 1))
      else Comp.pure (.done (Sum.inl x.1)))
     (xs,1)).bind fun (x:List α⊕List α)=>match x with
   |Sum.inl x=>Comp.pure x
   |Sum.inr x=>Comp.pure x
theorem zS{xs:List α}{k:Nat}(h:k<xs.length):∃y,xs[k]?=some y:=⟨xs[k],by simp[h]⟩
theorem wb{l xs:List α}{i k:Nat}(h:l.drop i=xs.drop i)(hi:i<=k):l[k]?=xs[k]?:=by
 have:(l.drop i)[k-i]?=(xs.drop i)[k-i]?:=by rw[h]
 rw[List.getElem?_drop,List.getElem?_drop,show i+(k-i)=k by omega]at this
 exact this
theorem QQ [DecidableEq α]{eq:α->α->Bool}(fH:∀x y,eq x y=decide (x=y)){xs:List α}(hl:xs.length<9223372036854775807){i0:Nat}(h0:1<=i0)(hi:i0<xs.length)(fV:cpc (xs.take i0)=xs.take i0)(hdup:xs[i0]?=xs[i0-1]?) :
  ∃l',l'.length=xs.length/\l'.take (cpc xs).length=cpc xs/\(zFN eq (i0:Int) xs).val=some (l',((cpc xs).length:Int)):=by
 have inv:∀(m k:Nat) (l:List α),i0+k+m=xs.length->1<=k->l.length=xs.length->l.take (cpc (xs.take (i0+k))).length=cpc (xs.take (i0+k))->l.drop (i0+k-1)=xs.drop (i0+k-1)->∃l',l'.length=xs.length/\l'.take (cpc xs).length=cpc xs/\(Comp.loop
  (fun (x_4:List α×Int×Int)=>if ltI x_4.2.2 (zF (List.drop (i0:Int).toNat x_4.1))=true then
    (idx (List.drop (i0:Int).toNat x_4.1) x_4.2.2).bind fun x_5=>(idx (List.drop (i0:Int).toNat x_4.1) (gQ .i64 x_4.2.2 1)).bind fun x_6=>jn
       (fun (x:List α×Int)=>Comp.pure (.next (x.1,x.2,zJ .i64 x_4.2.2 1)))
       fun (j:List α×Int->Comp (Comp.Step (List α×Int×Int) (List α×Int)))=>if ntB (eq x_5 x_6)=true then
        (idx (List.drop (i0:Int).toNat x_4.1) x_4.2.2).bind fun x=>(inb x_4.1.length x_4.2.1).bind fun x_7=>j (j9 x_4.1 x_4.2.1 x,zJ .i64 x_4.2.1 1)
       else j (x_4.1,x_4.2.1)
   else Comp.pure (.done (x_4.1,x_4.2.1)))
  (l,((cpc (xs.take (i0+k))).length:Int),(k:Int))).val=some (l',((cpc xs).length:Int)):=by
  intro m
  induction m with
  |zero =>
   intro k l hk h1 bO ht hd;rw[show i0+k=xs.length by omega,List.take_length]at ht |-
   refine⟨l,bO,ht,?_⟩;rw[zM];have h1:¬((k:Int)<zF (List.drop (i0:Int).toNat l)):=by rw[zC,List.length_drop,bO,Int.toNat_natCast];omega
   simp only[zH,h1,if_false,Comp.zB,zLP]
  |succ m ih =>
   intro k l hk h1 bO ht hd;obtain⟨b,hb⟩:=zS (xs:=xs) (k:=i0+k) (by omega)
   obtain⟨a,ha⟩:=zS (xs:=xs) (k:=i0+k-1) (by omega)
   have hlb:l[i0+k]?=some b:=by rw[wb hd (by omega)];exact hb
   have hla:l[i0+k-1]?=some a:=by rw[wb hd (by omega)];exact ha
   have gF:(k:Int)<zF (List.drop (i0:Int).toNat l):=by rw[zC,List.length_drop,bO,Int.toNat_natCast];omega
   have e1:(idx (List.drop (i0:Int).toNat l) (k:Int)).val=some b:=zO (by rw[Int.toNat_natCast,List.getElem?_drop];exact hlb)
   have e2:(idx (List.drop (i0:Int).toNat l) (gQ .i64 (k:Int) 1)).val=some a:=by
    rw[YG (by omega),show (k:Int)-1=((k-1:Nat):Int) by omega]
    exact zO (by rw[Int.toNat_natCast,List.getElem?_drop,show i0+(k-1)=i0+k-1 by omega];exact hla)
   have fG:=JF (xs:=xs) (k:=i0+k-1) ha (by rw[show i0+k-1+1=i0+k by omega];exact hb)
   rw[show i0+k-1+1=i0+k by omega]at fG
   -- fewer are kept than were seen
   have hcnt:(cpc (xs.take (i0+k))).length<i0+k:=by
    have base:(cpc (xs.take (i0+1))).length=i0:=by
     obtain⟨c,hc⟩:=zS (xs:=xs) (k:=i0) hi;have h2:=JF (xs:=xs) (k:=i0-1) (a:=c) (b:=c) (by rw[<-hdup];exact hc) (by rw[show i0-1+1=i0 by omega];exact hc)
     rw[show i0-1+1=i0 by omega,zLr rfl,zLx]at h2
     rw[h2,fV,zLm];omega
    have mono:∀j,(cpc (xs.take (i0+1+j))).length<=i0+j:=by
     intro j
     induction j with
     |zero=>rw[Nat.add_zero,base];omega
     |succ j ihj =>
      by_cases hj:i0+1+j<xs.length
      ·obtain⟨b',hb'⟩:=zS (xs:=xs) (k:=i0+j+1) (by omega)
       obtain⟨a',ha'⟩:=zS (xs:=xs) (k:=i0+j) (by omega)
       have h3:=JF ha' hb';rw[show i0+1+(j+1)=i0+j+1+1 by omega,h3,zLS]
       rw[show i0+1+j=i0+j+1 by omega]at ihj
       split<;>simp<;>omega
      ·rw[List.take_of_length_le (by omega)]at ihj |-;omega
    have:=mono (k-1);rw[show i0+1+(k-1)=i0+k by omega]at this;omega
   have hd1:l.drop (i0+(k+1)-1)=xs.drop (i0+(k+1)-1):=by
    have:(l.drop (i0+k-1)).drop 1=(xs.drop (i0+k-1)).drop 1:=by rw[hd]
    rw[List.drop_drop,List.drop_drop,show i0+k-1+1=i0+(k+1)-1 by omega]at this
    exact this
   by_cases iO:b=a
   ·rw[zLr iO,zLx]at fG
    rw[show i0+k+1=i0+(k+1) by omega]at fG
    obtain⟨l',g1,g2,g3⟩:=ih (k+1) l (by omega) (by omega) bO (by rw[fG];exact ht) hd1
    refine⟨l',g1,g2,?_⟩;rw[fG]at g3;rw[<-g3]
    conv=>lhs;rw[zM]
    simp only[zH,gF,if_true,zA,e1,e2,zLP,vk,fH,iO,decide_true,yP,Bool.not_true,Bool.false_eq_true,if_false,Comp.zB,zN (show k<9223372036854775807 by omega)]
   ·rw[zLs iO]at fG
    rw[show i0+k+1=i0+(k+1) by omega]at fG
    have hc:(cpc (xs.take (i0+k))).length<l.length:=by omega
    obtain⟨l',g1,g2,g3⟩:=ih (k+1) (l.set (cpc (xs.take (i0+k))).length b) (by omega) (by omega) (by simpa using bO)
     (by
      rw[fG,zLS,zLU,List.take_add_one,List.take_set_of_le (zLT _),ht];simp[hc])
     (by rw[List.drop_set_of_lt (by omega)];exact hd1)
    refine⟨l',g1,g2,?_⟩;rw[fG]at g3;rw[<-g3];have e3:(inb l.length ((cpc (xs.take (i0+k))).length:Int)).val=some ():=jM (by omega)
    simp only[Int.toNat_natCast]at gF e1 e2
    conv=>lhs;rw[zM]
    simp only[zH,gF,if_true,zA,e1,e2,e3,zLP,vk,fH,iO,decide_false,yP,Bool.not_false,Comp.zB,zN (show k<9223372036854775807 by omega),j9,Int.toNat_natCast,zN (show (cpc (xs.take (i0+k))).length<9223372036854775807 by omega),zLS,zLU]
 have bN:cpc (xs.take (i0+1))=xs.take i0:=by
  obtain⟨c,hc⟩:=zS (xs:=xs) (k:=i0) hi;have h2:=JF (xs:=xs) (k:=i0-1) (a:=c) (b:=c) (by rw[<-hdup];exact hc) (by rw[show i0-1+1=i0 by omega];exact hc)
  rw[show i0-1+1=i0 by omega,zLr rfl,zLx]at h2
  rw[h2,fV]
 obtain⟨l',g1,g2,g3⟩:=inv (xs.length-(i0+1)) 1 xs (by omega) (zLT _) rfl (by rw[bN,zLm,Nat.min_eq_left (by omega)]) rfl
 refine⟨l',g1,g2,?_⟩;rw[<-g3,bN,zLm,Nat.min_eq_left (by omega)]
 rfl
theorem WM [DecidableEq α]{eq:α->α->Bool}(fH:∀x y,eq x y=decide (x=y)){z:α}{xs:List α}(hl:xs.length<9223372036854775807):(zFM eq z xs).val=some (cpc xs):=by
 unfold zFM;rw[Xj];split
 ·rename_i h
  rw[zH,zC]at h;rw[Comp.zB]
  match xs,h with
  | [],_=>rfl
  | [x],_=>rfl
  |x::y::l,h=>simp only[zLZ]at h;omega
 ·rename_i h
  rw[zH,zC]at h;have inv:∀(m k:Nat),k+m=xs.length->1<=k->cpc (xs.take k)=xs.take k->∃r:List α⊕List α,(r=.inl (cpc xs)\/r=.inr (cpc xs))/\(Comp.loop
     (fun (x:List α×Int)=>if ltI x.2 (zF x.1)=true then
       (idx x.1 x.2).bind fun x_1=>(idx x.1 (gQ .i64 x.2 1)).bind fun x_2=>if eq x_1 x_2=true then
          ((sub x.1 x.2 (zF x.1)).bind fun x=>Comp.pure ()).bind fun x_3=>(zFN eq x.2 x.1).bind fun x=>((sub x.1 x.2 (zF x.1)).bind fun x=>Comp.pure ()).bind fun x_4=>(sub x.1 (Int.ofNat x.2.toNat) (zF x.1)).bind fun x_5=>jn (fun (x:List α)=>Comp.pure (.done (Sum.inr x)))
               fun (j:List α->Comp (Comp.Step (List α×Int) (List α⊕List α)))=>(sub (List.take x.2.toNat x.1++List.replicate (x.1.length.sub x.2.toNat) z) 0 x.2).bind fun ys=>j ys
         else Comp.pure (.next (x.1,zJ .i64 x.2 1))
      else Comp.pure (.done (Sum.inl x.1)))
     (xs,(k:Int))).val=some r:=by
   intro m
   induction m with
   |zero =>
    intro k hk h1 hp;rw[show k=xs.length by omega,List.take_length]at hp
    refine⟨.inl (cpc xs),.inl rfl,?_⟩;rw[zM];have h1:¬((k:Int)<zF xs):=by rw[zC];omega
    simp only[zH,h1,if_false,Comp.zB,zLP,hp]
   |succ m ih =>
    intro k hk h1 hp;obtain⟨b,hb⟩:=zS (xs:=xs) (k:=k) (by omega)
    obtain⟨a,ha⟩:=zS (xs:=xs) (k:=k-1) (by omega)
    have gF:(k:Int)<zF xs:=by rw[zC];omega
    have e1:(idx xs (k:Int)).val=some b:=zO hb;have e2:(idx xs (gQ .i64 (k:Int) 1)).val=some a:=by
     rw[YG (by omega),show (k:Int)-1=((k-1:Nat):Int) by omega]
     exact zO ha
    by_cases iO:b=a
    ·subst iO
     obtain⟨l',g1,g2,g3⟩:=QQ fH hl h1 (by omega) hp (by rw[ha,hb])
     refine⟨.inr (cpc xs),.inr rfl,?_⟩;have e4:(sub xs (k:Int) (zF xs)).val=some (xs.drop k):=by rw[YK (by rw[zC];omega)];simp[zC]
     have e5:=HJ (z:=z) (l:=l') (k:=(cpc xs).length) (by rw[g1];exact HK)
     rw[g2]at e5;simp only[zA,vk,Comp.zB]at e5;rw[zM];simp only[zH,gF,if_true,zA,e1,e2,zLP,fH,decide_true,e4,Comp.zB,g3,vk]
     revert e5
     generalize (sub l' ((cpc xs).length:Int) (zF l')).val=o1;generalize (sub l' (Int.ofNat ((cpc xs).length:Int).toNat) (zF l')).val=o2;generalize (sub (List.take ((cpc xs).length:Int).toNat l'++List.replicate (l'.length.sub ((cpc xs).length:Int).toNat) z) 0 ((cpc xs).length:Int)).val=o3;intro e5;cases o1<;>cases o2<;>cases o3<;>simp_all
    ·obtain⟨r,g1,g2⟩:=ih (k+1) (by omega) (by omega) (by
      have fG:=JF (xs:=xs) (k:=k-1) ha (by rw[show k-1+1=k by omega];exact hb)
      rw[show k-1+1=k by omega,zLs iO,hp]at fG
      rw[fG,List.take_add_one,hb];rfl)
     refine⟨r,g1,?_⟩;rw[<-g2]
     conv=>lhs;rw[zM]
     simp only[zH,gF,if_true,zA,e1,e2,zLP,fH,iO,decide_false,Bool.false_eq_true,if_false,Comp.zB,zN (show k<9223372036854775807 by omega)]
  obtain⟨r,g1,g2⟩:=inv (xs.length-1) 1 (by omega) (zLT _) (by
   match xs with
   | []=>rfl
   |x::l=>rfl)
  rw[zA];refine(zLi (fun o=>Option.bind o _) g2).trans ?_
  rw[zLP];rcases g1 with rfl|rfl<;>exact Comp.zB _
end Go.Geo
end
noncomputable section
namespace Go.Den
open Go Go.Lift
abbrev Pln:=(Int×Int×Int×Unit)×Int×Unit
def Yo(p q:Pln):Int :=
 if p.1.1<q.1.1 then -1 else if q.1.1<p.1.1 then 1 else
 if p.1.2.1<q.1.2.1 then -1 else if q.1.2.1<p.1.2.1 then 1 else
 if p.1.2.2.1<q.1.2.2.1 then -1 else if q.1.2.2.1<p.1.2.2.1 then 1 else
 if p.2.1<q.2.1 then -1 else if q.2.1<p.2.1 then 1 else 0
def Kv(p:Pln):List Pln->List Pln
 | []=>[p]
 |q::l=>if Yo q p<0 then q::Kv p l else p::q::l
def Xr:List Pln->List Pln
 | []=>[]
 |p::l=>Kv p (Xr l)
open Classical in
def Ce(xs:List Pln)(c:Pln×Pln×Unit->Comp (Int×Unit)):Comp (List Pln) :=
 if xs.length<=LIM/\∀x y,∃n,(c (x,y,())).run n=some (Yo x y,()) then Comp.pure (Xr xs) else Comp.fail
def LtP(p q:Pln):Prop:=p.1.1<q.1.1\/(p.1.1=q.1.1/\(p.1.2.1<q.1.2.1\/(p.1.2.1=q.1.2.1/\(p.1.2.2.1<q.1.2.2.1\/(p.1.2.2.1=q.1.2.2.1/\p.2.1<q.2.1)))))
theorem pS(p q:Pln):(Yo p q = -1/\LtP p q)\/(Yo p q=0/\p=q)\/(Yo p q=1/\LtP q p):=by
 obtain⟨⟨a,b,c,u⟩,d,v⟩:=p;obtain⟨⟨a',b',c',u'⟩,d',v'⟩:=q;unfold Yo LtP;simp only;split
 ·exact .inl ⟨rfl,by omega⟩
 split
 ·exact .inr (.inr ⟨rfl,by omega⟩)
 split
 ·exact .inl ⟨rfl,by omega⟩
 split
 ·exact .inr (.inr ⟨rfl,by omega⟩)
 split
 ·exact .inl ⟨rfl,by omega⟩
 split
 ·exact .inr (.inr ⟨rfl,by omega⟩)
 split
 ·exact .inl ⟨rfl,by omega⟩
 split
 ·exact .inr (.inr ⟨rfl,by omega⟩)
 ·refine .inr (.inl ⟨rfl,?_⟩)
  have h1:a=a':=by omega
  have h2:b=b':=by omega
  have h3:c=c':=by omega
  have h4:d=d':=by omega
  subst h1 h2 h3 h4;rfl
theorem LtP.irr{p:Pln}(h:LtP p p):False:=by unfold LtP at h;omega
theorem LtP.trans{p q r:Pln}(h:LtP p q)(k:LtP q r):LtP p r:=by unfold LtP at *;omega
theorem LtP.asym{p q:Pln}(h:LtP p q)(k:LtP q p):False:=(h.trans k).irr
theorem KA{p q:Pln}:Yo p q<0↔LtP p q:=by
 rcases pS p q with ⟨h1,h2⟩|⟨h1,h2⟩|⟨h1,h2⟩
 ·simp[h1,h2]
 ·subst h2;rw[h1];simp;exact fun h=>h.irr
 ·rw[h1];simp;exact fun h=>h.asym h2
theorem LtP.tri(p q:Pln):LtP p q\/p=q\/LtP q p:=by
 rcases pS p q with ⟨_,h⟩|⟨_,h⟩|⟨_,h⟩
 ·exact .inl h
 ·exact .inr (.inl h)
 ·exact .inr (.inr h)
theorem wG(p:Pln):∀l,(Kv p l).Perm (p::l)
 | []=>.refl _
 |q::l=>by
  unfold Kv;split
  ·exact((wG p l).cons q).trans (.swap p q l)
  ·exact .refl _
theorem rV:∀l,(Xr l).Perm l
 | []=>.refl _
 |p::l=>(wG p _).trans ((rV l).cons p)
theorem Bq(p:Pln):∀ {l:List Pln},l.Pairwise (fun p q=>¬LtP q p)->(Kv p l).Pairwise (fun p q=>¬LtP q p)
 | [],_=>by simp[Kv]
 |q::l,h=>by
  rw[List.pairwise_cons]at h;unfold Kv;split
  ·rename_i h1
   rw[List.pairwise_cons];refine⟨fun a ha=>?_,Bq p h.2⟩
   rcases zLV.1 ((wG p l).mem_iff.1 ha) with rfl|ha
   ·exact fun k=>(KA.1 h1).asym k
   ·exact h.1 a ha
  ·rename_i h1
   rw[List.pairwise_cons];refine⟨fun a ha=>?_,List.pairwise_cons.2 h⟩
   have h2:¬LtP q p:=fun k=>h1 (KA.2 k)
   rcases zLV.1 ha with rfl|ha
   ·exact h2
   ·intro k
    rcases LtP.tri p q with h3|h3|h3
    ·exact h.1 a ha (k.trans h3)
    ·rw[h3]at k;exact h.1 a ha k
    ·exact h2 h3
theorem BA:∀l:List Pln,(Xr l).Pairwise (fun p q=>¬LtP q p)
 | []=>.nil
 |p::l=>Bq p (BA l)
end Go.Den
end
noncomputable section
set_option maxRecDepth 20000
namespace Go.F
open Go Go.Lift Go.Den
abbrev A1:=Int×Int×Int×Unit
abbrev A2:=A1×Int×Unit
abbrev A3:=List A2
abbrev A4:=List A3×List A3×Int×List Int×Unit
abbrev A5:=List Bool×List Bool×List A3×Unit
abbrev A6:=List UInt8×List A3×List Int×Unit
abbrev A7:=Int×Int×Int×Int×Unit
abbrev A8:=vC×List A3×List Int×Unit
abbrev A9:=Bool×Unit
abbrev A10:=Int×Int×Unit
abbrev A11:=Int×Unit
abbrev A12:=List A2×Unit
abbrev A13:=A6×A5×List A4×Unit
abbrev A14:=List Int×Int×Unit
abbrev A15:=A8×A5×List A4×Unit
abbrev A16:=List Int
abbrev A17:=List A3
abbrev A18:=List Int×Int×List A10×Int×Unit
abbrev A19:=List A3×Unit
abbrev A20:=List A3×Int×Unit
abbrev A21:=Bool×Int×Unit
abbrev A22:=List A3×Int
abbrev A23:=A14×Unit
abbrev A24:=A23×Int×Unit
abbrev A25:=Unit⊕Int
abbrev A26:=List Int×Unit
abbrev A27:=A2×Unit->Comp A9
abbrev A28:=A10×Unit
abbrev A29:=Unit⊕Bool
abbrev A30:=A1×Unit
abbrev A31:=List Bool
abbrev A32:=List A2×Int
abbrev A33:=List Int×Int×List A10×Int->Comp A18
abbrev A34:=List A2×Unit->Comp A9
abbrev A35:=Int×Int
abbrev A36:=List A3⊕List A3×Int
abbrev A37:=Bool×List Int×Int×Unit
abbrev A38:=List A7×Unit
abbrev A39:=A5×List Bool×List Bool×List A3×Unit⊕Int×List Bool×List Bool×List A3×Unit
abbrev A40:=List Int×Int×List A10×Int
abbrev A41:=List A10×Unit
abbrev A42:=Option A3×Unit
def zp:Int×Int×Int×Unit->Int×Int×Int×Unit->Comp A12:=fun x0 x1=>.pure ([((1,0,0,()),x1.1,()),((-1,0,0,()),Yc .i64 x0.1,()),((0,1,0,()),x1.2.1,()),((0, -1,0,()),Yc .i64 x0.2.1,()),((0,0,1,()),x1.2.2.1,()),((0,0, -1,()),Yc .i64 x0.2.2.1,())],())
def yc:Int->Int->Comp A12:=fun x0 x1=>(zp (x0,0,0,()) (x1,2,2,())).bind fun y=>.pure (y.1,())
def jJ:vC×List A3×List Int×Unit->Comp (A5×Unit):=fun x0=>(mk (zF x0.2.1) false).bind fun x=>(mk (zF x0.2.1) false).bind fun ys=>.pure ((ys,x,[],()),())
def y5:Comp (A15×Unit):=(yc 0 2).bind fun y=>(yc 2 4).bind fun y_1=>(yc 4 6).bind fun aF=>(jJ ([],[y.1,y_1.1,aF.1],[1,2,2],())).bind fun x=>(yc 2 4).bind fun a=>(yc 4 6).bind fun b=>(yc 2 4).bind fun c=>(yc 4 6).bind fun d=>(yc 1 6).bind fun e=>.pure ((([],[y.1,y_1.1,aF.1],[1,2,2],()),x.1,[([a.1],[],3,[],()),([b.1],[],4,[],()),([c.1,d.1],[],9,[],()),([e.1],[],1,[],())],()),())
def vy:Int->Comp A9:=fun x0=>.pure (sel (ltI x0 1) true (gtI x0 3),())
def j8:List Int->(Int×Unit->Comp A9)->Comp A11:=fun x0 x1=>(Comp.loop (fun (x:Int)=>if ltI x (zF x0)=true then (idx x0 x).bind fun a=>(x1 (a,())).bind fun b=>if b.1=true then .pure (.done (Sum.inr x)) else .pure (.next (zJ .i64 x 1)) else .pure (.done (Sum.inl ()))) 0).bind fun (x:A25)=>match x with
   |.inl x=>.pure (-1,())
   |.inr x=>.pure (x,())
def zj:List Int->(Int×Unit->Comp A9)->Comp A9:=fun x0 x1=>(j8 x0 x1).bind fun x=>.pure (geI x.1 0,())
def yI:List A3->A34->Comp A11:=fun x0 x1=>(Comp.loop (fun (x:Int)=>if ltI x (zF x0)=true then (idx x0 x).bind fun a=>(x1 (a,())).bind fun b=>if b.1=true then .pure (.done (Sum.inr x)) else .pure (.next (zJ .i64 x 1)) else .pure (.done (Sum.inl ()))) 0).bind fun (x:A25)=>match x with
   |.inl x=>.pure (-1,())
   |.inr x=>.pure (x,())
def zI:List A3->A34->Comp A9:=fun x0 x1=>(yI x0 x1).bind fun x=>.pure (geI x.1 0,())
def yH:List A2->A27->Comp A11:=fun x0 x1=>(Comp.loop (fun (x:Int)=>if ltI x (zF x0)=true then (idx x0 x).bind fun a=>(x1 (a,())).bind fun b=>if b.1=true then .pure (.done (Sum.inr x)) else .pure (.next (zJ .i64 x 1)) else .pure (.done (Sum.inl ()))) 0).bind fun (x:A25)=>match x with
   |.inl x=>.pure (-1,())
   |.inr x=>.pure (x,())
def zY:List A2->A27->Comp A9:=fun x0 x1=>(yH x0 x1).bind fun x=>.pure (geI x.1 0,())
def jG:Int->List Int->Comp A9:=fun x0 x1=>(Comp.loop (fun (x:Int)=>if ltI x (zF x1)=true then (idx x1 x).bind fun a=>if sel (ltI a (Yc .i64 x0)) true (gtI a x0)=true then .pure (.done (Sum.inr false)) else .pure (.next (zJ .i64 x 1)) else .pure (.done (Sum.inl ()))) 0).bind fun (x:A29)=>match x with
   |.inl x=>.pure (true,())
   |.inr x=>.pure (x,())
def jh:Int->Comp A11:=fun x0=>.pure (rP x0 (Yc .i64 x0),())
def Za:List Int->Comp A11:=fun x0=>(Comp.loop (fun (x:A35)=>if ltI x.2 (zF x0)=true then (idx x0 x.2).bind fun a=>if eqI a (-9223372036854775808)=true then .pure (.done (Sum.inr 0)) else (jh a).bind fun b=>(Comp.loop (fun (x:A35)=>if gtI x.2 0=true then (rem x.1 x.2).bind fun c=>.pure (.next (x.2,c)) else .pure (.done x.1)) (x.1,b.1)).bind fun c=>.pure (.next (c,zJ .i64 x.2 1)) else .pure (.done (Sum.inl x.1))) (0,0)).bind fun (x:Int⊕Int)=>match x with
   |.inl x=>.pure (x,())
   |.inr x=>.pure (x,())
def Yu:A1×Int×Unit->Comp A9:=fun x0=>jn (fun (x:Bool)=>.pure (x,())) fun (j:Bool->Comp A9)=>(jG (Int.ofNat 4608) [x0.1.1,x0.1.2.1,x0.1.2.2.1]).bind fun x=>if x.1=true then (Za [x0.1.1,x0.1.2.1,x0.1.2.2.1]).bind fun x=>if eqI x.1 1=true then (jG (Int.ofNat 2097152) [x0.2.1]).bind fun x=>j x.1 else j false else j false
def jP:A1×Int×Unit->Comp A9:=fun x0=>(Yu x0).bind fun x=>.pure (ntB x.1,())
def gU:List A2->Comp A11:=fun x0=>if gtI (zF x0) 48=true then .pure (2,()) else (zY x0 fun (z:A2×Unit)=>jP z.1).bind fun x=>if x.1=true then .pure (12,()) else .pure (0,())
def jO:List A2->Comp A9:=fun x0=>(gU x0).bind fun x=>.pure (neI x.1 0,())
def ZU:List A3->Comp A9:=fun x0=>(zI x0 fun (z:A12)=>jO z.1).bind fun x=>.pure (ntB x.1,())
def vn:Int->Comp A12:=fun x0=>jn (fun (x:Unit)=>jn (fun (x:A3)=>.pure (x,())) fun (j:List A2->Comp A12)=>if gtI (gQ .i64 x0 0) 0=true then jn (fun (x:A3)=>j x) fun (j:List A2->Comp A12)=>((sub [] 0 0).bind fun (x:List Unit)=>.pure ()).bind fun x=>(mk (gQ .i64 x0 0) ((0,0,0,()),0,())).bind fun zs=>(sub zs 0 0).bind fun ys=>j ys else j []) fun (j:Unit->Comp A12)=>if ltI x0 0=true then Comp.fail else j ()
def zL:List A3->Comp A12:=fun x0=>(Comp.loop (fun (x:A35)=>if ltI x.2 (zF x0)=true then (idx x0 x.2).bind fun a=>jn (fun (b:Unit)=>.pure (.next (zJ .i64 x.1 (zF a),zJ .i64 x.2 1))) fun (j:Unit->Comp (Comp.Step A35 Int))=>if ltI (zJ .i64 x.1 (zF a)) 0=true then Comp.fail else j () else .pure (.done x.1)) (0,0)).bind fun x=>(vn x).bind fun y=>(Comp.loop (fun (x:A32)=>if ltI x.2 (zF x0)=true then (idx x0 x.2).bind fun a=>(app x.1 a).bind fun zs=>.pure (.next (zs,zJ .i64 x.2 1)) else .pure (.done x.1)) (y.1,0)).bind fun x=>.pure (x,())
def cell_of:List A3->Comp A12:=fun x0=>(zL x0).bind fun y=>(Comp.loop (fun (x:A32)=>if ltI x.2 (zF [(1,0,0,()),(-1,0,0,()),(0,1,0,()),(0, -1,0,()),(0,0,1,()),(0,0, -1,())])=true then (idx [(1,0,0,()),(-1,0,0,()),(0,1,0,()),(0, -1,0,()),(0,0,1,()),(0,0, -1,())] x.2).bind fun a=>(app x.1 [(a,24,())]).bind fun zs=>.pure (.next (zs,zJ .i64 x.2 1)) else .pure (.done x.1)) (y.1,0)).bind fun x=>.pure (x,())
def vm:List A2->Comp (List A12):=fun x0=>((YC (fun (x:Int)=>if ltI x (zF x0)=true then (idx x0 x).bind fun a=>(sub x0 (zJ .i64 x 1) (zF x0)).bind fun b=>(YC (fun (c:Int)=>if ltI c (zF b)=true then (idx b c).bind fun d=>(sub x0 (zJ .i64 (zJ .i64 x c) 2) (zF x0)).bind fun x=>(YC (fun (e:Int)=>if ltI e (zF x)=true then (idx x e).bind fun x=>tell [([a,d,x],())] (Comp.pure ([],.next (zJ .i64 e 1))) else .pure ([],.done (Sum.inl ()))) 0).bind fun (p:List A12×(Unit⊕Unit))=>tell p.1 (match p.2 with
              |.inl x=>.pure ([],.next (zJ .i64 c 1))
              |.inr x=>.pure ([],.done (Sum.inr ()))) else .pure ([],.done (Sum.inl ()))) 0).bind fun (p:List A12×(Unit⊕Unit))=>tell p.1 (match p.2 with
         |.inl c=>.pure ([],.next (zJ .i64 x 1))
         |.inr x=>.pure ([],.done (Sum.inr ()))) else .pure ([],.done (Sum.inl ()))) 0).bind fun (p:List A12×(Unit⊕Unit))=>tell p.1 (match p.2 with
    |.inl x=>.pure ([],())
    |.inr x=>.pure ([],()))).bind fun (p:List A12×Unit)=>.pure p.1
def j3:List A2->Comp (Comp (List A12)×Unit):=fun x0=>.pure (vm x0,())
def Zf:Int×Int×Int×Unit->Int×Int×Int×Unit->Comp A30:=fun x0 x1=>.pure ((gQ .i64 (kV .i64 x0.2.1 x1.2.2.1) (kV .i64 x0.2.2.1 x1.2.1),gQ .i64 (kV .i64 x0.2.2.1 x1.1) (kV .i64 x0.1 x1.2.2.1),gQ .i64 (kV .i64 x0.1 x1.2.1) (kV .i64 x0.2.1 x1.1),()),())
def ZX:Int×Int×Int×Unit->Int×Int×Int×Unit->Comp A11:=fun x0 x1=>.pure (zJ .i64 (zJ .i64 (kV .i64 x0.1 x1.1) (kV .i64 x0.2.1 x1.2.1)) (kV .i64 x0.2.2.1 x1.2.2.1),())
def Yb:Int×Int×Int×Unit->Int->Comp A30:=fun x0 x1=>.pure ((kV .i64 x0.1 x1,kV .i64 x0.2.1 x1,kV .i64 x0.2.2.1 x1,()),())
def XG:Int×Int×Int×Unit->Int×Int×Int×Unit->Comp A30:=fun x0 x1=>.pure ((zJ .i64 x0.1 x1.1,zJ .i64 x0.2.1 x1.2.1,zJ .i64 x0.2.2.1 x1.2.2.1,()),())
def Ka:List Int->Comp A11:=fun x0=>(Comp.loop (fun (x:A35)=>if ltI x.2 (zF x0)=true then (idx x0 x.2).bind fun a=>(Comp.loop (fun (x:A35)=>if neI x.2 0=true then (rem x.1 x.2).bind fun b=>.pure (.next (x.2,b)) else .pure (.done x.1)) (x.1,a)).bind fun b=>.pure (.next (b,zJ .i64 x.2 1)) else .pure (.done x.1)) (0,0)).bind fun x=>.pure (rP x (Yc .i64 x),())
def XK:List A2->Comp (A7×Bool×Unit):=fun x0=>(Comp.loop (fun (x:Int×Int×Int×Int×Int×Unit)=>if ltI x.2.1 3=true then (idx x0 x.2.1).bind fun a=>(rem (zJ .i64 x.2.1 1) 3).bind fun b=>(idx x0 b).bind fun c=>(rem (zJ .i64 x.2.1 2) 3).bind fun d=>(idx x0 d).bind fun e=>(Zf c.1 e.1).bind fun f=>(ZX a.1 f.1).bind fun g=>(Yb f.1 a.2.1).bind fun h=>(XG x.2.2 h.1).bind fun i=>.pure (.next (g.1,zJ .i64 x.2.1 1,i.1)) else .pure (.done (x.1,x.2.2))) (0,0,0,0,0,())).bind fun x=>if eqI x.1 0=true then .pure ((0,0,0,0,()),false,()) else (Ka [x.2.1,x.2.2.1,x.2.2.2.1,x.1]).bind fun a=>jn (fun (b:Int)=>(quo .i64 x.2.1 b).bind fun c=>(quo .i64 x.2.2.1 b).bind fun d=>(quo .i64 x.2.2.2.1 b).bind fun e=>(quo .i64 x.1 b).bind fun x=>.pure ((c,d,e,x,()),true,())) fun (j:Int->Comp (A7×Bool×Unit))=>if ltI x.1 0=true then j (Yc .i64 a.1) else j a.1
def ZZ:A1×Int×Unit->Int×Int×Int×Int×Unit->Comp A11:=fun x0 x1=>(ZX x0.1 (x1.1,x1.2.1,x1.2.2.1,())).bind fun x=>.pure (gQ .i64 (kV .i64 x0.2.1 x1.2.2.2.1) x.1,())
def gl:A1×Int×Unit->Int×Int×Int×Int×Unit->Comp A9:=fun x0 x1=>(ZZ x0 x1).bind fun x=>.pure (ltI x.1 0,())
def Zj:List A2->Int×Int×Int×Int×Unit->Comp A9:=fun x0 x1=>(zY x0 fun (z:A2×Unit)=>gl z.1 x1).bind fun x=>.pure (ntB x.1,())
def vh:List A2->Comp A38:=fun x0=>(j3 x0).bind fun (x:Comp (List A12)×Unit)=>x.1.bind fun xs=>(K1 (fun (x:List A7×List (A7×Bool)) (d:A12)=>(XK d.1).bind fun a=>(Comp.gd (sel a.2.1 (ntB (match mgB (fun (x b:A7)=>adB (eqI x.1 b.1) (adB (eqI x.2.1 b.2.1) (adB (eqI x.2.2.1 b.2.2.1) (eqI x.2.2.2.1 b.2.2.2.1)))) x.2 a.1 with
          |some x=>x
          |none=>false)) false) (Zj x0 a.1) (false,())).bind fun b=>jn (fun (x:List A7×List (A7×Bool))=>.pure (.next (x.1,x.2))) fun (j:List A7×List (A7×Bool)->Comp (Comp.Step (List A7×List (A7×Bool)) Empty))=>if sel (sel a.2.1 (ntB (match mgB (fun (x c:A7)=>adB (eqI x.1 c.1) (adB (eqI x.2.1 c.2.1) (adB (eqI x.2.2.1 c.2.2.1) (eqI x.2.2.2.1 c.2.2.2.1)))) x.2 a.1 with
             |some x=>x
             |none=>false)) false) b.1 false=true then (app x.1 [a.1]).bind fun zs=>j (zs,mpB (fun (x c:A7)=>adB (eqI x.1 c.1) (adB (eqI x.2.1 c.2.1) (adB (eqI x.2.2.1 c.2.2.1) (eqI x.2.2.2.1 c.2.2.2.1)))) x.2 a.1 true) else j (x.1,x.2)) xs ([],[])).bind fun (r:Comp.Step (List A7×List (A7×Bool)) Empty)=>match r with
     |.next x=>.pure (x.1,())
     |.done e=>nomatch e
def yS:Int×Int×Int×Int×Unit->A1×Int×Unit->Comp A9:=fun x0 x1=>(ZZ x1 x0).bind fun x=>.pure (gtI x.1 0,())
def vd:List A7->(A7×Unit->Comp A9)->Comp A11:=fun x0 x1=>(Comp.loop (fun (x:Int)=>if ltI x (zF x0)=true then (idx x0 x).bind fun a=>(x1 (a,())).bind fun b=>if b.1=true then .pure (.done (Sum.inr x)) else .pure (.next (zJ .i64 x 1)) else .pure (.done (Sum.inl ()))) 0).bind fun (x:A25)=>match x with
   |.inl x=>.pure (-1,())
   |.inr x=>.pure (x,())
def yL:List A7->(A7×Unit->Comp A9)->Comp A9:=fun x0 x1=>(vd x0 x1).bind fun x=>.pure (geI x.1 0,())
def y6:A1×Int×Unit->List A7->Comp A9:=fun x0 x1=>(yL x1 fun (z:A7×Unit)=>yS z.1 x0).bind fun x=>.pure (ntB x.1,())
def vQ:List A2->A27->Comp A11:=fun x0 x1=>(Comp.loop (fun (x:Int)=>if ltI x (zF x0)=true then (idx x0 x).bind fun a=>(x1 (a,())).bind fun b=>if b.1=true then .pure (.done (Sum.inr x)) else .pure (.next (zJ .i64 x 1)) else .pure (.done (Sum.inl ()))) 0).bind fun (x:A25)=>match x with
   |.inl x=>.pure (-1,())
   |.inr x=>.pure (x,())
def yF:List A2->A27->Comp A9:=fun x0 x1=>(vQ x0 x1).bind fun x=>.pure (geI x.1 0,())
def gh:List A2->Comp A9:=fun x0=>(vh x0).bind fun y=>(yF x0 fun (z:A2×Unit)=>y6 z.1 y.1).bind fun x=>.pure (ntB x.1,())
def jz:List A2->Comp A9:=fun x0=>jn (fun (x:Bool)=>.pure (x,())) fun (j:Bool->Comp A9)=>(ZU [x0]).bind fun x=>if x.1=true then (cell_of [x0]).bind fun y=>(gh y.1).bind fun x=>j x.1 else j false
def kU:List A2->List A2->Comp A9:=fun x0 x1=>jn (fun (x:Bool)=>.pure (x,())) fun (j:Bool->Comp A9)=>(ZU [x0,x1]).bind fun x=>if ntB (ntB x.1)=true then (cell_of [x0,x1]).bind fun y=>(gh y.1).bind fun x=>j (ntB x.1) else j true
def gj:List A2->List A2->Comp A9:=fun x0 x1=>(kU x1 x0).bind fun x=>.pure (ntB x.1,())
def jD:List A2->List A3->Comp A9:=fun x0 x1=>(zI x1 fun (z:A12)=>gj z.1 x0).bind fun x=>.pure (ntB x.1,())
def Yp:vC×List A3×List Int×Unit->Comp A11:=fun x0=>if sel (eqI (zF x0.2.1) 0) true (gtI (zF x0.2.1) 16)=true then .pure (2,()) else (Comp.gd (ntB (neI (zF x0.2.2.1) (zF x0.2.1))) (zj x0.2.2.1 fun (z:A11)=>vy z.1) (false,())).bind fun x=>if sel (neI (zF x0.2.2.1) (zF x0.2.1)) true x.1=true then .pure (1,()) else (Comp.loop (fun (x:Int)=>if ltI x (zF x0.2.1)=true then (idx x0.2.1 x).bind fun a=>(jz a).bind fun b=>(Comp.gd (ntB (ntB b.1)) (sub x0.2.1 0 x) []).bind fun c=>(Comp.gd (ntB (ntB b.1)) (jD a c) (false,())).bind fun d=>if sel (ntB b.1) true (ntB d.1)=true then .pure (.done (Sum.inr 13)) else .pure (.next (zJ .i64 x 1)) else .pure (.done (Sum.inl ()))) 0).bind fun (x:A25)=>match x with
      |.inl x=>.pure (0,())
      |.inr x=>.pure (x,())
def jH:List A2->Comp A9:=fun x0=>(gU x0).bind fun x=>.pure (neI x.1 0,())
def JP:vC×List A3×List Int×Unit->List Bool×List Bool×List A3×Unit->Comp A9:=fun x0 x1=>(Comp.gd (sel (sel (eqI (zF x1.1) (zF x0.2.1)) (eqI (zF x1.2.1) (zF x0.2.1)) false) (leI (zF x1.2.2.1) 24) false) (zI x1.2.2.1 fun (z:A12)=>jH z.1) (false,())).bind fun x=>.pure (sel (sel (sel (eqI (zF x1.1) (zF x0.2.1)) (eqI (zF x1.2.1) (zF x0.2.1)) false) (leI (zF x1.2.2.1) 24) false) (ntB x.1) false,())
def vo:Int->Comp A19:=fun x0=>jn (fun (x:Unit)=>jn (fun (x:A17)=>.pure (x,())) fun (j:List A3->Comp A19)=>if gtI (gQ .i64 x0 0) 0=true then jn (fun (x:A17)=>j x) fun (j:List A3->Comp A19)=>((sub [] 0 0).bind fun (x:List Unit)=>.pure ()).bind fun x=>(mk (gQ .i64 x0 0) []).bind fun zs=>(sub zs 0 0).bind fun ys=>j ys else j []) fun (j:Unit->Comp A19)=>if ltI x0 0=true then Comp.fail else j ()
def yR:List A17->Comp A19:=fun x0=>(Comp.loop (fun (x:A35)=>if ltI x.2 (zF x0)=true then (idx x0 x.2).bind fun a=>jn (fun (b:Unit)=>.pure (.next (zJ .i64 x.1 (zF a),zJ .i64 x.2 1))) fun (j:Unit->Comp (Comp.Step A35 Int))=>if ltI (zJ .i64 x.1 (zF a)) 0=true then Comp.fail else j () else .pure (.done x.1)) (0,0)).bind fun x=>(vo x).bind fun y=>(Comp.loop (fun (x:A22)=>if ltI x.2 (zF x0)=true then (idx x0 x.2).bind fun a=>(app x.1 a).bind fun zs=>.pure (.next (zs,zJ .i64 x.2 1)) else .pure (.done x.1)) (y.1,0)).bind fun x=>.pure (x,())
def jk:List Int->Comp A9:=fun x0=>(Comp.loop (fun (x:Int)=>if ltI x (zF x0)=true then (idx x0 x).bind fun a=>(idx x0 (gQ .i64 x 1)).bind fun b=>if leI a b=true then .pure (.done (Sum.inr false)) else .pure (.next (zJ .i64 x 1)) else .pure (.done (Sum.inl ()))) 1).bind fun (x:A29)=>match x with
   |.inl x=>.pure (true,())
   |.inr x=>.pure (x,())
def Zg:List A4->Int->Comp A11:=fun x0 x1=>(idx x0 x1).bind fun x=>(yR [x.1,x.2.1]).bind fun y=>(Comp.loop (fun (a:Int)=>if ltI a (zF y.1)=true then (idx y.1 a).bind fun x=>(gU x).bind fun x=>if neI x.1 0=true then .pure (.done (Sum.inr x.1)) else .pure (.next (zJ .i64 a 1)) else .pure (.done (Sum.inl ()))) 0).bind fun (a:A25)=>match a with
     |.inl b=>if sel (ltI x.2.2.1 1) true (gtI x.2.2.1 1048576)=true then .pure (3,()) else (Comp.loop (fun (c:Int)=>if ltI c (zF x.2.2.2.1)=true then (idx x.2.2.2.1 c).bind fun d=>if sel (sel (ltI d 0) true (geI d (zF x0))) true (eqI d x1)=true then .pure (.done (Sum.inr 3)) else .pure (.next (zJ .i64 c 1)) else .pure (.done (Sum.inl ()))) 0).bind fun (c:A25)=>match c with
        |.inl d=>(jk x.2.2.2.1).bind fun x=>if ntB x.1=true then .pure (7,()) else .pure (0,())
        |.inr x=>.pure (x,())
     |.inr x=>.pure (x,())
def kR:A8×A5×List A4×Unit->Comp A11:=fun x0=>(Yp x0.1).bind fun x=>if neI x.1 0=true then .pure (x.1,()) else (JP x0.1 x0.2.1).bind fun x=>if ntB x.1=true then .pure (4,()) else if gtI (zF x0.2.2.1) 8=true then .pure (2,()) else (Comp.loop (fun (x:A35)=>if ltI x.2 (zF x0.2.2.1)=true then (idx x0.2.2.1 x.2).bind fun a=>(Zg x0.2.2.1 x.2).bind fun b=>if neI b.1 0=true then .pure (.done (Sum.inr b.1)) else .pure (.next (zJ .i64 x.1 (zF a.1),zJ .i64 x.2 1)) else .pure (.done (Sum.inl x.1))) (zF x0.2.1.2.2.1,0)).bind fun (x:Int⊕Int)=>match x with
        |.inl x=>if gtI x 24=true then .pure (2,()) else .pure (0,())
        |.inr x=>.pure (x,())
def YM:A8×A5×List A4×Unit->List Int->Comp (List Bool×Bool×Unit):=fun x0 x1=>(Comp.loop (fun (x:Int×List Bool)=>if ltI x.1 (zF x1)=true then (idx x1 x.1).bind fun a=>if sel (ltI a 0) true (geI a (zF x0.2.2.1))=true then .pure (.done (Sum.inr (false,[false,false,false,false,false,false,false,false]))) else (inb 8 a).bind fun b=>.pure (.next (zJ .i64 x.1 1,j9 x.2 a true)) else .pure (.done (Sum.inl x.2))) (0,[false,false,false,false,false,false,false,false])).bind fun (x:List Bool⊕Bool×List Bool)=>match x with
   |.inl x=>(jk x1).bind fun a=>.pure (x,a.1,())
   |.inr x=>.pure (x.2,x.1,())
def vr:List A2->List A3->Comp A9:=fun x0 x1=>(jD x0 x1).bind fun x=>.pure (ntB x.1,())
def kQ:A8×A5×List A4×Unit->Comp ((A15×List Bool×Unit)×Unit):=fun x0=>(Comp.loop (fun (x:Int×List A3)=>if ltI x.1 (zF x0.1.2.1)=true then (idx x0.1.2.1 x.1).bind fun a=>(idx x0.1.2.2.1 x.1).bind fun b=>jn (fun (c:A17)=>.pure (.next (zJ .i64 x.1 1,c))) fun (j:List A3->Comp (Comp.Step (Int×List A3) A17))=>if eqI b 1=true then (app x.2 [a]).bind fun zs=>j zs else j x.2 else .pure (.done x.2)) (0,[])).bind fun x=>(Comp.loop (fun (a:Int×A13×List Bool×Unit)=>if ltI a.1 (zF x0.2.2.1)=true then (idx x0.2.2.1 a.1).bind fun b=>(zI b.1 fun (z:A12)=>vr z.1 x).bind fun c=>(Comp.gd (ntB c.1) (zI b.2.1 fun (z:A12)=>vr z.1 x) (false,())).bind fun x=>(inb 8 a.1).bind fun d=>.pure (.next (zJ .i64 a.1 1,a.2.1,j9 a.2.2.1 a.1 (sel c.1 true x.1),())) else .pure (.done a.2)) (0,x0,[false,false,false,false,false,false,false,false],())).bind fun x=>.pure (x,())
def vq:List Bool->Comp A26:=fun x0=>(Comp.loop (fun (x:List Int×Int)=>if ltI x.2 8=true then (idx x0 x.2).bind fun a=>jn (fun (b:A16)=>.pure (.next (b,zJ .i64 x.2 1))) fun (j:List Int->Comp (Comp.Step (List Int×Int) A16))=>if a=true then (app x.1 [x.2]).bind fun zs=>j zs else j x.1 else .pure (.done x.1)) ([],0)).bind fun x=>.pure (x,())
def yu:Int->List Bool->Comp A9:=fun x0 x1=>(idx x1 x0).bind fun x=>.pure (ntB x,())
def jj:A15×List Bool×Unit->List Bool->Comp (List Bool×Unit):=fun x0 x1=>(Comp.loop (fun (x:Int×List Bool)=>if ltI x.1 (zF x0.1.2.2.1)=true then (idx x1 x.1).bind fun a=>(Comp.gd (ntB a) (idx x0.2.1 x.1) false).bind fun b=>(inb 8 x.1).bind fun c=>.pure (.next (zJ .i64 x.1 1,j9 x.2 x.1 (sel (ntB a) (ntB b) false))) else .pure (.done x.2)) (0,[false,false,false,false,false,false,false,false])).bind fun x=>(Comp.loop (fun (a:List Bool×List Bool)=>if ntB (eqA (fun (x b:Bool)=>eqB x b) a.1 a.2)=true then (vq a.2).bind fun y=>(Comp.loop (fun (b:Int×List Bool)=>if ltI b.1 (zF y.1)=true then (idx y.1 b.1).bind fun x=>(idx x0.1.2.2.1 x).bind fun c=>(zj c.2.2.2.1 fun (z:A11)=>yu z.1 b.2).bind fun d=>(inb 8 x).bind fun e=>.pure (.next (zJ .i64 b.1 1,j9 b.2 x (ntB d.1))) else .pure (.done b.2)) (0,a.2)).bind fun x=>.pure (.next (a.2,x)) else .pure (.done a.2)) ([false,false,false,false,false,false,false,false],x)).bind fun x=>.pure (x,())
def vW:A15×List Bool×Unit->List Bool->Comp A9:=fun x0 x1=>(Comp.loop (fun (x:Int×List Bool)=>if ltI x.1 (zF x0.1.2.2.1)=true then (idx x1 x.1).bind fun a=>(inb 8 x.1).bind fun b=>.pure (.next (zJ .i64 x.1 1,j9 x.2 x.1 (ntB a))) else .pure (.done x.2)) (0,[false,false,false,false,false,false,false,false])).bind fun x=>(jj x0 x).bind fun x=>.pure (eqA (fun (x a:Bool)=>eqB x a) x.1 x1,())
def zq:A8×A5×List A4×Unit->List Int->Comp A9:=fun x0 x1=>(kR x0).bind fun x=>if neI x.1 0=true then .pure (false,()) else (YM x0 x1).bind fun x=>(Comp.gd x.2.1 (kQ x0) (((([],[],[],()),([],[],[],()),[],()),[],()),())).bind fun (a:(A13×List Bool×Unit)×Unit)=>(Comp.gd x.2.1 (vW a.1 x.1) (false,())).bind fun b=>.pure (sel x.2.1 b.1 false,())
def gL:Comp (A15×Unit):=y5.bind fun y=>(inb y.1.2.2.1.length 1).bind fun x=>(idx y.1.2.2.1 1).bind fun (z:A4)=>.pure ((y.1.1,y.1.2.1,j9 y.1.2.2.1 1 (z.1,z.2.1,z.2.2.1,[2],z.2.2.2.2),()),())
def zh:List A3->Comp A19:=fun x0=>amb (uM x0) (Comp.pure ([],())) ((app [] x0).bind fun zs=>.pure (zs,()))
def yX:List A2->List A2->Comp A9:=fun x0 x1=>(kU x0 x1).bind fun x=>.pure (x.1,())
def zm:List A3->A34->Comp A17:=fun xs x0=>(yI xs x0).bind fun x=>if eqI x.1 (-1)=true then .pure xs else (Comp.loop (fun (x:List A3×Int×Int)=>if ltI x.2.2 (zF x.1)=true then (idx x.1 x.2.2).bind fun a=>(x0 (a,())).bind fun b=>jn (fun (c:A22)=>.pure (.next (c.1,c.2,zJ .i64 x.2.2 1))) fun (j:List A3×Int->Comp (Comp.Step (List A3×Int×Int) A22))=>if ntB b.1=true then (inb x.1.length x.2.1).bind fun c=>j (j9 x.1 x.2.1 a,zJ .i64 x.2.1 1) else j (x.1,x.2.1) else .pure (.done (x.1,x.2.1))) (xs,x.1,zJ .i64 x.1 1)).bind fun x=>((sub x.1 x.2 (zF x.1)).bind fun x=>.pure ()).bind fun a=>(sub x.1 (Int.ofNat x.2.toNat) (zF x.1)).bind fun b=>jn (fun (x:A17)=>.pure x) fun (j:List A3->Comp A17)=>(sub (List.take x.2.toNat x.1++List.replicate (x.1.length.sub x.2.toNat) []) 0 x.2).bind fun ys=>j ys
def Yr:List A3->Comp A11:=fun x0=>if gtI (zF x0) 16=true then .pure (2,()) else (Comp.loop (fun (x:Int)=>if ltI x (zF x0)=true then (idx x0 x).bind fun a=>(gU a).bind fun b=>if neI b.1 0=true then .pure (.done (Sum.inr b.1)) else .pure (.next (zJ .i64 x 1)) else .pure (.done (Sum.inl ()))) 0).bind fun (x:A25)=>match x with
    |.inl x=>.pure (0,())
    |.inr x=>.pure (x,())
def Yx:List A2->Comp A38:=fun x0=>(ZU [x0]).bind fun x=>if ntB x.1=true then .pure ([],()) else (cell_of [x0]).bind fun y=>(vh y.1).bind fun y=>.pure (y.1,())
def yW:List A2->Comp A12:=fun x0=>amb (uM x0) (Comp.pure ([],())) ((app [] x0).bind fun zs=>.pure (zs,()))
def jx:A1×Int×Unit->List A7->Comp A9:=fun x0 x1=>(Comp.loop (fun (x:A35)=>if ltI x.2 (zF x1)=true then (idx x1 x.2).bind fun a=>(ZZ x0 a).bind fun b=>jn (fun (c:Int)=>.pure (.next (c,zJ .i64 x.2 1))) fun (j:Int->Comp (Comp.Step A35 Int))=>if eqI b.1 0=true then j (zJ .i64 x.1 1) else j x.1 else .pure (.done x.1)) (0,0)).bind fun x=>.pure (ltI x 3,())
def yE:List A2->A27->Comp A3:=fun xs x0=>(yH xs x0).bind fun x=>if eqI x.1 (-1)=true then .pure xs else (Comp.loop (fun (x:List A2×Int×Int)=>if ltI x.2.2 (zF x.1)=true then (idx x.1 x.2.2).bind fun a=>(x0 (a,())).bind fun b=>jn (fun (c:A32)=>.pure (.next (c.1,c.2,zJ .i64 x.2.2 1))) fun (j:List A2×Int->Comp (Comp.Step (List A2×Int×Int) A32))=>if ntB b.1=true then (inb x.1.length x.2.1).bind fun c=>j (j9 x.1 x.2.1 a,zJ .i64 x.2.1 1) else j (x.1,x.2.1) else .pure (.done (x.1,x.2.1))) (xs,x.1,zJ .i64 x.1 1)).bind fun x=>((sub x.1 x.2 (zF x.1)).bind fun x=>.pure ()).bind fun a=>(sub x.1 (Int.ofNat x.2.toNat) (zF x.1)).bind fun b=>jn (fun (x:A3)=>.pure x) fun (j:List A2->Comp A3)=>(sub (List.take x.2.toNat x.1++List.replicate (x.1.length.sub x.2.toNat) ((0,0,0,()),0,())) 0 x.2).bind fun ys=>j ys
def zz:List A2->(A2×A2×Unit->Comp A11)->Comp A3:=Ce
def Ze:Int->Int->Comp A11:=fun x0 x1=>if ltI x0 x1=true then .pure (-1,()) else if gtI x0 x1=true then .pure (1,()) else .pure (0,())
def kC:A1×Int×Unit->A1×Int×Unit->Comp A11:=fun x0 x1=>(Comp.loop (fun (x:A35)=>if ltI x.2 (zF [[x0.1.1,x1.1.1],[x0.1.2.1,x1.1.2.1],[x0.1.2.2.1,x1.1.2.2.1],[x0.2.1,x1.2.1]])=true then (idx [[x0.1.1,x1.1.1],[x0.1.2.1,x1.1.2.1],[x0.1.2.2.1,x1.1.2.2.1],[x0.2.1,x1.2.1]] x.2).bind fun a=>(idx a 0).bind fun b=>(idx a 1).bind fun c=>(Ze b c).bind fun d=>if eqI d.1 0=true then .pure (.next (d.1,zJ .i64 x.2 1)) else .pure (.done d.1) else .pure (.done x.1)) (0,0)).bind fun x=>.pure (x,())
def z7:List A2->Comp A3:=fun xs=>if ltI (zF xs) 2=true then .pure xs else (Comp.loop (fun (x:A32)=>if ltI x.2 (zF x.1)=true then (idx x.1 x.2).bind fun a=>(idx x.1 (gQ .i64 x.2 1)).bind fun b=>if adB (adB (eqI a.1.1 b.1.1) (adB (eqI a.1.2.1 b.1.2.1) (eqI a.1.2.2.1 b.1.2.2.1))) (eqI a.2.1 b.2.1)=true then ((sub x.1 x.2 (zF x.1)).bind fun x=>.pure ()).bind fun c=>(Comp.loop (fun (d:List A2×Int×Int)=>if ltI d.2.2 (zF (List.drop x.2.toNat d.1))=true then (idx (List.drop x.2.toNat d.1) d.2.2).bind fun e=>(idx (List.drop x.2.toNat d.1) (gQ .i64 d.2.2 1)).bind fun f=>jn (fun (x:A32)=>.pure (.next (x.1,x.2,zJ .i64 d.2.2 1))) fun (j:List A2×Int->Comp (Comp.Step (List A2×Int×Int) A32))=>if ntB (adB (adB (eqI e.1.1 f.1.1) (adB (eqI e.1.2.1 f.1.2.1) (eqI e.1.2.2.1 f.1.2.2.1))) (eqI e.2.1 f.2.1))=true then (idx (List.drop x.2.toNat d.1) d.2.2).bind fun x=>(inb d.1.length d.2.1).bind fun g=>j (j9 d.1 d.2.1 x,zJ .i64 d.2.1 1) else j (d.1,d.2.1) else .pure (.done (d.1,d.2.1))) (x.1,x.2,1)).bind fun x=>((sub x.1 x.2 (zF x.1)).bind fun x=>.pure ()).bind fun d=>(sub x.1 (Int.ofNat x.2.toNat) (zF x.1)).bind fun e=>jn (fun (x:A3)=>.pure (.done (Sum.inr x))) fun (j:List A2->Comp (Comp.Step A32 (List A2⊕List A2)))=>(sub (List.take x.2.toNat x.1++List.replicate (x.1.length.sub x.2.toNat) ((0,0,0,()),0,())) 0 x.2).bind fun ys=>j ys else .pure (.next (x.1,zJ .i64 x.2 1)) else .pure (.done (Sum.inl x.1))) (xs,1)).bind fun (x:List A2⊕List A2)=>match x with
    |.inl x=>.pure x
    |.inr x=>.pure x
def gN:List A2->Comp A12:=fun x0=>(jz x0).bind fun x=>if ntB x.1=true then .pure ([],()) else (Yx x0).bind fun y=>(yW x0).bind fun y_1=>(yE y_1.1 fun (z:A2×Unit)=>jx z.1 y.1).bind fun ys=>(zz ys fun (z:A2×A2×Unit)=>kC z.1 z.2.1).bind fun ys=>(z7 ys).bind fun ys=>.pure (ys,())
def wB:Int×Int×Int×Unit->Int×Int×Int×Unit->Comp A30:=fun x0 x1=>.pure ((gQ .i64 x0.1 x1.1,gQ .i64 x0.2.1 x1.2.1,gQ .i64 x0.2.2.1 x1.2.2.1,()),())
def YW:A1×Int×Unit->Comp (A2×Unit):=fun x0=>(wB (0,0,0,()) x0.1).bind fun x=>.pure ((x.1,Yc .i64 x0.2.1,()),())
def jg:List A2->List A2->Comp (List A42):=fun x0 x1=>((YC (fun (x:A32)=>if ltI x.2 (zF x1)=true then (idx x1 x.2).bind fun a=>if geI (zF x.1) 48=true then tell [(none,())] (Comp.pure ([],.done (Sum.inr ()))) else (YW a).bind fun b=>(zL [x.1,[b.1]]).bind fun y=>(gN y.1).bind fun y_1=>if gtI (zF y_1.1) 0=true then tell [(some y_1.1,())] ((zL [x.1,[a]]).bind fun y=>(gN y.1).bind fun y=>.pure ([],.next (y.1,zJ .i64 x.2 1))) else (zL [x.1,[a]]).bind fun y=>(gN y.1).bind fun y=>.pure ([],.next (y.1,zJ .i64 x.2 1)) else .pure ([],.done (Sum.inl ()))) (x0,0)).bind fun (p:List A42×(Unit⊕Unit))=>tell p.1 (match p.2 with
    |.inl x=>.pure ([],())
    |.inr x=>.pure ([],()))).bind fun (p:List A42×Unit)=>.pure p.1
def Zd:List A2->List A2->Comp (Comp (List A42)×Unit):=fun x0 x1=>.pure (jg x0 x1,())
def kB:List A3->List A2->Comp A20:=fun x0 x1=>(jz x1).bind fun x=>if ntB x.1=true then .pure (x0,0,()) else (gN x1).bind fun y=>(Comp.loop (fun (x:Int×List A3×Int×List A3)=>if ltI x.1 (zF x0)=true then jn (fun (a:List A3×Int×List A3)=>.pure (.next (zJ .i64 x.1 1,a.1,a.2.1,a.2.2))) fun (j:List A3×Int×List A3->Comp (Comp.Step (Int×List A3×Int×List A3) (List A3×Int×List A3⊕List A3×Int)))=>(idx x0 x.1).bind fun a=>(kU a x1).bind fun b=>if b.1=true then (app x.2.2.2 [a]).bind fun zs=>j (x.2.1,x.2.2.1,zs) else (Zd a y.1).bind fun (c:Comp (List A42)×Unit)=>c.1.bind fun xs=>(K1 (fun (x:List A3×Int×List A3) (d:A42)=>match d.1 with
                |none=>.pure (.done ([],Int.ofNat 9))
                |some xs=>amb (uM xs) (Comp.pure (.done ([],Int.ofNat 9))) ((app x.2.2 [xs]).bind fun zs=>.pure (.next (x.1,x.2.1,zs)))) xs (x.2.1,x.2.2.1,x.2.2.2)).bind fun (r:Comp.Step (List A3×Int×List A3) A22)=>match r with
               |.next x=>j (x.1,x.2.1,x.2.2)
               |.done e=>.pure (.done (Sum.inr (e.1,e.2))) else .pure (.done (Sum.inl (x.2.1,x.2.2.1,x.2.2.2)))) (0,[],0,[])).bind fun (a:List A3×Int×List A3⊕List A3×Int)=>match a with
      |.inl b=>if gtI (zF b.2.2) 200=true then .pure ([],9,()) else .pure (b.2.2,0,())
      |.inr x=>.pure (x.1,x.2,())
def Yq:List A2->List A3->Comp A20:=fun x0 x1=>(gU x0).bind fun x=>if neI x.1 0=true then .pure ([],x.1,()) else (Yr x1).bind fun x=>if neI x.1 0=true then .pure ([],x.1,()) else (jz x0).bind fun x=>if ntB x.1=true then .pure ([],0,()) else (gN x0).bind fun y=>(Comp.loop (fun (x:A22)=>if ltI x.2 (zF x1)=true then (idx x1 x.2).bind fun a=>(kB x.1 a).bind fun b=>if neI b.2.1 0=true then .pure (.done (Sum.inr ([],b.2.1))) else .pure (.next (b.1,zJ .i64 x.2 1)) else .pure (.done (Sum.inl x.1))) ([y.1],0)).bind fun (x:A36)=>match x with
          |.inl x=>.pure (x,0,())
          |.inr x=>.pure (x.1,x.2,())
def kt:List A3->List A2->Comp A21:=fun x0 x1=>(Yq x1 x0).bind fun x=>.pure (sel (eqI x.2.1 0) (eqI (zF x.1) 0) false,x.2.1,())
def vF:A15×List Bool×Unit->List Bool->Comp A21:=fun x0 x1=>(zh x0.1.2.1.2.2.1).bind fun y=>(vq x1).bind fun y_1=>(Comp.loop (fun (x:A22)=>if ltI x.2 (zF y_1.1)=true then (idx y_1.1 x.2).bind fun a=>(idx x0.1.2.2.1 a).bind fun b=>(app x.1 b.1).bind fun zs=>.pure (.next (zs,zJ .i64 x.2 1)) else .pure (.done x.1)) (y.1,0)).bind fun x=>(Comp.loop (fun (a:Int)=>if ltI a (zF x0.1.1.2.1)=true then jn (fun (x:Unit)=>.pure (.next (zJ .i64 a 1))) fun (j:Unit->Comp (Comp.Step Int (Unit⊕Bool×Int)))=>(idx x0.1.1.2.1 a).bind fun b=>(idx x0.1.1.2.2.1 a).bind fun c=>(Comp.gd (ntB (neI c 2)) (idx x0.1.2.1.1 a) false).bind fun d=>if sel (neI c 2) true d=true then j () else (zh x).bind fun y=>(zm y.1 fun (z:A12)=>yX z.1 b).bind fun ys=>(kt ys b).bind fun x=>if ntB x.1=true then .pure (.done (Sum.inr (false,x.2.1))) else j () else .pure (.done (Sum.inl ()))) 0).bind fun (x:Unit⊕Bool×Int)=>match x with
      |.inl x=>.pure (true,0,())
      |.inr x=>.pure (x.1,x.2,())
def jE:A8×A5×List A4×Unit->List Int->Comp A21:=fun x0 x1=>(kR x0).bind fun x=>if neI x.1 0=true then .pure (false,x.1,()) else (YM x0 x1).bind fun x=>if ntB x.2.1=true then .pure (false,1,()) else (vF (x0,[false,false,false,false,false,false,false,false],()) x.1).bind fun x=>.pure (x.1,x.2.1,())
def yB:A8×A5×List A4×Unit->Bool->List Int->Comp A9:=fun x0 x1 x2=>(jE x0 x2).bind fun x=>.pure (sel (eqI x.2.1 0) (eqB x.1 x1) false,())
def vU:A15×List Bool×Unit->List Bool->Comp A11:=fun x0 x1=>(vq x1).bind fun y=>(Comp.loop (fun (x:A35)=>if ltI x.2 (zF y.1)=true then (idx y.1 x.2).bind fun a=>(idx x0.1.2.2.1 a).bind fun b=>.pure (.next (zJ .i64 x.1 b.2.2.1,zJ .i64 x.2 1)) else .pure (.done x.1)) (0,0)).bind fun x=>.pure (x,())
def YU(recF:Int->List Bool->A15×List Bool×Unit->Int->List Bool->Comp (Sum Int (Int×List Bool×Unit))):Int->List Bool->A15×List Bool×Unit->Int->List Bool->Comp (Sum Int (Int×List Bool×Unit)):=fun x0 x1 c0 y0 y1=>(vW c0 x1).bind fun x=>jn (fun (x:Int×List Bool)=>(Comp.loop (fun (x:Int×Int×List Bool)=>if ltI x.1 (zF c0.1.2.2.1)=true then (inb 8 x.1).bind fun a=>(recF (zJ .i64 x.1 1) (j9 x1 x.1 true) c0 x.2.1 x.2.2).bind fun (r:Int⊕Int×List Bool×Unit)=>match r with
          |.inl z=>.pure (.done (Sum.inr z))
          |.inr y=>.pure (.next (zJ .i64 x.1 1,y.1,y.2.1)) else .pure (.done (Sum.inl (x.2.1,x.2.2)))) (x0,x.1,x.2)).bind fun (x:Int×List Bool⊕Int)=>match x with
      |.inl x=>.pure (Sum.inr (x.1,x.2,()))
      |.inr x=>.pure (Sum.inl x)) fun (j:Int×List Bool->Comp (Int⊕Int×List Bool×Unit))=>if x.1=true then (vF c0 x1).bind fun x=>if neI x.2.1 0=true then .pure (Sum.inl x.2.1) else (vU c0 x1).bind fun a=>jn (fun (x:Int×List Bool)=>j (x.1,x.2)) fun (j:Int×List Bool->Comp (Int⊕Int×List Bool×Unit))=>if sel x.1 (sel (ltI y0 0) true (ltI a.1 y0)) false=true then j (a.1,x1) else j (y0,y1) else j (y0,y1)
def YE:Nat->Int->List Bool->A15×List Bool×Unit->Int->List Bool->Comp (Sum Int (Int×List Bool×Unit)):=S0 (fun _ _ _ _ _=>Comp.fail) YU
def gD:A15×List Bool×Unit->List Bool->List Bool->Comp A9:=fun x0 x1 x2=>(jj x0 x2).bind fun x=>(vq x1).bind fun y=>(Comp.loop (fun (a:Int)=>if ltI a (zF y.1)=true then (idx y.1 a).bind fun b=>(idx x.1 b).bind fun c=>if ntB c=true then .pure (.done (Sum.inr true)) else .pure (.next (zJ .i64 a 1)) else .pure (.done (Sum.inl ()))) 0).bind fun (a:A29)=>match a with
     |.inl b=>(vF x0 x.1).bind fun x=>.pure (sel (eqI x.2.1 0) (ntB x.1) false,())
     |.inr x=>.pure (x,())
def j0(recF:Int->List Bool->List Bool->Int->A15×List Bool×Unit->List A10->Comp (Sum Unit A41)):Int->List Bool->List Bool->Int->A15×List Bool×Unit->List A10->Comp (Sum Unit A41):=fun x0 x1 x2 c0 c1 y0=>(Comp.gd (gtI c0 0) (vU c1 x1) (0,())).bind fun x=>jn (fun (x:List A10)=>.pure (Sum.inr (x,()))) fun (j:List A10->Comp (Unit⊕List A10×Unit))=>if sel (gtI c0 0) (geI x.1 c0) false=true then (app y0 [(2,0,())]).bind fun zs=>j zs else (Comp.gd (ntB (geI x0 (zF c1.1.2.2.1))) (gD c1 x1 x2) (false,())).bind fun x=>jn (fun (x:List A10)=>j x) fun (j:List A10->Comp (Unit⊕List A10×Unit))=>if sel (geI x0 (zF c1.1.2.2.1)) true x.1=true then (app y0 [(3,0,())]).bind fun zs=>j zs else (app y0 [(1,x0,())]).bind fun zs=>(inb 8 x0).bind fun x=>(inb 8 x0).bind fun x=>(recF (zJ .i64 x0 1) (j9 x1 x0 true) x2 c0 c1 zs).bind fun (r:Unit⊕List A10×Unit)=>match r with
            |.inl z=>.pure (Sum.inl z)
            |.inr y=>(recF (zJ .i64 x0 1) x1 (j9 x2 x0 true) c0 c1 y.1).bind fun (r:Unit⊕List A10×Unit)=>match r with
              |.inl z=>.pure (Sum.inl z)
              |.inr y=>j y.1
def jV:Nat->Int->List Bool->List Bool->Int->A15×List Bool×Unit->List A10->Comp (Sum Unit A41):=S0 (fun _ _ _ _ _ _=>Comp.fail) j0
def ji:A15×List Bool×Unit->Int->Comp A41:=fun x0 x1=>(jV 40 0 [false,false,false,false,false,false,false,false] [false,false,false,false,false,false,false,false] x1 x0 []).bind fun (r:Unit⊕List A10×Unit)=>match r with
   |.inl z=>Comp.fail
   |.inr y=>.pure (y.1,())
def jy:A8×A5×List A4×Unit->Comp A18:=fun x0=>(kR x0).bind fun x=>if neI x.1 0=true then .pure ([],0,[],x.1,()) else (kQ x0).bind fun (x:(A13×List Bool×Unit)×Unit)=>(YE 40 0 [false,false,false,false,false,false,false,false] x.1 (Int.negSucc 0) [false,false,false,false,false,false,false,false]).bind fun (r:Int⊕Int×List Bool×Unit)=>match r with
      |.inl z=>jn (fun (x:A40)=>.pure (x.1,x.2.1,x.2.2.1,x.2.2.2,())) fun (j:A33)=>j ([],0,[],z)
      |.inr y=>if eqI y.1 (-1)=true then (ji x.1 (Int.ofNat 0)).bind fun y=>jn (fun (x:A40)=>.pure (x.1,x.2.1,x.2.2.1,x.2.2.2,())) fun (j:A33)=>j ([],0,y.1,Int.ofNat 60) else if eqI y.1 0=true then jn (fun (x:A40)=>.pure (x.1,x.2.1,x.2.2.1,x.2.2.2,())) fun (j:A33)=>j ([],0,[],Int.ofNat 0) else (vq y.2.1).bind fun y_1=>(ji x.1 y.1).bind fun aF=>jn (fun (x:A40)=>.pure (x.1,x.2.1,x.2.2.1,x.2.2.2,())) fun (j:A33)=>j (y_1.1,y.1,aF.1,Int.ofNat 0)
def yj:List Int->List Int->Comp A9:=fun x0 x1=>if neI (zF x0) (zF x1)=true then .pure (false,()) else (Comp.loop (fun (x:Int)=>if ltI x (zF x0)=true then (idx x0 x).bind fun a=>(idx x1 x).bind fun b=>if neI a b=true then .pure (.done (Sum.inr false)) else .pure (.next (zJ .i64 x 1)) else .pure (.done (Sum.inl ()))) 0).bind fun (x:A29)=>match x with
    |.inl x=>.pure (true,())
    |.inr x=>.pure (x,())
def Z7(recF:List Bool->List Bool->List A10->A15×List Bool×Unit->Int->Int->Comp (Sum Unit A11)):List Bool->List Bool->List A10->A15×List Bool×Unit->Int->Int->Comp (Sum Unit A11):=fun x0 x1 c0 c1 c2 y0=>if geI y0 (zF c0)=true then .pure (Sum.inl ()) else (idx c0 y0).bind fun x=>(Comp.gd (sel (sel (eqI x.1 1) (geI x.2.1 0) false) (ltI x.2.1 (zF c1.1.2.2.1)) false) (idx x0 x.2.1) false).bind fun a=>(Comp.gd (sel (sel (sel (eqI x.1 1) (geI x.2.1 0) false) (ltI x.2.1 (zF c1.1.2.2.1)) false) (ntB a) false) (idx x1 x.2.1) false).bind fun b=>jn (fun (x:Int)=>.pure (Sum.inr (x,()))) fun (j:Int->Comp (Unit⊕Int×Unit))=>if sel (sel (sel (sel (eqI x.1 1) (geI x.2.1 0) false) (ltI x.2.1 (zF c1.1.2.2.1)) false) (ntB a) false) (ntB b) false=true then (inb 8 x.2.1).bind fun c=>(inb 8 x.2.1).bind fun d=>(recF (j9 x0 x.2.1 true) x1 c0 c1 c2 (zJ .i64 y0 1)).bind fun (r:Unit⊕Int×Unit)=>match r with
           |.inl z=>.pure (Sum.inl z)
           |.inr y=>(recF x0 (j9 x1 x.2.1 true) c0 c1 c2 y.1).bind fun (r:Unit⊕Int×Unit)=>match r with
             |.inl z=>.pure (Sum.inl z)
             |.inr y=>j y.1 else (Comp.gd (sel (sel (eqI x.1 2) (eqI x.2.1 0) false) (gtI c2 0) false) (vU c1 x0) (0,())).bind fun c=>jn (fun (x:Unit)=>j (zJ .i64 y0 1)) fun (j:Unit->Comp (Unit⊕Int×Unit))=>if sel (sel (sel (eqI x.1 2) (eqI x.2.1 0) false) (gtI c2 0) false) (geI c.1 c2) false=true then j () else (Comp.gd (sel (eqI x.1 3) (eqI x.2.1 0) false) (gD c1 x0 x1) (false,())).bind fun d=>if sel (sel (eqI x.1 3) (eqI x.2.1 0) false) d.1 false=true then j () else .pure (Sum.inl ())
def kD:Nat->List Bool->List Bool->List A10->A15×List Bool×Unit->Int->Int->Comp (Sum Unit A11):=S0 (fun _ _ _ _ _ _=>Comp.fail) Z7
def za:A8×A5×List A4×Unit->Int->List A10->Comp A9:=fun x0 x1 x2=>(kR x0).bind fun x=>if sel (neI x.1 0) true (ltI x1 0)=true then .pure (false,()) else (kQ x0).bind fun (x:(A13×List Bool×Unit)×Unit)=>(kD 40 [false,false,false,false,false,false,false,false] [false,false,false,false,false,false,false,false] x2 x.1 x1 (Int.ofNat 0)).bind fun (r:Unit⊕Int×Unit)=>match r with
      |.inl z=>jn (fun (x:Bool)=>.pure (x,())) fun (j:Bool->Comp A9)=>j false
      |.inr y=>jn (fun (x:Bool)=>.pure (x,())) fun (j:Bool->Comp A9)=>j (eqI y.1 (zF x2))
def yT:A8×A5×List A4×Unit->Int->List Int->Comp A9:=fun x0 x1 x2=>(jy x0).bind fun x=>(Comp.gd (sel (eqI x.2.2.2.1 0) (eqI x.2.1 x1) false) (yj x.1 x2) (false,())).bind fun a=>(Comp.gd (sel (sel (eqI x.2.2.2.1 0) (eqI x.2.1 x1) false) a.1 false) (za x0 x1 x.2.2.1) (false,())).bind fun b=>.pure (sel (sel (sel (eqI x.2.2.2.1 0) (eqI x.2.1 x1) false) a.1 false) b.1 false,())
def ze:Comp A28:=.pure ((3,0,()),())
def yK:Int->Comp A28:=fun x0=>.pure ((1,x0,()),())
def yx:Comp A28:=.pure ((2,0,()),())
def jA:Comp A9:=y5.bind fun y=>jn (fun (x:Bool)=>(jE (y.1.1,y.1.2.1,y.1.2.2.1,()) [4]).bind fun a=>jn (fun (b:Bool)=>y5.bind fun y_1=>(idx y_1.1.2.2.1 0).bind fun c=>(idx y_1.1.2.2.1 3).bind fun d=>(jy (y_1.1.1,y_1.1.2.1,[c,d],())).bind fun e=>(Comp.gd (eqI e.2.2.2.1 60) (za (y_1.1.1,y_1.1.2.1,[c,d],()) (Int.ofNat 0) e.2.2.1) (false,())).bind fun f=>(Comp.gd (sel (eqI e.2.2.2.1 60) f.1 false) ze ((0,0,()),())).bind fun g=>(Comp.gd (sel (eqI e.2.2.2.1 60) f.1 false) (za (y_1.1.1,y_1.1.2.1,[c,d],()) (Int.ofNat 0) [g.1]) (false,())).bind fun h=>(Comp.gd (sel (sel (eqI e.2.2.2.1 60) f.1 false) h.1 false) ze ((0,0,()),())).bind fun i=>(Comp.gd (sel (sel (eqI e.2.2.2.1 60) f.1 false) h.1 false) (za (y.1.1,y.1.2.1,y.1.2.2.1,()) (Int.ofNat 0) [i.1]) (false,())).bind fun k=>(yK 2).bind fun l=>yx.bind fun m=>(yK 0).bind fun n=>(yK 1).bind fun o=>yx.bind fun p=>ze.bind fun q=>ze.bind fun r=>(yK 0).bind fun s=>(yK 1).bind fun u=>yx.bind fun v=>ze.bind fun w=>(yK 2).bind fun B=>yx.bind fun C=>ze.bind fun D=>match x with
                              |true=>match sel x b false with
                               |true=>match sel (sel x b false) (sel (sel (sel (eqI e.2.2.2.1 60) f.1 false) h.1 false) (ntB k.1) false) false with
                                |true=>(za (y.1.1,y.1.2.1,y.1.2.2.1,()) (Int.ofNat 7) [l.1,m.1,n.1,o.1,p.1,q.1,r.1]).bind fun E=>match sel (sel (sel x b false) (sel (sel (sel (eqI e.2.2.2.1 60) f.1 false) h.1 false) (ntB k.1) false) false) E.1 false with
                                  |true=>(za (y.1.1,y.1.2.1,y.1.2.2.1,()) (Int.ofNat 7) [s.1,u.1,v.1,w.1,B.1,C.1,D.1]).bind fun F=>match sel (sel (sel (sel x b false) (sel (sel (sel (eqI e.2.2.2.1 60) f.1 false) h.1 false) (ntB k.1) false) false) E.1 false) (ntB F.1) false with
                                    |true=>(za (y.1.1,y.1.2.1,y.1.2.2.1,()) (Int.ofNat 8) [l.1,m.1,n.1,o.1,p.1,q.1,r.1]).bind fun G=>match sel (sel (sel (sel (sel x b false) (sel (sel (sel (eqI e.2.2.2.1 60) f.1 false) h.1 false) (ntB k.1) false) false) E.1 false) (ntB F.1) false) (ntB G.1) false with
                                      |true=>(sub [l.1,m.1,n.1,o.1,p.1,q.1,r.1] 0 6).bind fun H=>(za (y.1.1,y.1.2.1,y.1.2.2.1,()) (Int.ofNat 7) H).bind fun I=>match sel (sel (sel (sel (sel (sel x b false) (sel (sel (sel (eqI e.2.2.2.1 60) f.1 false) h.1 false) (ntB k.1) false) false) E.1 false) (ntB F.1) false) (ntB G.1) false) (ntB I.1) false with
                                         |true=>(app [] [l.1,m.1,n.1,o.1,p.1,q.1,r.1]).bind fun zs=>ze.bind fun K=>(app zs [K.1]).bind fun zs=>(za (y.1.1,y.1.2.1,y.1.2.2.1,()) (Int.ofNat 7) zs).bind fun L=>.pure (sel (sel (sel (sel (sel (sel (sel x b false) (sel (sel (sel (eqI e.2.2.2.1 60) f.1 false) h.1 false) (ntB k.1) false) false) E.1 false) (ntB F.1) false) (ntB G.1) false) (ntB I.1) false) (ntB L.1) false,())
                                         |false=>Comp.fail
                                      |false=>Comp.fail
                                    |false=>Comp.fail
                                  |false=>Comp.fail
                                |false=>Comp.fail
                               |false=>Comp.fail
                              |false=>Comp.fail) fun (j:Bool->Comp A9)=>(yB (y.1.1,y.1.2.1,y.1.2.2.1,()) false [0]).bind fun x=>if x.1=true then (yB (y.1.1,y.1.2.1,y.1.2.2.1,()) true [0,1]).bind fun x=>if x.1=true then (yB (y.1.1,y.1.2.1,y.1.2.2.1,()) true [3]).bind fun x=>if x.1=true then if eqI a.2.1 1=true then (yT (y.1.1,y.1.2.1,y.1.2.2.1,()) (Int.ofNat 7) [0,1]).bind fun x=>if x.1=true then gL.bind fun y=>(yT (y.1.1,y.1.2.1,y.1.2.2.1,()) (Int.ofNat 9) [2]).bind fun x=>j x.1 else j false else j false else j false else j false else j false) fun (j:Bool->Comp A9)=>(zq (y.1.1,y.1.2.1,y.1.2.2.1,()) [0,1]).bind fun x=>if x.1=true then (zq (y.1.1,y.1.2.1,y.1.2.2.1,()) [3]).bind fun x=>if ntB x.1=true then (zq (y.1.1,y.1.2.1,y.1.2.2.1,()) [1,0]).bind fun x=>if ntB x.1=true then gL.bind fun y=>(zq (y.1.1,y.1.2.1,y.1.2.2.1,()) [0,1]).bind fun x=>j (ntB x.1) else j false else j false else j false
def kJ:List A16->Comp (List A16×Unit):=fun x0=>(Comp.loop (fun (x:List A16×Int)=>if sel (ltI x.2 (zF x0)) (ltI x.2 7) false=true then (idx x0 x.2).bind fun a=>(idx x0 x.2).bind fun b=>(sub a 0 (Hg (zF b) 40)).bind fun c=>(app x.1 [c]).bind fun zs=>.pure (.next (zs,zJ .i64 x.2 1)) else .pure (.done x.1)) ([],0)).bind fun x=>.pure (x,())
def kI:Int->Int->Comp A11:=fun x0 x1=>if ltI x1 1=true then .pure (0,()) else (rem x0 x1).bind fun x=>(rem (zJ .i64 x x1) x1).bind fun x=>.pure (x,())
def zG:List Int×Int×Unit->Int->Comp A24:=fun x0 x1=>if geI x0.2.1 (zF x0.1)=true then .pure ((x0,()),0,()) else (idx x0.1 (gQ .i64 (zJ .i64 x0.2.1 1) 1)).bind fun x=>(kI x x1).bind fun x=>.pure (((x0.1,zJ .i64 x0.2.1 1,()),()),x.1,())
def Z8:Int×Int×Int×Unit->Int×Int×Int×Unit->Comp A30:=fun x0 x1=>.pure ((gQ .i64 x0.1 x1.1,gQ .i64 x0.2.1 x1.2.1,gQ .i64 x0.2.2.1 x1.2.2.1,()),())
def vJ:A1×Int×Unit->Comp (A2×Unit):=fun x0=>(Z8 (0,0,0,()) x0.1).bind fun x=>.pure ((x.1,Yc .i64 x0.2.1,()),())
def yA:Int×Int×Int×Unit->Comp A26:=fun x0=>.pure ([x0.1,x0.2.1,x0.2.2.1],())
def vS:Int->Comp A11:=fun x0=>if ltI x0 0=true then .pure (Yc .i64 x0,()) else .pure (x0,())
def gf:Int×Int×Int×Unit->Comp A2:=fun x0=>(yA x0).bind fun x=>(Comp.loop (fun (a:Int×Int×Int×Int×Int×Unit)=>if ltI a.2.1 3=true then (idx x.1 a.2.1).bind fun b=>if eqI b (-9223372036854775808)=true then .pure (.done (Sum.inr (0,0,0,0,()))) else (idx x.1 a.2.1).bind fun x=>(vS x).bind fun x=>(Comp.loop (fun (x:A35)=>if gtI x.2 0=true then (rem x.1 x.2).bind fun c=>.pure (.next (x.2,c)) else .pure (.done x.1)) (a.1,x.1)).bind fun x=>.pure (.next (x,zJ .i64 a.2.1 1,a.2.2)) else .pure (.done (Sum.inl (a.1,a.2.2)))) (0,0,0,0,0,())).bind fun (x:Int×Int×Int×Int×Unit⊕Int×Int×Int×Int×Unit)=>match x with
    |.inl x=>if eqI x.1 0=true then .pure ((0,0,0,()),0,()) else (quo .i64 x0.1 x.1).bind fun a=>(quo .i64 x0.2.1 x.1).bind fun b=>(quo .i64 x0.2.2.1 x.1).bind fun c=>.pure ((a,b,c,()),x.1,())
    |.inr x=>.pure (x.2,x.1,())
def gK:A1×Int×Unit->Comp A9:=fun x0=>(yA x0.1).bind fun x=>(Comp.loop (fun (a:Int)=>if ltI a 3=true then (idx x.1 a).bind fun b=>(Comp.gd (ntB (ltI b (-4608))) (idx x.1 a) (Int.ofNat 0)).bind fun c=>if sel (ltI b (-4608)) true (gtI c 4608)=true then .pure (.done (Sum.inr false)) else .pure (.next (zJ .i64 a 1)) else .pure (.done (Sum.inl ()))) 0).bind fun (x:A29)=>match x with
    |.inl x=>(gf x0.1).bind fun x=>.pure (sel (sel (eqI x.2.1 1) (geI x0.2.1 (-2097152)) false) (leI x0.2.1 2097152) false,())
    |.inr x=>.pure (x,())
def zZ:List A2->Comp A11:=fun x0=>if gtI (zF x0) 48=true then .pure (2,()) else (Comp.loop (fun (x:Int)=>if ltI x (zF x0)=true then (idx x0 x).bind fun a=>(gK a).bind fun b=>if ntB b.1=true then .pure (.done (Sum.inr 12)) else .pure (.next (zJ .i64 x 1)) else .pure (.done (Sum.inl ()))) 0).bind fun (x:A25)=>match x with
    |.inl x=>.pure (0,())
    |.inr x=>.pure (x,())
def gE:List A2->Comp A12:=fun x0=>(app [] x0).bind fun zs=>(zp (-24, -24, -24,()) (24,24,24,())).bind fun x=>(app zs x.1).bind fun zs=>.pure (zs,())
def vY:Int×Int×Int×Unit->Int×Int×Int×Unit->Comp A30:=fun x0 x1=>.pure ((gQ .i64 (kV .i64 x0.2.1 x1.2.2.1) (kV .i64 x0.2.2.1 x1.2.1),gQ .i64 (kV .i64 x0.2.2.1 x1.1) (kV .i64 x0.1 x1.2.2.1),gQ .i64 (kV .i64 x0.1 x1.2.1) (kV .i64 x0.2.1 x1.1),()),())
def Z9:Int×Int×Int×Unit->Int×Int×Int×Unit->Comp A11:=fun x0 x1=>.pure (zJ .i64 (zJ .i64 (kV .i64 x0.1 x1.1) (kV .i64 x0.2.1 x1.2.1)) (kV .i64 x0.2.2.1 x1.2.2.1),())
def yf:Int×Int×Int×Unit->Int->Comp A30:=fun x0 x1=>.pure ((kV .i64 x0.1 x1,kV .i64 x0.2.1 x1,kV .i64 x0.2.2.1 x1,()),())
def kH:Int×Int×Int×Unit->Int×Int×Int×Unit->Comp A30:=fun x0 x1=>.pure ((zJ .i64 x0.1 x1.1,zJ .i64 x0.2.1 x1.2.1,zJ .i64 x0.2.2.1 x1.2.2.1,()),())
def zr:Int->Int->Comp A11:=fun x0 x1=>(Comp.loop (fun (x:A35)=>if neI x.2 0=true then (rem x.1 x.2).bind fun a=>.pure (.next (x.2,a)) else .pure (.done x.1)) (x0,x1)).bind fun x=>.pure (x,())
def vH:A1×Int×Unit->A1×Int×Unit->A1×Int×Unit->Comp (A7×Bool×Unit):=fun x0 x1 x2=>(vY x1.1 x2.1).bind fun x=>(Z9 x0.1 x.1).bind fun x=>if eqI x.1 0=true then .pure ((0,0,0,0,()),false,()) else (vY x1.1 x2.1).bind fun a=>(yf a.1 x0.2.1).bind fun b=>(vY x2.1 x0.1).bind fun c=>(yf c.1 x1.2.1).bind fun d=>(kH b.1 d.1).bind fun e=>(vY x0.1 x1.1).bind fun f=>(yf f.1 x2.2.1).bind fun g=>(kH e.1 g.1).bind fun h=>jn (fun (x:A7)=>(zr (rP x.2.1 (Yc .i64 x.2.1)) (rP x.2.2.1 (Yc .i64 x.2.2.1))).bind fun i=>(zr (rP x.2.2.2.1 (Yc .i64 x.2.2.2.1)) x.1).bind fun k=>(zr i.1 k.1).bind fun l=>(quo .i64 x.2.1 l.1).bind fun m=>(quo .i64 x.2.2.1 l.1).bind fun n=>(quo .i64 x.2.2.2.1 l.1).bind fun o=>(quo .i64 x.1 l.1).bind fun x=>.pure ((m,n,o,x,()),true,())) fun (j:Int×Int×Int×Int×Unit->Comp (A7×Bool×Unit))=>if ltI x.1 0=true then (yf h.1 (Int.negSucc 0)).bind fun i=>j (Yc .i64 x.1,i.1) else j (x.1,h.1)
def zf:A1×Int×Unit->Int×Int×Int×Int×Unit->Comp A11:=fun x0 x1=>.pure (gQ .i64 (gQ .i64 (gQ .i64 (kV .i64 x0.2.1 x1.2.2.2.1) (kV .i64 x0.1.1 x1.1)) (kV .i64 x0.1.2.1 x1.2.1)) (kV .i64 x0.1.2.2.1 x1.2.2.1),())
def vz:List A2->Int×Int×Int×Int×Unit->Comp A9:=fun x0 x1=>(Comp.loop (fun (x:Int)=>if ltI x (zF x0)=true then (idx x0 x).bind fun a=>(zf a x1).bind fun b=>if ltI b.1 0=true then .pure (.done (Sum.inr false)) else .pure (.next (zJ .i64 x 1)) else .pure (.done (Sum.inl ()))) 0).bind fun (x:A29)=>match x with
   |.inl x=>.pure (true,())
   |.inr x=>.pure (x,())
def yw:List A7->Int×Int×Int×Int×Unit->Comp A9:=fun x0 x1=>(Comp.loop (fun (x:Int)=>if ltI x (zF x0)=true then (idx x0 x).bind fun a=>if adB (eqI a.1 x1.1) (adB (eqI a.2.1 x1.2.1) (adB (eqI a.2.2.1 x1.2.2.1) (eqI a.2.2.2.1 x1.2.2.2.1)))=true then .pure (.done (Sum.inr true)) else .pure (.next (zJ .i64 x 1)) else .pure (.done (Sum.inl ()))) 0).bind fun (x:A29)=>match x with
   |.inl x=>.pure (false,())
   |.inr x=>.pure (x,())
def vg:List A2->Comp A38:=fun x0=>(Comp.loop (fun (x:List A7×Int)=>if ltI x.2 (zF x0)=true then (Comp.loop (fun (a:List A7×Int)=>if ltI a.2 (zF x0)=true then (Comp.loop (fun (b:List A7×Int)=>if ltI b.2 (zF x0)=true then (idx x0 x.2).bind fun x=>(idx x0 a.2).bind fun c=>(idx x0 b.2).bind fun d=>(vH x c d).bind fun x=>(Comp.gd x.2.1 (vz x0 x.1) (false,())).bind fun e=>(Comp.gd (sel x.2.1 e.1 false) (yw b.1 x.1) (false,())).bind fun f=>jn (fun (x:List A7)=>.pure (.next (x,zJ .i64 b.2 1))) fun (j:List A7->Comp (Comp.Step (List A7×Int) (List A7)))=>if sel (sel x.2.1 e.1 false) (ntB f.1) false=true then (app b.1 [x.1]).bind fun zs=>j zs else j b.1 else .pure (.done b.1)) (a.1,zJ .i64 a.2 1)).bind fun x=>.pure (.next (x,zJ .i64 a.2 1)) else .pure (.done a.1)) (x.1,zJ .i64 x.2 1)).bind fun a=>.pure (.next (a,zJ .i64 x.2 1)) else .pure (.done x.1)) ([],0)).bind fun x=>.pure (x,())
def ga:List A2->Comp A9:=fun x0=>(vg x0).bind fun y=>(Comp.loop (fun (x:Int)=>if ltI x (zF x0)=true then (Comp.loop (fun (a:Bool×Int)=>if ltI a.2 (zF y.1)=true then (Comp.gd (ntB a.1) (idx x0 x) ((0,0,0,()),0,())).bind fun x=>(Comp.gd (ntB a.1) (idx y.1 a.2) (0,0,0,0,())).bind fun b=>(Comp.gd (ntB a.1) (zf x b) (0,())).bind fun x=>.pure (.next (sel a.1 true (gtI x.1 0),zJ .i64 a.2 1)) else .pure (.done a.1)) (false,0)).bind fun a=>if ntB a=true then .pure (.done (Sum.inr false)) else .pure (.next (zJ .i64 x 1)) else .pure (.done (Sum.inl ()))) 0).bind fun (x:A29)=>match x with
    |.inl x=>.pure (true,())
    |.inr x=>.pure (x,())
def zy:List A2->Comp A9:=fun x0=>jn (fun (x:Bool)=>.pure (x,())) fun (j:Bool->Comp A9)=>(zZ x0).bind fun x=>if eqI x.1 0=true then (gE x0).bind fun y=>(ga y.1).bind fun x=>j x.1 else j false
def jv:List A16->Comp (A8×Unit):=fun x0=>(Comp.loop (fun (x:Int×List A16)=>if sel (ltI x.1 (zF x0)) (ltI x.1 2) false=true then (idx x0 x.1).bind fun a=>(inb 2 x.1).bind fun b=>.pure (.next (zJ .i64 x.1 1,j9 x.2 x.1 a)) else .pure (.done x.2)) (0,[[],[]])).bind fun x=>(idx x 0).bind fun a=>(zG (a,0,()) (Int.ofNat 3)).bind fun y=>jn (fun (b:A37)=>(zG b.2 (Int.ofNat 3)).bind fun y_1=>(zG y_1.1.1 (Int.ofNat 3)).bind fun aF=>(Comp.loop (fun (x:Int×Int×A6×List Int×Int×Unit)=>if ltI x.2.1 (zJ .i64 2 y.2.1)=true then (zG x.2.2.2 (Int.ofNat 4)).bind fun y=>(zp (x.1,0,0,()) (zJ .i64 x.1 (zJ .i64 1 y.2.1),3,zJ .i64 2 aF.2.1,())).bind fun c=>(app x.2.2.1.2.1 [c.1]).bind fun zs=>jn (fun (d:A6)=>.pure (.next (zJ .i64 x.1 (zJ .i64 1 y.2.1),zJ .i64 x.2.1 1,(d.1,d.2.1,d.2.2.1,()),y.1.1))) fun (j:List UInt8×List A3×List Int×Unit->Comp (Comp.Step (Int×Int×A6×List Int×Int×Unit) (A6×List Int×Int×Unit)))=>if b.1=true then (zp (x.1,3,0,()) (zJ .i64 x.1 (zJ .i64 1 y.2.1),6,zJ .i64 2 aF.2.1,())).bind fun d=>(app zs [d.1]).bind fun zs=>j (x.2.2.1.1,zs,x.2.2.1.2.2.1,()) else j (x.2.2.1.1,zs,x.2.2.1.2.2.1,()) else .pure (.done ((x.2.2.1.1,x.2.2.1.2.1,x.2.2.1.2.2.1,()),x.2.2.2))) (zJ .i64 (-6) y_1.2.1,0,([112],[],[],()),aF.1.1)).bind fun c=>jn (fun (d:A37)=>jn (fun (e:A6)=>(idx x 1).bind fun f=>(Comp.loop (fun (g:Int×A6×List Int×Int×Unit)=>if ltI g.1 (zF g.2.1.2.1)=true then (zG g.2.2 (Int.ofNat 4)).bind fun y=>(idx [2,1,3,2] y.2.1).bind fun x=>(app g.2.1.2.2.1 [x]).bind fun zs=>.pure (.next (zJ .i64 g.1 1,(g.2.1.1,g.2.1.2.1,zs,()),y.1.1)) else .pure (.done (g.2.1.1,g.2.1.2.1,g.2.1.2.2.1,()))) (0,(e.1,e.2.1,e.2.2.1,()),f,0,())).bind fun x=>.pure ((x.1,x.2.1,x.2.2.1,()),())) fun (j:List UInt8×List A3×List Int×Unit->Comp (A6×Unit))=>if d.1=true then (zG d.2 (zF c.1.2.1)).bind fun y=>(zG y.1.1 (Int.ofNat 4)).bind fun oT=>(idx c.1.2.1 y.2.1).bind fun x=>(app [] x).bind fun zs=>(app zs [((0,1,1,()),zJ .i64 2 oT.2.1,())]).bind fun zs=>(idx c.1.2.1 y.2.1).bind fun x=>(app [] x).bind fun zs_1=>(vJ ((0,1,1,()),zJ .i64 2 oT.2.1,())).bind fun x=>(app zs_1 [x.1]).bind fun zs_2=>(zy zs).bind fun x=>(Comp.gd x.1 (zy zs_2) (false,())).bind fun e=>jn (fun (x:A8)=>j (x.1,x.2.1,x.2.2.1,())) fun (j:List UInt8×List A3×List Int×Unit->Comp (A6×Unit))=>if sel x.1 e.1 false=true then (inb c.1.2.1.length y.2.1).bind fun x=>(app (j9 c.1.2.1 y.2.1 zs) [zs_2]).bind fun zs=>j (c.1.1,zs,c.1.2.2.1,()) else j (c.1.1,c.1.2.1,c.1.2.2.1,()) else j (c.1.1,c.1.2.1,c.1.2.2.1,())) fun (j:Bool×List Int×Int×Unit->Comp (A6×Unit))=>(zG c.2 (Int.ofNat 4)).bind fun y=>if eqI y.2.1 3=true then j (ltI (zF c.1.2.1) 6,y.1.1) else j (false,y.1.1)) fun (j:Bool×List Int×Int×Unit->Comp (A6×Unit))=>(zG y.1.1 (Int.ofNat 3)).bind fun y_1=>if eqI y_1.2.1 2=true then j (ltI (zJ .i64 2 y.2.1) 4,y_1.1.1) else j (false,y_1.1.1)
def vG:List A16->vC×List A3×List Int×Unit->Comp A19:=fun x0 x1=>(Comp.loop (fun (x:A22)=>if sel (ltI x.2 (zF x0)) (ltI x.2 4) false=true then (idx x0 x.2).bind fun a=>(zG (a,0,()) (Int.ofNat 4)).bind fun y=>(zG y.1.1 (zF x1.2.1)).bind fun y_1=>(idx x1.2.1 y_1.2.1).bind fun b=>(zAJ b).bind fun zs=>jn (fun (c:List A2×List Int×Int×Unit)=>jn (fun (d:A3)=>(app x.1 [d]).bind fun zs=>.pure (.next (zs,zJ .i64 x.2 1))) fun (j:List A2->Comp (Comp.Step A22 A17))=>if eqI y.2.1 2=true then (zG c.2 (Int.ofNat 14)).bind fun y=>(zG y.1.1 (Int.ofNat 3)).bind fun aF=>(zG aF.1.1 (Int.ofNat 2)).bind fun oT=>(zG oT.1.1 (Int.ofNat 6)).bind fun y_4=>(zG y_4.1.1 (Int.ofNat 6)).bind fun y_5=>(zG y_5.1.1 (Int.ofNat 6)).bind fun y_6=>(zp (gQ .i64 y.2.1 7,gQ .i64 aF.2.1 1,gQ .i64 oT.2.1 1,()) (zJ .i64 (zJ .i64 (gQ .i64 y.2.1 7) 1) y_4.2.1,zJ .i64 (zJ .i64 (gQ .i64 aF.2.1 1) 2) y_5.2.1,zJ .i64 (zJ .i64 (gQ .i64 oT.2.1 1) 2) y_6.2.1,())).bind fun y=>j y.1 else j c.1) fun (j:List A2×List Int×Int×Unit->Comp (Comp.Step A22 A17))=>if eqI y.2.1 1=true then (zG y_1.1.1 (Int.ofNat 2)).bind fun y=>(zG y.1.1 (Int.ofNat 2)).bind fun aF=>(app zs [((0,0,gQ .i64 1 (kV .i64 2 y.2.1),()),kV .i64 (gQ .i64 1 (kV .i64 2 y.2.1)) (zJ .i64 1 aF.2.1),())]).bind fun zs=>j (zs,aF.1.1) else j (zs,y_1.1.1) else .pure (.done x.1)) ([],0)).bind fun x=>.pure (x,())
def zd:List A2->List A2->Comp A9:=fun x0 x1=>(zZ x0).bind fun x=>(Comp.gd (ntB (neI x.1 0)) (zZ x1) (0,())).bind fun a=>if sel (neI x.1 0) true (neI a.1 0)=true then .pure (true,()) else (app [] x0).bind fun zs=>(app zs x1).bind fun zs=>(gE zs).bind fun y=>(ga y.1).bind fun x=>.pure (ntB x.1,())
def gI:vC×List A3×List Int×Unit->Comp A11:=fun x0=>if sel (ltI (zF x0.2.1) 1) true (gtI (zF x0.2.1) 16)=true then .pure (2,()) else if neI (zF x0.2.2.1) (zF x0.2.1)=true then .pure (1,()) else (Comp.loop (fun (x:Int)=>if ltI x (zF x0.2.2.1)=true then (idx x0.2.2.1 x).bind fun a=>(Comp.gd (ntB (ltI a 1)) (idx x0.2.2.1 x) (Int.ofNat 0)).bind fun b=>if sel (ltI a 1) true (gtI b 3)=true then .pure (.done (Sum.inr 1)) else .pure (.next (zJ .i64 x 1)) else .pure (.done (Sum.inl ()))) 0).bind fun (x:A25)=>match x with
     |.inl x=>(Comp.loop (fun (x:Int)=>if ltI x (zF x0.2.1)=true then (idx x0.2.1 x).bind fun a=>(zy a).bind fun b=>if ntB b.1=true then .pure (.done (Sum.inr 13)) else (Comp.loop (fun (c:Int)=>if ltI c x=true then (idx x0.2.1 c).bind fun d=>(idx x0.2.1 x).bind fun x=>(zd d x).bind fun x=>if ntB x.1=true then .pure (.done (Sum.inr 13)) else .pure (.next (zJ .i64 c 1)) else .pure (.done (Sum.inl ()))) 0).bind fun (c:A25)=>match c with
             |.inl d=>.pure (.next (zJ .i64 x 1))
             |.inr x=>.pure (.done (Sum.inr x)) else .pure (.done (Sum.inl ()))) 0).bind fun (x:A25)=>match x with
       |.inl x=>.pure (0,())
       |.inr x=>.pure (x,())
     |.inr x=>.pure (x,())
def yY:List A3->Comp A11:=fun x0=>(Comp.loop (fun (x:Int)=>if ltI x (zF x0)=true then (idx x0 x).bind fun a=>(zZ a).bind fun b=>if neI b.1 0=true then .pure (.done (Sum.inr b.1)) else .pure (.next (zJ .i64 x 1)) else .pure (.done (Sum.inl ()))) 0).bind fun (x:A25)=>match x with
   |.inl x=>.pure (0,())
   |.inr x=>.pure (x,())
def gY:vC×List A3×List Int×Unit->List Bool×List Bool×List A3×Unit->Comp A9:=fun x0 x1=>(Comp.gd (sel (sel (eqI (zF x1.1) (zF x0.2.1)) (eqI (zF x1.2.1) (zF x0.2.1)) false) (leI (zF x1.2.2.1) 24) false) (yY x1.2.2.1) (0,())).bind fun x=>.pure (sel (sel (sel (eqI (zF x1.1) (zF x0.2.1)) (eqI (zF x1.2.1) (zF x0.2.1)) false) (leI (zF x1.2.2.1) 24) false) (eqI x.1 0) false,())
def gZ:List A3->Comp A19:=fun x0=>(Comp.loop (fun (x:A22)=>if ltI x.2 (zF x0)=true then (idx x0 x.2).bind fun a=>(app [] a).bind fun zs=>(app x.1 [zs]).bind fun zs=>.pure (.next (zs,zJ .i64 x.2 1)) else .pure (.done x.1)) ([],0)).bind fun x=>.pure (x,())
def yv:List A2->List A3->Comp A9:=fun x0 x1=>(Comp.loop (fun (x:Int)=>if ltI x (zF x1)=true then (idx x1 x).bind fun a=>(zd x0 a).bind fun b=>if ntB b.1=true then .pure (.done (Sum.inr false)) else .pure (.next (zJ .i64 x 1)) else .pure (.done (Sum.inl ()))) 0).bind fun (x:A29)=>match x with
   |.inl x=>.pure (true,())
   |.inr x=>.pure (x,())
def vX:List A3->List A2->Comp A19:=fun x0 x1=>(Comp.loop (fun (x:A22)=>if ltI x.2 (zF x0)=true then (idx x0 x.2).bind fun a=>(zd a x1).bind fun b=>jn (fun (c:A17)=>.pure (.next (c,zJ .i64 x.2 1))) fun (j:List A3->Comp (Comp.Step A22 A17))=>if ntB b.1=true then (idx x0 x.2).bind fun c=>(app x.1 [c]).bind fun zs=>j zs else j x.1 else .pure (.done x.1)) ([],0)).bind fun x=>.pure (x,())
def jY:List A3->Comp A11:=fun x0=>if gtI (zF x0) 16=true then .pure (2,()) else (Comp.loop (fun (x:Int)=>if ltI x (zF x0)=true then (idx x0 x).bind fun a=>(zZ a).bind fun b=>if neI b.1 0=true then .pure (.done (Sum.inr b.1)) else .pure (.next (zJ .i64 x 1)) else .pure (.done (Sum.inl ()))) 0).bind fun (x:A25)=>match x with
    |.inl x=>.pure (0,())
    |.inr x=>.pure (x,())
def gz:List A2->Comp A38:=fun x0=>(zZ x0).bind fun x=>if neI x.1 0=true then .pure ([],()) else (gE x0).bind fun y=>(vg y.1).bind fun y=>.pure (y.1,())
def y4:A1×Int×Unit->A1×Int×Unit->Comp A11:=fun x0 x1=>(Comp.loop (fun (x:Int)=>if ltI x 4=true then (idx [x0.1.1,x0.1.2.1,x0.1.2.2.1,x0.2.1] x).bind fun a=>(idx [x1.1.1,x1.1.2.1,x1.1.2.2.1,x1.2.1] x).bind fun b=>if ltI a b=true then .pure (.done (Sum.inr (-1))) else (idx [x0.1.1,x0.1.2.1,x0.1.2.2.1,x0.2.1] x).bind fun c=>(idx [x1.1.1,x1.1.2.1,x1.1.2.2.1,x1.2.1] x).bind fun d=>if gtI c d=true then .pure (.done (Sum.inr 1)) else .pure (.next (zJ .i64 x 1)) else .pure (.done (Sum.inl ()))) 0).bind fun (x:A25)=>match x with
   |.inl x=>.pure (0,())
   |.inr x=>.pure (x,())
def jK:List A2->A1×Int×Unit->Comp A12:=fun x0 x1=>(Comp.loop (fun (x:Int)=>(Comp.gd (ltI x (zF x0)) (idx x0 x) ((0,0,0,()),0,())).bind fun a=>(Comp.gd (ltI x (zF x0)) (y4 a x1) (0,())).bind fun b=>if sel (ltI x (zF x0)) (ltI b.1 0) false=true then .pure (.next (zJ .i64 x 1)) else .pure (.done x)) 0).bind fun x=>(Comp.gd (ltI x (zF x0)) (idx x0 x) ((0,0,0,()),0,())).bind fun a=>if sel (ltI x (zF x0)) (adB (adB (eqI a.1.1 x1.1.1) (adB (eqI a.1.2.1 x1.1.2.1) (eqI a.1.2.2.1 x1.1.2.2.1))) (eqI a.2.1 x1.2.1)) false=true then .pure (x0,()) else (sub x0 0 x).bind fun b=>(app [] b).bind fun zs=>(app zs [x1]).bind fun zs=>(sub x0 x (zF x0)).bind fun x=>(app zs x).bind fun zs=>.pure (zs,())
def zn:List A2->Comp A12:=fun x0=>(zy x0).bind fun x=>if ntB x.1=true then .pure ([],()) else (gz x0).bind fun y=>(Comp.loop (fun (a:A32)=>if ltI a.2 (zF x0)=true then (Comp.loop (fun (b:A35)=>if ltI b.2 (zF y.1)=true then (idx x0 a.2).bind fun x=>(idx y.1 b.2).bind fun c=>(zf x c).bind fun x=>jn (fun (x:Int)=>.pure (.next (x,zJ .i64 b.2 1))) fun (j:Int->Comp (Comp.Step A35 Int))=>if eqI x.1 0=true then j (zJ .i64 b.1 1) else j b.1 else .pure (.done b.1)) (0,0)).bind fun x=>jn (fun (x:A3)=>.pure (.next (x,zJ .i64 a.2 1))) fun (j:List A2->Comp (Comp.Step A32 A3))=>if geI x 3=true then (idx x0 a.2).bind fun x=>(jK a.1 x).bind fun x=>j x.1 else j a.1 else .pure (.done a.1)) ([],0)).bind fun x=>.pure (x,())
def yJ:List A2->A1×Int×Unit->Comp A12:=fun x0 x1=>(app [] x0).bind fun zs=>(app zs [x1]).bind fun zs=>.pure (zs,())
def gJ:List A2->List A2->Comp A20:=fun x0 x1=>(Comp.loop (fun (x:List A3×List A2×Int)=>if ltI x.2.2 (zF x1)=true then if geI (zF x.2.1) 48=true then .pure (.done (Sum.inr ([],9))) else (idx x1 x.2.2).bind fun a=>(vJ a).bind fun b=>(yJ x.2.1 b.1).bind fun y=>(zn y.1).bind fun c=>jn (fun (d:A17)=>(idx x1 x.2.2).bind fun e=>(yJ x.2.1 e).bind fun y=>(zn y.1).bind fun f=>.pure (.next (d,f.1,zJ .i64 x.2.2 1))) fun (j:List A3->Comp (Comp.Step (List A3×List A2×Int) A36))=>if gtI (zF c.1) 0=true then (app x.1 [c.1]).bind fun zs=>j zs else j x.1 else .pure (.done (Sum.inl x.1))) ([],x0,0)).bind fun (x:A36)=>match x with
   |.inl x=>.pure (x,0,())
   |.inr x=>.pure (x.1,x.2,())
def yy:List A3->List A2->Comp A20:=fun x0 x1=>(zy x1).bind fun x=>if ntB x.1=true then .pure (x0,0,()) else (Comp.loop (fun (x:A22)=>if ltI x.2 (zF x0)=true then jn (fun (a:A17)=>.pure (.next (a,zJ .i64 x.2 1))) fun (j:List A3->Comp (Comp.Step A22 A36))=>(idx x0 x.2).bind fun a=>(zd a x1).bind fun b=>if b.1=true then (idx x0 x.2).bind fun c=>(app x.1 [c]).bind fun zs=>j zs else (idx x0 x.2).bind fun c=>(zn x1).bind fun d=>(gJ c d.1).bind fun e=>if neI e.2.1 0=true then .pure (.done (Sum.inr ([],e.2.1))) else (app x.1 e.1).bind fun zs=>j zs else .pure (.done (Sum.inl x.1))) ([],0)).bind fun (a:A36)=>match a with
     |.inl b=>if gtI (zF b) 200=true then .pure ([],9,()) else .pure (b,0,())
     |.inr x=>.pure (x.1,x.2,())
def jX:List A2->List A3->Comp A20:=fun x0 x1=>(zZ x0).bind fun x=>jn (fun (x:Int)=>if neI x 0=true then .pure ([],x,()) else (zy x0).bind fun x=>jn (fun (x:A17)=>(Comp.loop (fun (x:A22)=>if ltI x.2 (zF x1)=true then (idx x1 x.2).bind fun a=>(yy x.1 a).bind fun b=>if neI b.2.1 0=true then .pure (.done (Sum.inr ([],b.2.1))) else .pure (.next (b.1,zJ .i64 x.2 1)) else .pure (.done (Sum.inl x.1))) (x,0)).bind fun (x:A36)=>match x with
          |.inl x=>.pure (x,0,())
          |.inr x=>.pure (x.1,x.2,())) fun (j:List A3->Comp A20)=>if x.1=true then (zn x0).bind fun x=>(app [] [x.1]).bind fun zs=>j zs else j []) fun (j:Int->Comp A20)=>if eqI x.1 0=true then (jY x1).bind fun x=>j x.1 else j x.1
def vE:List A3->List A2->Comp A21:=fun x0 x1=>(jX x1 x0).bind fun x=>.pure (sel (eqI x.2.1 0) (eqI (zF x.1) 0) false,x.2.1,())
def jW:vC×List A3×List Int×Unit->List Bool×List Bool×List A3×Unit->List A3->List A3->Comp (A5×Int×Unit):=fun x0 x1 x2 x3=>(gI x0).bind fun x=>if neI x.1 0=true then .pure (([],[],[],()),x.1,()) else (gY x0 x1).bind fun x=>if ntB x.1=true then .pure (([],[],[],()),4,()) else (yY x2).bind fun x=>jn (fun (x:Int)=>if neI x 0=true then .pure (([],[],[],()),x,()) else if gtI (zJ .i64 (zF x1.2.2.1) (zF x2)) 24=true then .pure (([],[],[],()),2,()) else (gZ x1.2.2.1).bind fun y=>(gZ x2).bind fun y_1=>(app y.1 y_1.1).bind fun zs=>(Comp.loop (fun (x:Int×A5×List Bool×List Bool×List A3×Unit)=>if ltI x.1 (zF x0.2.1)=true then (idx x0.2.1 x.1).bind fun a=>(idx x1.2.1 x.1).bind fun b=>(Comp.gd (ntB b) (yv a x2) (false,())).bind fun c=>(Comp.gd (ntB (sel b true (ntB c.1))) (yv a x3) (false,())).bind fun d=>(app x.2.2.2.1 [sel (sel b true (ntB c.1)) true (ntB d.1)]).bind fun zs=>(idx x1.1 x.1).bind fun e=>jn (fun (f:Bool×List Bool×List Bool×List A3×Unit)=>(app x.2.2.1 [f.1]).bind fun zs_1=>.pure (.next (zJ .i64 x.1 1,f.2,zs_1,zs,x.2.2.2.2.1,()))) fun (j:Bool×List Bool×List Bool×List A3×Unit->Comp (Comp.Step (Int×A5×List Bool×List Bool×List A3×Unit) A39))=>if ntB e=true then (vX x.2.2.2.2.1 a).bind fun y=>(vE y.1 a).bind fun f=>if neI f.2.1 0=true then .pure (.done (Sum.inr (f.2.1,[],[],[],()))) else j (f.1,x.2.1) else j (e,x.2.1) else .pure (.done (Sum.inl (x.2.1,x.2.2.1,x.2.2.2.1,x.2.2.2.2.1,())))) (0,([],[],[],()),[],[],zs,())).bind fun (x:A5×List Bool×List Bool×List A3×Unit⊕Int×List Bool×List Bool×List A3×Unit)=>match x with
               |.inl x=>.pure ((x.2.1,x.2.2.1,x.2.2.2.1,()),0,())
               |.inr x=>.pure (x.2,x.1,())) fun (j:Int->Comp (A5×Int×Unit))=>if eqI x.1 0=true then (yY x3).bind fun x=>j x.1 else j x.1
def vD:vC×List A3×List Int×Unit->List Int->Int->Comp (A4×Unit):=fun x0 x1 x2=>(zG (x1,0,()) (Int.ofNat 6)).bind fun y=>jn (fun (x:A37)=>jn (fun (a:A4)=>(zG x.2 (Int.ofNat 5)).bind fun y=>(Comp.loop (fun (x:Int×A4×List Int×Int×Unit)=>if ltI x.1 (zF x0.2.1)=true then (zG x.2.2 (Int.ofNat 2)).bind fun y_1=>(idx x0.2.2.1 x.1).bind fun b=>jn (fun (c:A37)=>jn (fun (d:List A3×List A3×Int×List Int×Unit)=>.pure (.next (zJ .i64 x.1 1,(d.1,d.2.1,d.2.2.1,d.2.2.2.1,()),c.2))) fun (j:List A3×List A3×Int×List Int×Unit->Comp (Comp.Step (Int×A4×List Int×Int×Unit) A4))=>if c.1=true then (idx x0.2.1 x.1).bind fun d=>(app [] d).bind fun zs=>(app x.2.1.1 [zs]).bind fun zs=>j (zs,x.2.1.2.1,x.2.1.2.2.1,x.2.1.2.2.2.1,()) else j (x.2.1.1,x.2.1.2.1,x.2.1.2.2.1,x.2.1.2.2.2.1,())) fun (j:Bool×List Int×Int×Unit->Comp (Comp.Step (Int×A4×List Int×Int×Unit) A4))=>if eqI b 1=true then jn (fun (x:A37)=>j (x.1,x.2)) fun (j:Bool×List Int×Int×Unit->Comp (Comp.Step (Int×A4×List Int×Int×Unit) A4))=>if eqI y.2.1 4=true then (zG y_1.1.1 (Int.ofNat 3)).bind fun y=>j (eqI y.2.1 2,y.1.1) else j (false,y_1.1.1) else j (eqI y_1.2.1 1,y_1.1.1) else .pure (.done (x.2.1.1,x.2.1.2.1,x.2.1.2.2.1,x.2.1.2.2.2.1,()))) (0,(a.1,a.2.1,a.2.2.1,a.2.2.2.1,()),y.1.1)).bind fun x=>jn (fun (x:List A3×List A3×Int×List Int×Unit)=>jn (fun (x:List A3×List A3×Int×List Int×Unit)=>.pure ((x.1,x.2.1,x.2.2.1,x.2.2.2.1,()),())) fun (j:List A3×List A3×Int×List Int×Unit->Comp (A4×Unit))=>if eqI y.2.1 2=true then (sub x1 (Hg (zF x1) 5) (zF x1)).bind fun b=>(vG [b] x0).bind fun y=>j (x.1,y.1,x.2.2.1,x.2.2.2.1,()) else j (x.1,x.2.1,x.2.2.1,x.2.2.2.1,())) fun (j:List A3×List A3×Int×List Int×Unit->Comp (A4×Unit))=>if eqI y.2.1 3=true then (sub x1 (Hg (zF x1) 4) (zF x1)).bind fun b=>(vG [b] x0).bind fun c=>(app x.1 c.1).bind fun zs=>j (zs,x.2.1,x.2.2.1,x.2.2.2.1,()) else j (x.1,x.2.1,x.2.2.1,x.2.2.2.1,())) fun (j:List A3×List A3×Int×List Int×Unit->Comp (A4×Unit))=>if x.1=true then j ([],[],zJ .i64 1 y.2.1,[gQ .i64 x2 1],()) else j ([],[],zJ .i64 1 y.2.1,[],())) fun (j:Bool×List Int×Int×Unit->Comp (A4×Unit))=>if gtI x2 0=true then (zG y.1.1 (Int.ofNat 5)).bind fun y=>j (eqI y.2.1 4,y.1.1) else j (false,y.1.1)
def jQ:List Int->Comp A9:=fun x0=>(Comp.loop (fun (x:Int)=>if ltI x (zF x0)=true then (idx x0 x).bind fun a=>(idx x0 (gQ .i64 x 1)).bind fun b=>if leI a b=true then .pure (.done (Sum.inr false)) else .pure (.next (zJ .i64 x 1)) else .pure (.done (Sum.inl ()))) 1).bind fun (x:A29)=>match x with
   |.inl x=>.pure (true,())
   |.inr x=>.pure (x,())
def vv:List A4->Int->Comp A11:=fun x0 x1=>(idx x0 x1).bind fun x=>(app [] x.1).bind fun zs=>(app zs x.2.1).bind fun zs_1=>(Comp.loop (fun (a:Int)=>if ltI a (zF zs_1)=true then (idx zs_1 a).bind fun x=>(zZ x).bind fun x=>if neI x.1 0=true then .pure (.done (Sum.inr x.1)) else .pure (.next (zJ .i64 a 1)) else .pure (.done (Sum.inl ()))) 0).bind fun (a:A25)=>match a with
      |.inl b=>if sel (ltI x.2.2.1 1) true (gtI x.2.2.1 1048576)=true then .pure (3,()) else (Comp.loop (fun (c:Int)=>if ltI c (zF x.2.2.2.1)=true then (idx x.2.2.2.1 c).bind fun d=>(Comp.gd (ntB (ltI d 0)) (idx x.2.2.2.1 c) (Int.ofNat 0)).bind fun e=>(Comp.gd (ntB (sel (ltI d 0) true (geI e (zF x0)))) (idx x.2.2.2.1 c) (Int.ofNat 0)).bind fun f=>if sel (sel (ltI d 0) true (geI e (zF x0))) true (eqI f x1)=true then .pure (.done (Sum.inr 3)) else .pure (.next (zJ .i64 c 1)) else .pure (.done (Sum.inl ()))) 0).bind fun (c:A25)=>match c with
         |.inl d=>(jQ x.2.2.2.1).bind fun x=>if ntB x.1=true then .pure (7,()) else .pure (0,())
         |.inr x=>.pure (x,())
      |.inr x=>.pure (x,())
def gH:A8×A5×List A4×Unit->Comp A11:=fun x0=>(gI x0.1).bind fun x=>if neI x.1 0=true then .pure (x.1,()) else (gY x0.1 x0.2.1).bind fun x=>if ntB x.1=true then .pure (4,()) else if gtI (zF x0.2.2.1) 8=true then .pure (2,()) else (Comp.loop (fun (x:A35)=>if ltI x.2 (zF x0.2.2.1)=true then (vv x0.2.2.1 x.2).bind fun a=>if neI a.1 0=true then .pure (.done (Sum.inr a.1)) else (idx x0.2.2.1 x.2).bind fun b=>.pure (.next (zJ .i64 x.1 (zF b.1),zJ .i64 x.2 1)) else .pure (.done (Sum.inl x.1))) (zF x0.2.1.2.2.1,0)).bind fun (x:Int⊕Int)=>match x with
        |.inl x=>if gtI x 24=true then .pure (2,()) else .pure (0,())
        |.inr x=>.pure (x,())
def ju:List A16->Comp (A15×Unit):=fun x0=>(sub x0 0 (Hg (zF x0) 2)).bind fun x=>(jv x).bind fun a=>(jJ a.1).bind fun b=>jn (fun (c:A6×A5×List A4×Unit)=>(Comp.loop (fun (x:Int×A6×A5×List A4×Unit)=>if sel (ltI x.1 (zF x0)) (ltI x.1 7) false=true then (idx x0 x.1).bind fun d=>(vD a.1 d (gQ .i64 x.1 3)).bind fun e=>(app x.2.2.2.1 [e.1]).bind fun zs=>.pure (.next (zJ .i64 x.1 1,x.2.1,x.2.2.1,zs,())) else .pure (.done (x.2.1,x.2.2.1,x.2.2.2.1,()))) (3,c.1,c.2.1,c.2.2.1,())).bind fun d=>jn (fun (e:A6×A5×List A4×Unit)=>(Comp.loop (fun (f:A6×A5×List A4×Unit)=>(Comp.gd (gtI (zF f.2.2.1) 1) (gH (f.1,f.2.1,f.2.2.1,())) (0,())).bind fun g=>if sel (gtI (zF f.2.2.1) 1) (eqI g.1 2) false=true then jn (fun (x:A6×A5×List A4×Unit)=>.pure (.next (x.1,x.2.1,x.2.2.1,()))) fun (j:A6×A5×List A4×Unit->Comp (Comp.Step A13 A13))=>(sub f.2.2.1 0 (gQ .i64 (zF f.2.2.1) 1)).bind fun ys=>j (f.1,f.2.1,ys,()) else .pure (.done (f.1,f.2.1,f.2.2.1,()))) (e.1,e.2.1,e.2.2.1,())).bind fun x=>.pure ((x.1,x.2.1,x.2.2.1,()),())) fun (j:A6×A5×List A4×Unit->Comp (A13×Unit))=>if eqI (zF d.2.2.1) 0=true then (vD a.1 [] (Int.ofNat 0)).bind fun x=>(app d.2.2.1 [x.1]).bind fun zs=>j (d.1,d.2.1,zs,()) else j (d.1,d.2.1,d.2.2.1,())) fun (j:A6×A5×List A4×Unit->Comp (A13×Unit))=>if gtI (zF x0) 2=true then (idx x0 2).bind fun x=>(zG (x,0,()) (Int.ofNat 3)).bind fun y=>jn (fun (x:A6×A5×List A4×Unit)=>j (x.1,x.2.1,x.2.2.1,())) fun (j:A6×A5×List A4×Unit->Comp (A13×Unit))=>if eqI y.2.1 2=true then (idx x0 2).bind fun x=>(idx x0 2).bind fun c=>(sub x (Hg (zF c) 1) (zF x)).bind fun x=>(vG [x] a.1).bind fun x=>(jW a.1 b.1 x.1 []).bind fun x=>jn (fun (x:A6×A5×List A4×Unit)=>j (x.1,x.2.1,x.2.2.1,())) fun (j:A6×A5×List A4×Unit->Comp (A13×Unit))=>if eqI x.2.1 0=true then j (a.1,x.1,[],()) else j (a.1,b.1,[],()) else j (a.1,b.1,[],()) else j (a.1,b.1,[],())
def jZ:List Int->Comp A41:=fun x0=>(Comp.loop (fun (x:List A10×Int)=>if sel (ltI x.2 (zF x0)) (ltI x.2 15) false=true then (idx x0 x.2).bind fun a=>(rem (nU .i64 a) 3).bind fun b=>(Comp.gd (ntB (eqI (zJ .i64 1 b) 1)) (idx x0 x.2) (Int.ofNat 0)).bind fun c=>jn (fun (d:A10)=>(app x.1 [d]).bind fun zs=>.pure (.next (zs,zJ .i64 x.2 1))) fun (j:Int×Int×Unit->Comp (Comp.Step (List A10×Int) (List A10)))=>if sel (eqI (zJ .i64 1 b) 1) true (gtI c 250)=true then (idx x0 x.2).bind fun x=>(quo .i64 (nU .i64 x) 3).bind fun x=>(rem x 5).bind fun x=>j (zJ .i64 1 b,x,()) else j (zJ .i64 1 b,0,()) else .pure (.done x.1)) ([],0)).bind fun x=>.pure (x,())
def jR:List A16->List Int->Int->Comp A9:=fun x0 x1 x2=>jA.bind fun x=>(kJ x0).bind fun y=>(ju y.1).bind fun y_1=>(jy (y_1.1.1,y_1.1.2.1,y_1.1.2.2.1,())).bind fun a=>(rem (nU .i64 x2) 25).bind fun b=>(jZ x1).bind fun aF=>ze.bind fun c=>(Comp.loop (fun (d:Int)=>if ltI d (zF [(b,aF.1,()),(b,a.2.2.1,()),(a.2.1,a.2.2.1,()),(b,[c.1],())])=true then jn (fun (x:Unit)=>.pure (.next (zJ .i64 d 1))) fun (j:Unit->Comp (Comp.Step Int A29))=>(idx [(b,aF.1,()),(b,a.2.2.1,()),(a.2.1,a.2.2.1,()),(b,[c.1],())] d).bind fun e=>(za (y_1.1.1,y_1.1.2.1,y_1.1.2.2.1,()) e.1 e.2.1).bind fun f=>if ntB f.1=true then j () else if sel (eqI a.2.2.2.1 0) (sel (eqI e.1 0) true (ltI a.2.1 e.1)) false=true then .pure (.done (Sum.inr false)) else j () else .pure (.done (Sum.inl ()))) 0).bind fun (d:A29)=>match d with
          |.inl e=>(Comp.gd (adB (ntB (neI a.2.2.2.1 0)) x.1) (za (y_1.1.1,y_1.1.2.1,y_1.1.2.2.1,()) (zJ .i64 a.2.1 1) a.2.2.1) (false,())).bind fun f=>.pure (sel x.1 (sel (neI a.2.2.2.1 0) true (ntB f.1)) false,())
          |.inr x=>.pure (x,())
end Go.F
end
section
namespace Go.Geo
open Go Go.Eng Go.Lift Go.Den Go.F
variable {α β γ δ ε σ τ:Type}
abbrev V3:=Int×Int×Int×Unit
abbrev Pnt:=Int×Int×Int×Int×Unit
def okv(k n:Int):Bool:=decide (-k<=n/\n<=k)
def JI(v:V3):Nat:=Nat.gcd (Nat.gcd v.1.natAbs v.2.1.natAbs) v.2.2.1.natAbs
def okN(v:V3):Bool:=okv 4608 v.1 && (okv 4608 v.2.1 && okv 4608 v.2.2.1)
def okP(p:Pln):Bool:=okN p.1 && (decide (JI p.1=1) && okv 2097152 p.2.1)
theorem Ru:∀(b a:Nat),(Comp.loop
   (fun (x:Int×Int)=>if gtI x.2 0=true then (rem x.1 x.2).bind fun x_3=>Comp.pure (.next (x.2,x_3))
    else Comp.pure (.done x.1)) ((a:Int),(b:Int))).val=some ((Nat.gcd a b:Nat):Int):=by
 intro b
 induction b using Nat.strongRecOn with
 |_ b ih =>
  intro a
  conv=>lhs;rw[zM]
  by_cases hb:0<b
  ·have h1:(0:Int)<(b:Int):=by omega
   have h2:(rem (a:Int) (b:Int)).val=some ((a % b:Nat):Int):=by rw[Zn (by omega)];rfl
   have:=ih (a % b) (Nat.mod_lt _ hb) b;simp only[yd,h1,if_true,zA,h2,zLP,Comp.zB];rw[show Nat.gcd a b=Nat.gcd b (a % b) by rw[Nat.gcd_comm a b,Nat.gcd_rec,Nat.gcd_comm]]
   simp only[yd]at this;exact this
  ·have h0:b=0:=by omega
   subst h0;simp[gtI]
theorem G2:∀(b a:Int),∃r,r.natAbs=Nat.gcd a.natAbs b.natAbs/\(Comp.loop
   (fun (x:Int×Int)=>if neI x.2 0=true then (rem x.1 x.2).bind fun x_2=>Comp.pure (.next (x.2,x_2)) else Comp.pure (.done x.1)) (a,b)).val=some r:=by
 intro b;generalize hn:b.natAbs=n
 induction n using Nat.strongRecOn generalizing b with
 |_ n ih =>
  intro a;by_cases hb:b=0
  ·refine⟨a,?_,?_⟩
   ·subst hb;simp at hn;simp[<-hn]
   ·conv=>lhs;rw[zM]
    simp[neI,hb]
  ·have gF:(a.tmod b).natAbs<n:=by rw[Int.natAbs_tmod,<-hn];exact Nat.mod_lt _ (by omega)
   obtain⟨r,h1,h2⟩:=ih _ gF (a.tmod b) rfl b;refine⟨r,?_,?_⟩
   ·rw[h1,Int.natAbs_tmod,hn]
    exact(Nat.gcd_comm _ _).trans ((Nat.gcd_rec n a.natAbs).symm.trans (Nat.gcd_comm _ _))
   ·conv=>lhs;rw[zM]
    simp only[z6,ne_eq,hb,not_false_eq_true,if_true,zA,Zn hb,zLP,Comp.zB];simp only[z6,ne_eq]at h2;exact h2
theorem qq{n:Int}(h : -9223372036854775808<n/\n<9223372036854775808):rP n (Yc .i64 n)=(n.natAbs:Int):=by
 rw[JW h];unfold rP;omega
theorem p6{n:Int}(h : -9223372036854775808<n/\n<9223372036854775808):(jh n).val=some ((n.natAbs:Int),()):=by
 unfold jh;rw[Comp.zB,qq h]
theorem Aj{l:List Int}(hl:l.length<9223372036854775807)(h:∀n∈l, -9223372036854775808<n/\n<9223372036854775808):(Za l).val=some (((l.foldl (fun g n=>Nat.gcd g n.natAbs) 0:Nat):Int),()):=by
 unfold Za;have h1:=K7 (fun (s:Nat) i=>(((s:Nat):Int),((i:Nat):Int))) l (fun (s:Nat) n=>.next (Nat.gcd s n.natAbs)) (fun s=>(Sum.inl ((s:Nat):Int):Int⊕Int)) 0
  (body:=fun (x:Int×Int)=>if ltI x.2 (zF l)=true then
       (idx l x.2).bind fun x_1=>if eqI x_1 (-9223372036854775808)=true then Comp.pure (.done (Sum.inr 0))
        else
         (Go.F.jh x_1).bind fun x_2=>(Comp.loop
             (fun (x:Int×Int)=>if gtI x.2 0=true then (rem x.1 x.2).bind fun x_3=>Comp.pure (.next (x.2,x_3))
              else Comp.pure (.done x.1))
             (x.1,x_2.1)).bind fun x_3=>Comp.pure (.next (x_3,zJ .i64 x.2 1))
      else Comp.pure (.done (Sum.inl x.1)))
  (fun s i n hx=>by
   have gF:=zK hx;have hn:=h n (zLW hx)
   have h1:(i:Int)<zF l:=by rw[zC];omega
   rw[zLr (by rw[zH];exact h1),zA,zO hx,zLP,zLs (by rw[yi];omega),zA,p6 hn,zLP,zA,Ru,zLP,Comp.zB,zN (show i<9223372036854775807 by omega)]
   rfl)
  (fun s=>by
   have h1:¬((l.length:Int)<zF l):=by rw[zC];omega
   simp only[zH,h1,if_false,Comp.zB])
 rw[Comp.XU]at h1;rw[zA];refine(zLi (fun o=>Option.bind o _) h1).trans ?_
 rw[zLP];exact Comp.zB _
theorem tF{k:Int}{l:List Int}(hk:0<=k/\k<9223372036854775808)(hl:l.length<9223372036854775807):(jG k l).val=some (l.all fun n=>okv k n,()):=by
 unfold jG;have h1:=Zt l (okv k) (c:=(Sum.inr false:Unit⊕Bool)) (d:=Sum.inl ())
  (body:=fun (x:Int)=>if ltI x (zF l)=true then
       (idx l x).bind fun x_1=>if sel (ltI x_1 (Yc .i64 k)) true (gtI x_1 k)=true then Comp.pure (.done (Sum.inr false))
        else Comp.pure (.next (zJ .i64 x 1))
      else Comp.pure (.done (Sum.inl ())))
  (fun i n hx=>by
   have gF:=zK hx;have h1:(i:Int)<zF l:=by rw[zC];omega
   rw[zLr (by rw[zH];exact h1),zA,zO hx,zLP,JW (by omega),zN (show i<9223372036854775807 by omega),Xj]
   have e:sel (ltI n (-k)) true (gtI n k) = !okv k n:=by
    rw[gx];unfold ltI gtI okv;by_cases h1:n < -k<;>by_cases h2:n > k<;>simp[h1,h2]<;>omega
   rw[e];cases okv k n<;>simp)
  (by
   have h1:¬((l.length:Int)<zF l):=by rw[zC];omega
   simp only[zH,h1,if_false,Comp.zB])
 rw[zA];refine(zLi (fun o=>Option.bind o _) h1).trans ?_
 rw[zLP];show _=some (l.all (okv k),())
 cases l.all (okv k)<;>exact Comp.zB _
theorem Ej{v:V3}(h:okN v=true):∀n∈[v.1,v.2.1,v.2.2.1], -4608<=n/\n<=4608:=by
 unfold okN okv at h;simp only[zLR,zLj]at h;intro n hn;simp only[zLV,List.not_mem_nil,or_false]at hn;rcases hn with rfl|rfl|rfl<;>omega
theorem uF(p:Pln):(Yu p).val=some (okP p,()):=by
 unfold Yu;have h1:(jG (Int.ofNat 4608) [p.1.1,p.1.2.1,p.1.2.2.1]).val=some (okN p.1,()):=by
  rw[tF (by decide) (by simp)]
  simp[okN]
 have h2:(jG (Int.ofNat 2097152) [p.2.1]).val=some (okv 2097152 p.2.1,()):=by
  rw[tF (by decide) (by simp)]
  simp
 rw[vk,zA,h1,zLP,Xj]
 cases hN:okN p.1 with
 |false=>simp[okP,hN]
 |true =>
  rw[zLr rfl];have h3:=Aj (l:=[p.1.1,p.1.2.1,p.1.2.2.1]) (by simp) (fun n hn=>by have:=Ej hN n hn;omega)
  have h4:[p.1.1,p.1.2.1,p.1.2.2.1].foldl (fun g n=>Nat.gcd g n.natAbs) 0=JI p.1:=by simp[JI]
  rw[h4]at h3;rw[zA,h3,zLP,Xj];by_cases hg:JI p.1=1
  ·have:eqI ((JI p.1:Nat):Int) 1=true:=by rw[yi];omega
   rw[zLr this,zA,h2,zLP,Comp.zB];unfold okP;rw[hN,zLu hg];rfl
  ·have:eqI ((JI p.1:Nat):Int) 1=false:=by unfold eqI;rw[zLt];omega
   rw[zLs (by rw[this];simp),Comp.zB]
   unfold okP;rw[hN,zLt hg];rfl
def chk(c:List Pln):Int:=if 48<c.length then 2 else bif c.all okP then 0 else 12
theorem AB{c:List Pln}:chk c=0↔c.length<=48/\c.all okP=true:=by
 unfold chk;split
 ·simp;omega
 ·cases c.all okP<;>simp;omega
theorem Wg(c:List Pln):(c.any fun p=>!okP p) = !c.all okP:=by rw[List.all_eq_not_any_not,Bool.not_not]
theorem jl(c:List Pln):(gU c).val=some (chk c,()):=by
 unfold gU chk;by_cases h:48<c.length
 ·rw[zLr (by rw[yd,zC];omega),zLr h,Comp.zB]
 ·rw[zLs (by rw[yd,zC];omega),zLs h]
  have h1:(zY c fun z=>jP z.1).val=some (c.any fun p=>!okP p,()) :=
   Zs (xs:=c) (f:=fun z=>jP z.1) (p:=fun p=>!okP p) (by omega) fun p _=>by
    show (jP p).val=_
    unfold jP;rw[zA,uF,zLP,Comp.zB];rfl
  rw[zA,h1,zLP,Wg,Xj];cases c.all okP<;>simp
theorem YV(l:List (List Pln))(hl:l.length<9223372036854775807):(ZU l).val=some (l.all fun c=>decide (chk c=0),()):=by
 unfold ZU;have h1:(zI l fun z=>jO z.1).val=some (l.any fun c=>!decide (chk c=0),()) :=
  Zs (xs:=l) (f:=fun z=>jO z.1) (p:=fun c=>!decide (chk c=0)) hl fun c _=>by
   show (jO c).val=_
   unfold jO;rw[zA,jl,zLP,Comp.zB];unfold neI;by_cases h:chk c=0<;>simp[h]
 rw[zA,h1,zLP,Comp.zB,yP,List.all_eq_not_any_not]
theorem Nf{n:Int}(h : -9223372036854775808<n/\n<9223372036854775808):(vS n).val=some ((n.natAbs:Int),()):=by
 unfold vS;by_cases h0:n<0
 ·rw[zLr (by rw[zH];exact h0),Comp.zB,JW h];congr 2;omega
 ·rw[zLs (by rw[zH];exact h0),Comp.zB];congr 2;omega
theorem Io{v:V3}(h:okN v=true):∃u,(gf v).val=some (u,((JI v:Nat):Int),()):=by
 have fX:=Ej h;unfold gf;have hc:(yA v).val=some ([v.1,v.2.1,v.2.2.1],()):=by unfold yA;exact Comp.zB _
 rw[zA,hc,zLP];simp only;generalize hl:[v.1,v.2.1,v.2.2.1]=l at fX;have kA:l.length=3:=by rw[<-hl];rfl
 have h1:=K7 (fun (s:Nat) i=>((((s:Nat):Int),((i:Nat):Int),(0,0,0,())):Int×Int×Int×Int×Int×Unit)) l (fun (s:Nat) n=>.next (Nat.gcd s n.natAbs)) (fun s=>(Sum.inl ((((s:Nat):Int),(0,0,0,())):Int×Int×Int×Int×Unit):(Int×Int×Int×Int×Unit)⊕(Int×Int×Int×Int×Unit))) 0
  (body:=(fun (x_1:Int×Int×Int×Int×Int×Unit)=>if ltI x_1.2.1 3=true then
        (idx l x_1.2.1).bind fun x_2=>if eqI x_2 (-9223372036854775808)=true then Comp.pure (.done (Sum.inr (0,0,0,0,())))
         else
          (idx l x_1.2.1).bind fun x=>(Go.F.vS x).bind fun x=>(Comp.loop
               (fun (x:Int×Int)=>if gtI x.2 0=true then (rem x.1 x.2).bind fun x_3=>Comp.pure (.next (x.2,x_3))
                else Comp.pure (.done x.1))
               (x_1.1,x.1)).bind fun x=>Comp.pure (.next (x,zJ .i64 x_1.2.1 1,x_1.2.2))
       else Comp.pure (.done (Sum.inl (x_1.1,x_1.2.2)))))
  (fun s i n hx=>by
   have gF:=zK hx;have hn:=fX n (zLW hx)
   rw[zLr (by rw[zH];show (i:Int)<3;omega),zA,zO hx,zLP,zLs (by rw[yi];omega),zA,zO hx,zLP,zA,Nf (by omega),zLP,zA,Ru,zLP,Comp.zB,zN (show i<9223372036854775807 by omega)]
   rfl)
  (fun s=>by
   rw[zLs (by rw[zH,kA];simp),Comp.zB])
 rw[Comp.XU]at h1;have hg:l.foldl (fun g n=>Nat.gcd g n.natAbs) 0=JI v:=by rw[<-hl];simp[JI]
 rw[hg]at h1;rw[zA]
 have h2:=zLi (fun o=>Option.bind o fun (x:(Int×Int×Int×Int×Unit)⊕(Int×Int×Int×Int×Unit))=>(match x with
    |Sum.inl x =>
     if eqI x.1 0=true then Comp.pure ((0,0,0,()),0,())
     else
      (quo .i64 v.1 x.1).bind fun x_1=>(quo .i64 v.2.1 x.1).bind fun x_2=>(quo .i64 v.2.2.1 x.1).bind fun x_3=>Comp.pure ((x_1,x_2,x_3,()),x.1,())
    |Sum.inr x=>Comp.pure (x.2,x.1,()):Comp Pln).val) h1
 by_cases h0:JI v=0
 ·refine⟨(0,0,0,()),h2.trans ?_⟩
  show (if eqI ((JI v:Nat):Int) 0=true then _ else _:Comp Pln).val=_
  rw[zLr (by rw[yi];omega),Comp.zB,h0];rfl
 ·have hq:∀n,∃m,(quo .i64 n ((JI v:Nat):Int)).val=some m:=fun n=>by
   unfold quo;rw[zLs (by omega)]
   exact⟨_,Comp.zB _⟩
  obtain⟨a,ha⟩:=hq v.1;obtain⟨b,hb⟩:=hq v.2.1;obtain⟨c,hc⟩:=hq v.2.2.1;refine⟨(a,b,c,()),h2.trans ?_⟩;show (if eqI ((JI v:Nat):Int) 0=true then _ else _:Comp Pln).val=_
  rw[zLs (by rw[yi];omega),zA,ha,zLP,zA,hb,zLP,zA,hc,zLP,Comp.zB]
theorem DV(p:Pln):(gK p).val=some (okP p,()):=by
 unfold gK;have hc:(yA p.1).val=some ([p.1.1,p.1.2.1,p.1.2.2.1],()):=by unfold yA;exact Comp.zB _
 rw[zA,hc,zLP];have h1:=Zt [p.1.1,p.1.2.1,p.1.2.2.1] (okv 4608) (c:=(Sum.inr false:Unit⊕Bool)) (d:=Sum.inl ())
  (body:=(fun (x_1:Int)=>if ltI x_1 3=true then
        (idx [p.1.1,p.1.2.1,p.1.2.2.1] x_1).bind fun x_2=>(Comp.gd (ntB (ltI x_2 (-4608))) (idx [p.1.1,p.1.2.1,p.1.2.2.1] x_1) (Int.ofNat 0)).bind fun x_3=>if sel (ltI x_2 (-4608)) true (gtI x_3 4608)=true then Comp.pure (.done (Sum.inr false))
          else Comp.pure (.next (zJ .i64 x_1 1))
       else Comp.pure (.done (Sum.inl ()))))
  (fun i n hx=>by
   have gF:=zK hx;have hlt3:i<3:=gF
   rw[zLr (by rw[zH];omega),zA,zO hx,zLP,zA,Qo,zO hx,zN (show i<9223372036854775807 by omega)]
   unfold okv;by_cases h1:n < -4608
   ·have:ltI n (-4608)=true:=by rw[zH];exact h1
    have h2:¬(-4608<=n/\n<=4608):=by omega
    simp[this,yP,sel,h2]
   ·have:ltI n (-4608)=false:=by unfold ltI;exact zLt h1
    by_cases h3:n > 4608
    ·have h2:¬(-4608<=n/\n<=4608):=by omega
     have h4:gtI n 4608=true:=by rw[yd];exact h3
     simp[this,yP,sel,h2,h4]
    ·have h2:(-4608<=n/\n<=4608):=by omega
     have h4:gtI n 4608=false:=by unfold gtI;exact zLt h3
     simp[this,yP,sel,h2,h4])
  (by rw[zLs (by rw[zH];simp),Comp.zB])
 rw[zA];have fF:[p.1.1,p.1.2.1,p.1.2.2.1].all (okv 4608)=okN p.1:=by simp[okN]
 rw[fF]at h1;refine(zLi (fun o=>Option.bind o _) h1).trans ?_
 rw[zLP]
 cases hN:okN p.1 with
 |false=>exact(Comp.zB _).trans (by unfold okP;rw[hN];rfl)
 |true =>
  obtain⟨u,hu⟩:=Io hN;show ((gf p.1).bind fun x=>Comp.pure (sel (sel (eqI x.2.1 1) (geI p.2.1 (-2097152)) false) (leI p.2.1 2097152) false,())).val=_
  rw[zA,hu,zLP,Comp.zB];unfold okP okv;rw[hN,gy,gy];unfold eqI geI leI
  congr 2
  have:decide (((JI p.1:Nat):Int)=1)=decide (JI p.1=1):=by by_cases hg:JI p.1=1<;>simp[hg]<;>omega
  rw[this];by_cases h1:p.2.1 ≥ -2097152<;>by_cases h2:p.2.1<=2097152<;>simp[h1,h2]
theorem jq(c:List Pln):(zZ c).val=some (chk c,()):=by
 unfold zZ chk;by_cases h:48<c.length
 ·rw[zLr (by rw[yd,zC];omega),zLr h,Comp.zB]
 ·rw[zLs (by rw[yd,zC];omega),zLs h]
  have h1:=Zt c okP (c:=(Sum.inr 12:Unit⊕Int)) (d:=Sum.inl ())
   (body:=(fun (x:Int)=>if ltI x (zF c)=true then
        (idx c x).bind fun x_1=>(Go.F.gK x_1).bind fun x_2=>if ntB x_2.1=true then Comp.pure (.done (Sum.inr 12)) else Comp.pure (.next (zJ .i64 x 1))
       else Comp.pure (.done (Sum.inl ()))))
   (fun i p hx=>by
    have gF:=zK hx;rw[zLr (by rw[zH,zC];omega),zA,zO hx,zLP,zA,DV,zLP,Xj,yP,zN (show i<9223372036854775807 by omega)]
    cases okP p<;>simp)
   (by rw[zLs (by rw[zH,zC];omega),Comp.zB])
  rw[zA];refine(zLi (fun o=>Option.bind o _) h1).trans ?_
  rw[zLP];cases c.all okP<;>exact Comp.zB _
def cr(a b:V3):V3:=(a.2.1 * b.2.2.1-a.2.2.1 * b.2.1,a.2.2.1 * b.1-a.1 * b.2.2.1,a.1 * b.2.1-a.2.1 * b.1,())
def dt(a b:V3):Int:=a.1 * b.1+a.2.1 * b.2.1+a.2.2.1 * b.2.2.1
def ad(a b:V3):V3:=(a.1+b.1,a.2.1+b.2.1,a.2.2.1+b.2.2.1,())
def sc(a:V3)(n:Int):V3:=(a.1 * n,a.2.1 * n,a.2.2.1 * n,())
def Bd(k:Int)(v:V3):Prop:=(-k<=v.1/\v.1<=k)/\(-k<=v.2.1/\v.2.1<=k)/\(-k<=v.2.2.1/\v.2.2.1<=k)
theorem y9{a b A B:Int}(ha : -A<=a/\a<=A)(hb : -B<=b/\b<=B) : -(A * B)<=a * b/\a * b<=A * B:=by
 have hA:0<=A:=by omega
 have hB:0<=B:=by omega
 have h1:(a * b).natAbs<=(A * B).natAbs:=by
  rw[Int.natAbs_mul,Int.natAbs_mul];exact Nat.mul_le_mul (by omega) (by omega)
 have h2:0<=A * B:=Int.mul_nonneg hA hB;omega
theorem zDc{v:V3}(h:okN v=true):Bd 4608 v:=by
 have:=Ej h;exact⟨this v.1 (by simp),this v.2.1 (by simp),this v.2.2.1 (by simp)⟩
theorem J4{a b:V3}(ha:Bd 4608 a)(hb:Bd 4608 b):Bd 42467328 (cr a b):=by
 obtain⟨a1,a2,a3⟩:=ha;obtain⟨b1,b2,b3⟩:=hb;have e1:=y9 a2 b3;have e2:=y9 a3 b2;have e3:=y9 a3 b1;have e4:=y9 a1 b3;have e5:=y9 a1 b2;have e6:=y9 a2 b1
 unfold cr Bd;simp only;refine⟨?_,?_,?_⟩<;>omega
theorem Kx{a:V3}{n A B:Int}(ha:Bd A a)(hn : -B<=n/\n<=B):Bd (A * B) (sc a n):=⟨y9 ha.1 hn,y9 ha.2.1 hn,y9 ha.2.2 hn⟩
theorem Bd.le{A B:Int}{v:V3}(h:Bd A v)(t8:A<=B):Bd B v:=by
 obtain⟨h1,h2,h3⟩:=h;refine⟨?_,?_,?_⟩<;>omega
theorem JT{a b:V3}(ha:Bd 4608 a)(hb:Bd 4608 b):(Zf a b).val=some (cr a b,()):=by
 obtain⟨a1,a2,a3⟩:=ha;obtain⟨b1,b2,b3⟩:=hb;have e1:=y9 a2 b3;have e2:=y9 a3 b2;have e3:=y9 a3 b1;have e4:=y9 a1 b3;have e5:=y9 a1 b2;have e6:=y9 a2 b1
 unfold Zf;rw[Comp.zB,YI (m:=a.2.1) (by omega),YI (m:=a.2.2.1) (by omega),YI (m:=a.2.2.1) (by omega),YI (m:=a.1) (by omega),YI (m:=a.1) (by omega),YI (m:=a.2.1) (by omega),
  YG (by omega),YG (by omega),YG (by omega)]
 rfl
theorem XT{a b:V3}(ha:Bd 4608 a)(hb:Bd 4608 b):(vY a b).val=some (cr a b,()):=JT ha hb
theorem ux{a b:V3}(ha:Bd 4608 a)(hb:Bd 42467328 b):(ZX a b).val=some (dt a b,()):=by
 obtain⟨a1,a2,a3⟩:=ha;obtain⟨b1,b2,b3⟩:=hb;have e1:=y9 a1 b1;have e2:=y9 a2 b2;have e3:=y9 a3 b3
 unfold ZX;rw[Comp.zB,YI (m:=a.1) (by omega),YI (m:=a.2.1) (by omega),YI (m:=a.2.2.1) (by omega),ye (m:=a.1 * b.1) (by omega),ye (by omega)]
 rfl
theorem Nc{a b:V3}(ha:Bd 4608 a)(hb:Bd 42467328 b):(Z9 a b).val=some (dt a b,()):=ux ha hb
theorem JM{a:V3}{n:Int}(h:Bd 9223372036854775807 (sc a n)):(Yb a n).val=some (sc a n,()):=by
 obtain⟨h1,h2,h3⟩:=h;unfold sc at h1 h2 h3;simp only at h1 h2 h3;unfold Yb;rw[Comp.zB,YI (m:=a.1) (by omega),YI (m:=a.2.1) (by omega),YI (m:=a.2.2.1) (by omega)]
 rfl
theorem Ys{a:V3}{n:Int}(h:Bd 9223372036854775807 (sc a n)):(yf a n).val=some (sc a n,()):=JM h
theorem u4{a b:V3}(h:Bd 9223372036854775807 (ad a b)):(XG a b).val=some (ad a b,()):=by
 obtain⟨h1,h2,h3⟩:=h;unfold ad at h1 h2 h3;simp only at h1 h2 h3;unfold XG;rw[Comp.zB,ye (m:=a.1) (by omega),ye (m:=a.2.1) (by omega),ye (m:=a.2.2.1) (by omega)]
 rfl
theorem BJ{a b:V3}(h:Bd 9223372036854775807 (ad a b)):(kH a b).val=some (ad a b,()):=u4 h
theorem rE{a b:V3}{A B:Int}(ha:Bd A a)(hb:Bd B b):Bd (A+B) (ad a b):=by
 obtain⟨a1,a2,a3⟩:=ha;obtain⟨b1,b2,b3⟩:=hb;unfold ad Bd;simp only;refine⟨?_,?_,?_⟩<;>omega
def det(p q r:Pln):Int:=dt p.1 (cr q.1 r.1)
def num(p q r:Pln):V3:=ad (ad (sc (cr q.1 r.1) p.2.1) (sc (cr r.1 p.1) q.2.1)) (sc (cr p.1 q.1) r.2.1)
theorem mm(p q r:Pln):det p q r=dt r.1 (cr p.1 q.1):=by
 unfold det dt cr;simp only[Int.mul_sub];generalize p.1.1=a1;generalize p.1.2.1=a2;generalize p.1.2.2.1=a3;generalize q.1.1=b1;generalize q.1.2.1=b2;generalize q.1.2.2.1=b3;generalize r.1.1=c1;generalize r.1.2.1=c2;generalize r.1.2.2.1=c3;have e:∀x y z:Int,x * (y * z)=z * (x * y):=fun x y z=>by rw[<-Int.mul_assoc,Int.mul_comm]
 have e1:=e a1 b2 c3;have e2:=e a1 b3 c2;have e3:=e a2 b3 c1;have e4:=e a2 b1 c3;have e5:=e a3 b1 c2;have e6:=e a3 b2 c1
 rw[e1,e2,e3,e4,e5,e6,Int.mul_comm a2 b1,Int.mul_comm a3 b1,Int.mul_comm a3 b2];rw[Int.mul_comm b1 a2,Int.mul_comm b1 a3,Int.mul_comm b2 a3];omega
def okB(p:Pln):Prop:=Bd 4608 p.1/\(-2097152<=p.2.1/\p.2.1<=2097152)
theorem zGG{p:Pln}(h:okP p=true):okB p:=by
 unfold okP okv at h;simp only[zLR,zLj]at h;exact⟨zDc h.1,h.2.2⟩
theorem Ex{p q r:Pln}(hp:okB p)(hq:okB q)(hr:okB r) : -600000000000<=det p q r/\det p q r<=600000000000:=by
 have hc:=J4 hq.1 hr.1;have e1:=y9 hp.1.1 hc.1;have e2:=y9 hp.1.2.1 hc.2.1;have e3:=y9 hp.1.2.2 hc.2.2
 unfold det dt;omega
theorem Ek{p q r:Pln}(hp:okB p)(hq:okB q)(hr:okB r):Bd 300000000000000 (num p q r):=by
 have h1:=Kx (J4 hq.1 hr.1) hp.2;have h2:=Kx (J4 hr.1 hp.1) hq.2
 have h3:=Kx (J4 hp.1 hq.1) hr.2;exact(rE (rE h1 h2) h3).le (by decide)
def kh(v:V3)(w:Int):Nat:=Nat.gcd (Nat.gcd v.1.natAbs v.2.1.natAbs) (Nat.gcd v.2.2.1.natAbs w.natAbs)
def mkP(v:V3)(w:Int):Pnt :=
 let g:Int:=(kh v w:Nat)
 if w<0 then ((-v.1).tdiv g,(-v.2.1).tdiv g,(-v.2.2.1).tdiv g,(-w).tdiv g,()) else (v.1.tdiv g,v.2.1.tdiv g,v.2.2.1.tdiv g,w.tdiv g,())
def mt(p q r:Pln):Option Pnt:=if det p q r=0 then none else some (mkP (num p q r) (det p q r))
def uK:Option Pnt->Pnt×Bool×Unit
 |some x=>(x,true,())
 |none=>((0,0,0,0,()),false,())
theorem qQ{v:V3}{w:Int}(h:w≠0):0<kh v w:=by
 unfold kh;refine Nat.gcd_pos_of_pos_right _ (Nat.gcd_pos_of_pos_right _ (by omega))
theorem GE{a b:Int}:(a.tdiv b).natAbs<=a.natAbs:=by rw[Int.natAbs_tdiv];exact Nat.div_le_self _ _
theorem j7{a b:Int}(hb:b≠0)(ha : -9223372036854775808<a/\a<9223372036854775808):(quo .i64 a b).val=some (a.tdiv b):=by
 unfold quo;rw[zLs hb,Comp.zB];have:=GE (a:=a) (b:=b)
 exact zLi some (rS (by omega))
theorem pz{v:V3}{w:Int}(hv:Bd 300000000000000 v)(hw : -600000000000<=w/\w<=600000000000):(Ka [v.1,v.2.1,v.2.2.1,w]).val=some (((kh v w:Nat):Int),()):=by
 unfold Ka;generalize hl:[v.1,v.2.1,v.2.2.1,w]=l;have kA:l.length=4:=by rw[<-hl];rfl
 have key:∀(ys zs:List Int) (g:Int),l=zs++ys->∃r,r.natAbs=ys.foldl (fun g n=>Nat.gcd g n.natAbs) g.natAbs/\(Comp.loop
     (fun (x:Int×Int)=>if ltI x.2 (zF l)=true then
       (idx l x.2).bind fun x_1=>(Comp.loop
           (fun (x:Int×Int)=>if neI x.2 0=true then (rem x.1 x.2).bind fun x_2=>Comp.pure (.next (x.2,x_2)) else Comp.pure (.done x.1))
           (x.1,x_1)).bind fun x_2=>Comp.pure (.next (x_2,zJ .i64 x.2 1))
      else Comp.pure (.done x.1)) (g,(zs.length:Int))).val=some r:=by
  intro ys
  induction ys with
  |nil =>
   intro zs g hx;refine⟨g,rfl,?_⟩;rw[zM,zLs (by rw[zH,zC,hx];simp),Comp.zB,zLP]
  |cons y ys ih =>
   intro zs g hx;have hy:l[zs.length]?=some y:=by rw[hx];simp
   have gF:=zK hy;obtain⟨r1,h1,h2⟩:=G2 y g;obtain⟨r,h3,h4⟩:=ih (zs++[y]) r1 (by rw[hx];simp)
   refine⟨r,by rw[h3,List.foldl_cons,h1],?_⟩
   rw[zM,zLr (by rw[zH,zC];show (zs.length:Int)<_;omega),zA,zO hy,zLP,zA,h2,zLP,Comp.zB,zN (by omega),zLP]
   simpa using h4
 obtain⟨r,h1,h2⟩:=key l [] 0 rfl;rw[zA];refine(zLi (fun o=>Option.bind o _) h2).trans ?_
 rw[zLP,Comp.zB];have hg:r.natAbs=kh v w:=by
  rw[h1,<-hl];simp only[List.foldl_cons,List.foldl_nil,Int.natAbs_zero,Nat.gcd_zero_left];unfold kh;rw[Nat.gcd_assoc]
 have hgw:(kh v w)<=900000000000000:=by
  unfold kh;by_cases hw0:w=0
  ·by_cases h3:v.2.2.1=0
   ·by_cases h2:v.2.1=0
    ·rw[hw0,h3,h2];simp;have:=hv.1;omega
    ·refine zLY (Nat.le_of_dvd (by omega) (Nat.dvd_trans (Nat.gcd_dvd_left _ _) (Nat.gcd_dvd_right _ _)):_<=v.2.1.natAbs) ?_
     have:=hv.2.1;omega
   ·refine zLY (Nat.le_of_dvd (by omega) (Nat.dvd_trans (Nat.gcd_dvd_right _ _) (Nat.gcd_dvd_left _ _)):_<=v.2.2.1.natAbs) ?_
    have:=hv.2.2;omega
  ·refine zLY (Nat.le_of_dvd (by omega) (Nat.dvd_trans (Nat.gcd_dvd_right _ _) (Nat.gcd_dvd_right _ _)):_<=w.natAbs) ?_
   omega
 rw[qq (by omega),hg]
theorem Jv(a b:Nat):(zr (a:Int) (b:Int)).val=some (((Nat.gcd a b:Nat):Int),()):=by
 unfold zr;obtain⟨r,h1,h2⟩:=G2 (b:Int) (a:Int);have key:∀(b a:Nat),(Comp.loop
   (fun (x:Int×Int)=>if neI x.2 0=true then (rem x.1 x.2).bind fun x_2=>Comp.pure (.next (x.2,x_2)) else Comp.pure (.done x.1)) ((a:Int),(b:Int))).val=some ((Nat.gcd a b:Nat):Int):=by
  intro b
  induction b using Nat.strongRecOn with
  |_ b ih =>
   intro a;rw[zM];by_cases hb:b=0
   ·subst hb
    rw[zLs (by rw[z6];simp),Comp.zB,zLP];simp
   ·have h2:(rem (a:Int) (b:Int)).val=some ((a % b:Nat):Int):=by rw[Zn (by omega)];rfl
    rw[zLr (by rw[z6];show (b:Int)≠0;omega),zA,h2,zLP,Comp.zB,zLP]
    refine(ih (a % b) (Nat.mod_lt _ (by omega)) b).trans ?_
    rw[show Nat.gcd a b=Nat.gcd b (a % b) by rw[Nat.gcd_comm a b,Nat.gcd_rec,Nat.gcd_comm]]
 rw[zA,key,zLP,Comp.zB]
theorem zDi{v:V3}{k:Int}(h:Bd k v):Bd k (sc v (-1)):=by
 obtain⟨h1,h2,h3⟩:=h;unfold sc Bd;simp only;refine⟨?_,?_,?_⟩<;>omega
theorem rK{p q r:Pln}(hp:okB p)(hq:okB q)(hr:okB r):(XK [p,q,r]).val=some (uK (mt p q r)):=by
 unfold XK;have hd:=Ex hp hq hr
 have hn:=Ek hp hq hr;have c1:=J4 hq.1 hr.1;have c2:=J4 hr.1 hp.1;have c3:=J4 hp.1 hq.1
 have s1:=Kx c1 hp.2;have s2:=Kx c2 hq.2;have s3:=Kx c3 hr.2
 have z:Bd 0 (0,0,0,()):=by unfold Bd;simp
 have a1:=rE z s1;have a2:=rE a1 s2;have a3:=rE a2 s3
 have hz:ad (0,0,0,()) (sc (cr q.1 r.1) p.2.1)=sc (cr q.1 r.1) p.2.1:=by unfold ad;simp
 have r1:(rem (zJ .i64 0 1) 3).val=some 1:=by rw[Zn (by decide)];rfl
 have r2:(rem (zJ .i64 0 2) 3).val=some 2:=by rw[Zn (by decide)];rfl
 have r3:(rem (zJ .i64 1 1) 3).val=some 2:=by rw[Zn (by decide)];rfl
 have r4:(rem (zJ .i64 1 2) 3).val=some 0:=by rw[Zn (by decide)];rfl
 have r5:(rem (zJ .i64 2 1) 3).val=some 0:=by rw[Zn (by decide)];rfl
 have r6:(rem (zJ .i64 2 2) 3).val=some 1:=by rw[Zn (by decide)];rfl
 have i0:(idx [p,q,r] 0).val=some p:=Kq rfl;have i1:(idx [p,q,r] 1).val=some q:=Kq rfl
 have i2:(idx [p,q,r] 2).val=some r:=Kq rfl;have dD:(Comp.loop
     (fun (x:Int×Int×Int×Int×Int×Unit)=>if ltI x.2.1 3=true then
       (idx [p,q,r] x.2.1).bind fun x_1=>(rem (zJ .i64 x.2.1 1) 3).bind fun x_2=>(idx [p,q,r] x_2).bind fun x_3=>(rem (zJ .i64 x.2.1 2) 3).bind fun x_4=>(idx [p,q,r] x_4).bind fun x_5=>(Go.F.Zf x_3.1 x_5.1).bind fun x_6=>(Go.F.ZX x_1.1 x_6.1).bind fun x_7=>(Go.F.Yb x_6.1 x_1.2.1).bind fun x_8=>(Go.F.XG x.2.2 x_8.1).bind fun x_9=>Comp.pure (.next (x_7.1,zJ .i64 x.2.1 1,x_9.1))
      else Comp.pure (.done (x.1,x.2.2)))
     (0,0,0,0,0,())).val=some ((det p q r,num p q r):Int×V3):=by
  rw[zM,zLr (by rw[zH];show (0:Int)<3;omega)]
  simp only[zA,i0,r1,i1,r2,i2,JT hq.1 hr.1,ux hp.1 c1,JM (s1.le (by decide)),zLP,Comp.zB]
  rw[u4 (a1.le (by decide)),zLP,zLP]
  simp only;rw[zM,zLr (by rw[zH];show zJ .i64 0 1<3;decide)]
  simp only[show zJ .i64 0 1=1 from rfl,zA,i1,r3,i2,r4,i0,JT hr.1 hp.1,ux hq.1 c2,JM (s2.le (by decide)),zLP,Comp.zB]
  rw[u4 (a2.le (by decide)),zLP,zLP]
  simp only;rw[zM,zLr (by rw[zH];show zJ .i64 1 1<3;decide)]
  simp only[show zJ .i64 1 1=2 from rfl,zA,i2,r5,i0,r6,i1,JT hp.1 hq.1,ux hr.1 c3,JM (s3.le (by decide)),zLP,Comp.zB]
  rw[u4 (a3.le (by decide)),zLP,zLP]
  simp only;rw[zM,zLs (by rw[zH];show ¬(zJ .i64 2 1<3);decide),Comp.zB,zLP,hz,mm]
  rfl
 rw[zA];refine(zLi (fun o=>Option.bind o _) dD).trans ?_
 rw[zLP];simp only;unfold mt;by_cases h0:det p q r=0
 ·rw[zLr (by rw[yi];exact h0),zLr h0,Comp.zB];rfl
 ·rw[zLs (by rw[yi];exact h0),zLs h0,zA,pz hn hd,zLP,vk]
  have hg:=qQ (v:=num p q r) h0;have dJ:kh (num p q r) (det p q r)<=600000000000:=by
   refine zLY (Nat.le_of_dvd (by omega) (Nat.dvd_trans (Nat.gcd_dvd_right _ _) (Nat.gcd_dvd_right _ _)):_<=(det p q r).natAbs) ?_
   omega
  obtain⟨n1,n2,n3⟩:=hn;by_cases xJ:det p q r<0
  ·rw[zLr (by rw[zH];exact xJ),JW (by omega)]
   rw[zA,j7 (by omega) (by omega),zLP,zA,j7 (by omega) (by omega),zLP,zA,j7 (by omega) (by omega),zLP,zA,j7 (by omega) (by omega),zLP,Comp.zB]
   unfold mkP;simp only[zLr xJ,Int.tdiv_neg,Int.neg_tdiv];rfl
  ·rw[zLs (by rw[zH];exact xJ)]
   rw[zA,j7 (by omega) (by omega),zLP,zA,j7 (by omega) (by omega),zLP,zA,j7 (by omega) (by omega),zLP,zA,j7 (by omega) (by omega),zLP,Comp.zB]
   unfold mkP;simp only[zLs xJ];rfl
theorem Ik{p q r:Pln}(hp:okB p)(hq:okB q)(hr:okB r):(vH p q r).val=some (uK (mt p q r)):=by
 unfold vH;have hd:=Ex hp hq hr
 have hn:=Ek hp hq hr;have c1:=J4 hq.1 hr.1;have c2:=J4 hr.1 hp.1;have c3:=J4 hp.1 hq.1
 have s1:=Kx c1 hp.2;have s2:=Kx c2 hq.2;have s3:=Kx c3 hr.2
 have a2:=rE s1 s2;have a3:=rE a2 s3
 rw[zA,XT hq.1 hr.1,zLP,zA,Nc hp.1 c1,zLP];unfold mt;by_cases h0:det p q r=0
 ·rw[zLr (by rw[yi];exact h0),zLr h0,Comp.zB];rfl
 ·rw[zLs (by rw[yi];exact h0),zLs h0]
  rw[zA,XT hq.1 hr.1,zLP,zA,Ys (s1.le (by decide)),zLP,zA,XT hr.1 hp.1,zLP,zA,Ys (s2.le (by decide)),zLP,
   zA,BJ (a2.le (by decide)),zLP,zA,XT hp.1 hq.1,zLP,zA,Ys (s3.le (by decide)),zLP,zA,BJ (a3.le (by decide)),zLP,vk]
  change (if ltI (det p q r) 0=true then (yf (num p q r) (Int.negSucc 0)).bind _ else _:Comp (Pnt×Bool×Unit)).val=_
  have key:∀(w:Int) (v:V3),w≠0->(0<w/\w<=600000000000)->Bd 300000000000000 v->((zr (rP v.1 (Yc .i64 v.1)) (rP v.2.1 (Yc .i64 v.2.1))).bind fun x_9=>(Go.F.zr (rP v.2.2.1 (Yc .i64 v.2.2.1)) w).bind fun x_10=>(Go.F.zr x_9.1 x_10.1).bind fun eI=>(quo .i64 v.1 eI.1).bind fun x_12=>(quo .i64 v.2.1 eI.1).bind fun x_13=>(quo .i64 v.2.2.1 eI.1).bind fun x_14=>(quo .i64 w eI.1).bind fun x=>(Comp.pure ((x_12,x_13,x_14,x,()),true,()):Comp (Pnt×Bool×Unit))).val =
     some ((v.1.tdiv (kh v w:Nat),v.2.1.tdiv (kh v w:Nat),v.2.2.1.tdiv (kh v w:Nat),w.tdiv (kh v w:Nat),()),true,()):=by
   intro w v hw0 hw hv;obtain⟨n1,n2,n3⟩:=hv;have hg:=qQ (v:=v) hw0
   have ew:w=((w.natAbs:Nat):Int):=by omega
   rw[qq (by omega),qq (by omega),qq (by omega)]
   rw[zA,Jv,zLP,zA];have h2:(zr ((v.2.2.1.natAbs:Nat):Int) w).val=some (((Nat.gcd v.2.2.1.natAbs w.natAbs:Nat):Int),()):=by
    conv=>lhs;rw[ew]
    rw[Jv]
   rw[h2,zLP,zA,Jv,zLP]
   change ((quo .i64 v.1 ((kh v w:Nat):Int)).bind _).val=_
   rw[zA,j7 (by omega) (by omega),zLP]
   change ((quo .i64 v.2.1 ((kh v w:Nat):Int)).bind _).val=_
   rw[zA,j7 (by omega) (by omega),zLP]
   change ((quo .i64 v.2.2.1 ((kh v w:Nat):Int)).bind _).val=_
   rw[zA,j7 (by omega) (by omega),zLP]
   change ((quo .i64 w ((kh v w:Nat):Int)).bind _).val=_
   rw[zA,j7 (by omega) (by omega),zLP,Comp.zB]
  by_cases xJ:det p q r<0
  ·rw[zLr (by rw[zH];exact xJ)]
   have hb:Bd 300000000000000 (sc (num p q r) (Int.negSucc 0)):=zDi hn;rw[zA,Ys (hb.le (by decide)),zLP,show Yc .i64 (dt p.1 (cr q.1 r.1)) = -det p q r from JW (m:=det p q r) (by omega)]
   refine(key (-det p q r) (sc (num p q r) (Int.negSucc 0)) (by omega) (by omega) hb).trans ?_
   have hg:kh (sc (num p q r) (Int.negSucc 0)) (-det p q r)=kh (num p q r) (det p q r):=by
    unfold kh sc;simp only[Int.natAbs_mul,Int.natAbs_neg];rw[show (Int.negSucc 0).natAbs=1 from rfl]
    simp
   unfold uK mkP;simp only[zLr xJ,hg];unfold sc;simp only[show Int.negSucc 0 = -1 from rfl,Int.mul_neg,Int.mul_one]
  ·rw[zLs (by rw[zH];exact xJ)]
   refine(key (det p q r) (num p q r) h0 (by omega) hn).trans ?_
   unfold uK mkP;simp only[zLs xJ]
theorem Yg(ys:List τ)(c:Comp (List τ×β)):(tell ys c).val=c.val.map fun p=>(ys++p.1,p.2):=by
 unfold tell;rw[zA];cases c.val<;>simp
theorem tM{body:σ->Comp (List τ×Comp.Step σ ε)}{s s':σ}{ys zs:List τ}{e:ε}(h1:(body s).val=some (ys,.next s'))(h2:(YC body s').val=some (zs,e)):(YC body s).val=some (ys++zs,e):=by
 obtain⟨n,hn⟩:=vK.1 h1;obtain⟨m,hm⟩:=vK.1 h2;refine vK.2 ⟨max n m+1,?_⟩;have a1:=(body s).mono (show n<=max n m+1 by omega) hn
 have a2:kL body (max n m+1) (max n m) s'=some (zs,e):=wa (by omega) (by omega) hm
 show kL body (max n m+1) (max n m+1) s=_
 simp only[kL,a1,a2]
theorem Jq{body:σ->Comp (List τ×Comp.Step σ ε)}{s:σ}{ys:List τ}{e:ε}(h1:(body s).val=some (ys,.done e)):(YC body s).val=some (ys,e):=by
 obtain⟨n,hn⟩:=vK.1 h1;refine vK.2 ⟨n+1,?_⟩;have a1:=(body s).mono (show n<=n+1 by omega) hn
 show kL body (n+1) (n+1) s=_
 simp only[kL,a1]
theorem Jk{body:Int->Comp (List τ×Comp.Step Int ε)}(xs:List α)(g:Nat->List τ){e:ε}(hb:∀(i:Nat) x,xs[i]?=some x->(body (i:Int)).val=some (g i,.next ((i+1:Nat):Int)))(he:(body (xs.length:Int)).val=some ([],.done e)) :
  (YC body 0).val=some ((List.range xs.length).flatMap g,e):=by
 have key:∀(m k:Nat),k+m=xs.length->(YC body (k:Int)).val=some ((List.range' k m).flatMap g,e):=by
  intro m
  induction m with
  |zero =>
   intro k hk;rw[show k=xs.length by omega]
   exact Jq he
  |succ m ih =>
   intro k hk;obtain⟨x,hx⟩:=zS (xs:=xs) (k:=k) (by omega)
   rw[List.range'_succ,List.flatMap_cons];exact tM (hb k x hx) (ih (k+1) (by omega))
 rw[List.range_eq_range'];exact key xs.length 0 (by omega)
def prs:List α->List (α×α)
 | []=>[]
 |q::l=>l.map (fun s=>(q,s))++prs l
def tri:List α->List (α×α×α)
 | []=>[]
 |p::l=>(prs l).map (fun t=>(p,t))++tri l
theorem I9(l:List α)(f:α->List β)(i:Nat)(g:Nat->List β)(h:∀(k:Nat) x,l[k]?=some x->g (i+k)=f x):(List.range' i l.length).flatMap g=l.flatMap f:=by
 induction l generalizing i with
 |nil=>rfl
 |cons x l ih =>
  rw[zLZ,List.range'_succ,List.flatMap_cons,List.flatMap_cons];have h0:=h 0 x rfl
  rw[Nat.add_zero]at h0;rw[h0,ih (i+1) fun k y hk=>by rw[<-h (k+1) y (by simpa using hk)];congr 1;omega]
theorem Ah(l:List α)(f:α->β):l.flatMap (fun s=>[f s])=l.map f:=by
 induction l with
 |nil=>rfl
 |cons x l ih=>rw[List.flatMap_cons,ih];rfl
theorem Iq(l:List α)(g:Nat->List β)(f:α×α->β)(i:Nat)(h:∀(k:Nat) q,l[k]?=some q->g (i+k)=(l.drop (k+1)).map fun s=>f (q,s)):(List.range' i l.length).flatMap g=(prs l).map f:=by
 induction l generalizing i with
 |nil=>rfl
 |cons x l ih =>
  rw[zLZ,List.range'_succ,List.flatMap_cons];have h0:=h 0 x rfl
  rw[Nat.add_zero]at h0;rw[h0,prs,List.map_append,List.map_map]
  congr 1
  exact ih (i+1) fun k y hk=>by
   have:=h (k+1) y (by simpa using hk)
   rw[show i+1+k=i+(k+1) by omega,this];rfl
theorem IY(l:List α)(g:Nat->List β)(f:α×α×α->β)(i:Nat)(h:∀(k:Nat) p,l[k]?=some p->g (i+k)=(prs (l.drop (k+1))).map fun t=>f (p,t)):(List.range' i l.length).flatMap g=(tri l).map f:=by
 induction l generalizing i with
 |nil=>rfl
 |cons x l ih =>
  rw[zLZ,List.range'_succ,List.flatMap_cons];have h0:=h 0 x rfl
  rw[Nat.add_zero]at h0;rw[h0,tri,List.map_append,List.map_map]
  congr 1
  exact ih (i+1) fun k y hk=>by
   have:=h (k+1) y (by simpa using hk)
   rw[show i+1+k=i+(k+1) by omega,this];rfl
theorem nu{xs:List α}{k:Nat}(h:k<=xs.length):(sub xs (k:Int) (zF xs)).val=some (xs.drop k):=by
 rw[YK (by rw[zC];omega),zC];simp
theorem AK{r:List Pln}(hl:r.length<4611686018427387904):(vm r).val=some ((tri r).map fun t=>([t.1,t.2.1,t.2.2],())):=by
 unfold vm;have inner:∀(p q:Pln) (l:List Pln),l.length<4611686018427387904->(YC
                     (fun (x_5:Int)=>if ltI x_5 (zF l)=true then
                       (idx l x_5).bind fun x=>tell [([p,q,x],())] (Comp.pure ([],.next (zJ .i64 x_5 1)))
                      else Comp.pure ([],.done (Sum.inl ():Unit⊕Unit)))
                     0).val=some (l.map fun s=>([p,q,s],()),Sum.inl ()):=by
  intro p q l hl;have h1:=Jk l (fun i=>match l[i]? with|some s=>[([p,q,s],())]|none=>[]) (e:=(Sum.inl ():Unit⊕Unit)) (body:=(fun (x_5:Int)=>if ltI x_5 (zF l)=true then
                       (idx l x_5).bind fun x=>tell [([p,q,x],())] (Comp.pure ([],.next (zJ .i64 x_5 1)))
                      else Comp.pure ([],.done (Sum.inl ():Unit⊕Unit))))
   (fun i x hx=>by
    have gF:=zK hx;rw[zLr (by rw[zH,zC];omega),zA,zO hx,zLP,Yg,Comp.zB,zN (by omega),hx]
    rfl)
   (by rw[zLs (by rw[zH,zC];omega),Comp.zB])
  rw[h1,List.range_eq_range',I9 l (fun s=>[([p,q,s],())]) 0 _ (fun k x hk=>by rw[Nat.zero_add,hk])]
  rw[Ah]
 have mid:∀(p:Pln) (i:Nat),i<r.length->(YC
              (fun (x_3:Int)=>if ltI x_3 (zF (r.drop (i+1)))=true then
                (idx (r.drop (i+1)) x_3).bind fun x_4=>(sub r (zJ .i64 (zJ .i64 (i:Int) x_3) 2) (zF r)).bind fun x=>(YC
                     (fun (x_5:Int)=>if ltI x_5 (zF x)=true then
                       (idx x x_5).bind fun x=>tell [([p,x_4,x],())] (Comp.pure ([],.next (zJ .i64 x_5 1)))
                      else Comp.pure ([],.done (Sum.inl ():Unit⊕Unit)))
                     0).bind fun (p:List (List (Pln)×Unit)×(Unit⊕Unit))=>tell p.1
                    (match p.2 with
                    |Sum.inl x=>Comp.pure ([],.next (zJ .i64 x_3 1))
                    |Sum.inr x=>Comp.pure ([],.done (Sum.inr ():Unit⊕Unit)))
               else Comp.pure ([],.done (Sum.inl ():Unit⊕Unit)))
              0).val=some ((prs (r.drop (i+1))).map fun t=>([p,t.1,t.2],()),Sum.inl ()):=by
  intro p i hi;have hdl:(r.drop (i+1)).length=r.length-(i+1):=List.length_drop ..
  have h1:=Jk (r.drop (i+1)) (fun j=>match (r.drop (i+1))[j]? with|some q=>((r.drop (i+1)).drop (j+1)).map fun s=>([p,q,s],())|none=>[]) (e:=(Sum.inl ():Unit⊕Unit)) (body:=(fun (x_3:Int)=>if ltI x_3 (zF (r.drop (i+1)))=true then
                (idx (r.drop (i+1)) x_3).bind fun x_4=>(sub r (zJ .i64 (zJ .i64 (i:Int) x_3) 2) (zF r)).bind fun x=>(YC
                     (fun (x_5:Int)=>if ltI x_5 (zF x)=true then
                       (idx x x_5).bind fun x=>tell [([p,x_4,x],())] (Comp.pure ([],.next (zJ .i64 x_5 1)))
                      else Comp.pure ([],.done (Sum.inl ():Unit⊕Unit)))
                     0).bind fun (p:List (List (Pln)×Unit)×(Unit⊕Unit))=>tell p.1
                    (match p.2 with
                    |Sum.inl x=>Comp.pure ([],.next (zJ .i64 x_3 1))
                    |Sum.inr x=>Comp.pure ([],.done (Sum.inr ():Unit⊕Unit)))
               else Comp.pure ([],.done (Sum.inl ():Unit⊕Unit))))
   (fun j q hq=>by
    have gF:=zK hq;have e1:zJ .i64 (zJ .i64 (i:Int) (j:Int)) 2=((i+j+2:Nat):Int):=by rw[ye (m:=(i:Int)) (by omega),ye (by omega)];omega
    rw[zLr (by rw[zH,zC];omega),zA,zO hq,zLP,e1,zA,nu (by omega),zLP,zA,inner p q _ (by rw[List.length_drop];omega),zLP,Yg]
    simp only;rw[Comp.zB,zN (by omega),hq,List.drop_drop]
    simp only[Option.map_some,zLx];rw[show i+1+(j+1)=i+j+2 by omega])
   (by rw[zLs (by rw[zH,zC];omega),Comp.zB])
  rw[h1,List.range_eq_range',Iq (r.drop (i+1)) _ (fun t=>([p,t.1,t.2],())) 0 (fun k q hk=>by rw[Nat.zero_add,hk])]
 have h1:=Jk r (fun i=>match r[i]? with|some p=>(prs (r.drop (i+1))).map fun t=>([p,t.1,t.2],())|none=>[]) (e:=(Sum.inl ():Unit⊕Unit)) (body:=(fun (x:Int)=>if ltI x (zF r)=true then
         (idx r x).bind fun x_1=>(sub r (zJ .i64 x 1) (zF r)).bind fun x_2=>(YC
              (fun (x_3:Int)=>if ltI x_3 (zF x_2)=true then
                (idx x_2 x_3).bind fun x_4=>(sub r (zJ .i64 (zJ .i64 x x_3) 2) (zF r)).bind fun x=>(YC
                     (fun (x_5:Int)=>if ltI x_5 (zF x)=true then
                       (idx x x_5).bind fun x=>tell [([x_1,x_4,x],())] (Comp.pure ([],.next (zJ .i64 x_5 1)))
                      else Comp.pure ([],.done (Sum.inl ())))
                     0).bind fun (p:List (List (Pln)×Unit)×(Unit⊕Unit))=>tell p.1
                    (match p.2 with
                    |Sum.inl x=>Comp.pure ([],.next (zJ .i64 x_3 1))
                    |Sum.inr x=>Comp.pure ([],.done (Sum.inr ())))
               else Comp.pure ([],.done (Sum.inl ())))
              0).bind fun (p:List (List (Pln)×Unit)×(Unit⊕Unit))=>tell p.1
             (match p.2 with
             |Sum.inl x_3=>Comp.pure ([],.next (zJ .i64 x 1))
             |Sum.inr x=>Comp.pure ([],.done (Sum.inr ())))
        else Comp.pure ([],.done (Sum.inl ()))))
  (fun i p hp=>by
   have gF:=zK hp;rw[zLr (by rw[zH,zC];omega),zA,zO hp,zLP,zN (by omega),zA,nu (by omega),zLP,zA,mid p i gF,zLP,Yg]
   simp only;rw[Comp.zB,hp];simp only[Option.map_some,zLx])
  (by rw[zLs (by rw[zH,zC];omega),Comp.zB])
 rw[List.range_eq_range',IY r _ (fun t=>([t.1,t.2.1,t.2.2],())) 0 (fun k p hk=>by rw[Nat.zero_add,hk])]at h1
 rw[zA,zA];refine(zLi (fun o=>Option.bind (Option.bind o _) _) h1).trans ?_
 rw[zLP,Yg];simp only;rw[Comp.zB];simp only[Option.map_some,zLP,zLx];exact Comp.zB _
def rm(p:Pln)(x:Pnt):Int:=W (p.2.1 * x.2.2.2.1-dt p.1 (x.1,x.2.1,x.2.2.1,()))
def ins(r:List Pln)(x:Pnt):Bool:=r.all fun p=>decide (0<=rm p x)
def kW(r:List Pln)(l:List Pnt)(t:Pln×Pln×Pln):List Pnt:=match mt t.1 t.2.1 t.2.2 with
 |none=>l
 |some x=>if x∈l then l else bif ins r x then l++[x] else l
def crn(r:List Pln):List Pnt:=(tri r).foldl (kW r) []
def full(r:List Pln):Bool:=r.all fun p=>(crn r).any fun x=>decide (0<rm p x)
theorem qI(p:Pln)(x:Pnt):(ZZ p x).val=some (rm p x,()):=by
 unfold ZZ ZX;rw[zA,Comp.zB,zLP,Comp.zB]
 congr 2
 unfold rm dt;simp only[Qt,RY,zEb,HZ,HY,Wm,Wl]
theorem YA{r:List Pln}{x:Pnt}(hl:r.length<9223372036854775807):(Zj r x).val=some (ins r x,()):=by
 unfold Zj;have h1:(zY r fun z=>gl z.1 x).val=some (r.any fun p=>decide (rm p x<0),()) :=
  Zs (xs:=r) (f:=fun z=>gl z.1 x) (p:=fun p=>decide (rm p x<0)) hl fun p _=>by
   show (gl p x).val=_
   unfold gl;rw[zA,qI,zLP,Comp.zB];rfl
 rw[zA,h1,zLP,Comp.zB];unfold ins
 congr 2
 simp only[yP];rw[List.all_eq_not_any_not]
 congr 2
 funext p
 by_cases h:rm p x<0
 ·have:¬(0<=rm p x):=by omega
  simp[h,this]
 ·have:0<=rm p x:=by omega
  simp[h,this]
def rR(x y:Pnt):Bool:=adB (eqI x.1 y.1) (adB (eqI x.2.1 y.2.1) (adB (eqI x.2.2.1 y.2.2.1) (eqI x.2.2.2.1 y.2.2.2.1)))
theorem mh(x y:Pnt):rR x y=decide (x=y):=by
 obtain⟨a,b,c,d,_⟩:=x;obtain⟨a',b',c',d',_⟩:=y;unfold rR eqI adB;simp only;rw[Bool.eq_iff_iff];simp[Prod.ext_iff]
def kn(l:List Pnt):List (Pnt×Bool):=l.map fun x=>(x,true)
theorem zDy(l:List Pnt)(x:Pnt):mgB rR (kn l) x=if x∈l then some true else none:=by
 induction l with
 |nil=>rfl
 |cons y l ih =>
  show (bif rR x y then some true else mgB rR (kn l) x)=_
  rw[mh,ih];by_cases h:x=y
  ·simp[h]
  ·simp[h]
theorem zDx{l:List Pnt}{x:Pnt}(h:x ∉ l):mpB rR (kn l) x true=kn (l++[x]):=by
 induction l with
 |nil=>rfl
 |cons y l ih =>
  simp only[zLV,not_or]at h;show (bif rR x y then (x,true)::kn l else (y,true)::mpB rR (kn l) x true)=_
  rw[mh,zLt h.1,cond_false,ih h.2];rfl
theorem uT:∀ {r:List α} {t:α×α×α},t∈tri r->t.1∈r/\t.2.1∈r/\t.2.2∈r
 | [],_,h=>by cases h
 |p::l,t,h=>by
  have prs_mem:∀ {l:List α} {t:α×α},t∈prs l->t.1∈l/\t.2∈l:=by
   intro l
   induction l with
   |nil=>intro t h;cases h
   |cons q l ih =>
    intro t h;simp only[prs,zLa,List.mem_map]at h;rcases h with ⟨s,h1,rfl⟩|h
    ·exact⟨by simp,zLb _ h1⟩
    ·have:=ih h;exact⟨zLb _ this.1,zLb _ this.2⟩
  simp only[tri,zLa,List.mem_map]at h;rcases h with ⟨s,h1,rfl⟩|h
  ·have:=prs_mem h1
   exact⟨by simp,zLb _ this.1,zLb _ this.2⟩
  ·have:=uT h
   exact⟨zLb _ this.1,zLb _ this.2.1,zLb _ this.2.2⟩
theorem VG(l:List α):(prs l).length<=l.length * l.length:=by
 induction l with
 |nil=>simp[prs]
 |cons x l ih =>
  simp only[prs,zLS,List.length_map,zLZ];have:(l.length+1) * (l.length+1)=l.length * l.length+2 * l.length+1:=by
   rw[Nat.add_mul,Nat.mul_add];omega
  omega
theorem Kh(l:List α):(tri l).length<=l.length * (l.length * l.length):=by
 induction l with
 |nil=>simp[tri]
 |cons x l ih =>
  simp only[tri,zLS,List.length_map,zLZ];have h1:=VG l
  have h2:l.length * (l.length * l.length)+l.length * l.length<=(l.length+1) * ((l.length+1) * (l.length+1)):=by
   rw[Nat.add_mul,Nat.one_mul];refine Nat.add_le_add (Nat.mul_le_mul_left _ (Nat.mul_le_mul (by omega) (by omega))) (Nat.mul_le_mul (by omega) (by omega))
  omega
theorem KY{r:List Pln}{l:List Pnt}{t:Pln×Pln×Pln}:(kW r l t).length<=l.length+1:=by
 unfold kW;split
 ·omega
 ·split
  ·omega
  ·cases ins r _<;>simp
theorem mq(r:List Pln):(crn r).length<=(tri r).length:=by
 unfold crn;have key:∀(ts:List (Pln×Pln×Pln)) (l:List Pnt),(ts.foldl (kW r) l).length<=l.length+ts.length:=by
  intro ts
  induction ts with
  |nil=>intro l;simp
  |cons t ts ih =>
   intro l;have:=ih (kW r l t)
   have:=KY (r:=r) (l:=l) (t:=t);simp only[List.foldl_cons,zLZ];omega
 have:=key (tri r) [];simpa using this
theorem JL{b k i:Bool}{c:Comp (Bool×Unit)}(hc:b=true->k=false->c.val=some (i,())){A B:Comp β} :
  ((Comp.gd (sel b (ntB k) false) c (false,())).bind fun x2=>if sel (sel b (ntB k) false) x2.1 false=true then A else B).val=(bif b && (!k && i) then A else B).val:=by
 rw[zA]
 cases b with
 |false =>
  show (Option.bind (Comp.pure (false,())).val _)=_
  rw[Comp.zB,zLP];rfl
 |true =>
  cases k with
  |true =>
   show (Option.bind (Comp.pure (false,())).val _)=_
   rw[Comp.zB,zLP];rfl
  |false =>
   have:=hc rfl rfl;show (Option.bind c.val _)=_
   rw[this,zLP];cases i<;>rfl
theorem wj{r:List Pln}(hl:r.length<=1000)(hb:∀p∈r,okB p):(vh r).val=some (crn r,()):=by
 have hL:=YP;have h3:(tri r).length<=1000000000:=by
  refine zLY (Kh r) ?_;exact Nat.mul_le_mul hl (Nat.mul_le_mul hl hl)
 unfold vh j3;rw[zA,Comp.zB,zLP,zA,AK (by omega),zLP]
 -- the walk over a list of triples,from a list of vertices
 have key:∀(ts:List (Pln×Pln×Pln)) (l:List Pnt),(∀t∈ts,okB t.1/\okB t.2.1/\okB t.2.2)->l.length+ts.length<=1000000000->(K1
       (fun (x:List (Pnt)×List ((Pnt)×Bool))
         (d:List (Pln)×Unit) =>
        (Go.F.XK d.1).bind fun x_1=>(Comp.gd
            (sel x_1.2.1
             (ntB
              (match
               mgB
                (fun (x x_2:Pnt)=>adB (eqI x.1 x_2.1) (adB (eqI x.2.1 x_2.2.1) (adB (eqI x.2.2.1 x_2.2.2.1) (eqI x.2.2.2.1 x_2.2.2.2.1))))
                x.2 x_1.1 with
              |some x=>x
              |none=>false))
             false)
            (Go.F.Zj r x_1.1) (false,())).bind fun x_2=>jn (fun (x:List (Pnt)×List ((Pnt)×Bool))=>Comp.pure (.next (x.1,x.2)))
           fun (j :
             List (Pnt)×List ((Pnt)×Bool)->Comp (Comp.Step (List (Pnt)×List ((Pnt)×Bool)) Empty)) =>
           if
             sel
               (sel x_1.2.1
                (ntB
                 (match
                  mgB
                   (fun (x x_3:Pnt)=>adB (eqI x.1 x_3.1) (adB (eqI x.2.1 x_3.2.1) (adB (eqI x.2.2.1 x_3.2.2.1) (eqI x.2.2.2.1 x_3.2.2.2.1))))
                   x.2 x_1.1 with
                 |some x=>x
                 |none=>false))
                false)
               x_2.1 false =
              true then
            (app x.1 [x_1.1]).bind fun zs=>j
              (zs,
               mpB
                (fun (x x_3:Pnt)=>adB (eqI x.1 x_3.1) (adB (eqI x.2.1 x_3.2.1) (adB (eqI x.2.2.1 x_3.2.2.1) (eqI x.2.2.2.1 x_3.2.2.2.1))))
                x.2 x_1.1 true)
           else j (x.1,x.2))
       (ts.map fun t=>([t.1,t.2.1,t.2.2],())) (l,kn l)).val=some (.next (ts.foldl (kW r) l,kn (ts.foldl (kW r) l))):=by
  intro ts
  induction ts with
  |nil=>intro l _ _;exact Comp.zB _
  |cons t ts ih =>
   intro l bJ kA;obtain⟨h1,h2,h3⟩:=bJ t (by simp)
   simp only[zLZ]at kA;rw[List.map_cons];unfold K1;have hmg:∀x,(match mgB (fun (x x_2:Pnt)=>adB (eqI x.1 x_2.1) (adB (eqI x.2.1 x_2.2.1) (adB (eqI x.2.2.1 x_2.2.2.1) (eqI x.2.2.2.1 x_2.2.2.2.1)))) (kn l) x with|some x=>x|none=>false)=decide (x∈l):=by
    intro x;show (match mgB rR (kn l) x with|some x=>x|none=>false)=_
    rw[zDy];by_cases h:x∈l<;>simp[h]
   have hlen':=KY (r:=r) (l:=l) (t:=t);have sM:=ih (kW r l t) (fun t' ht'=>bJ t' (zLb _ ht')) (by omega)
   rw[zA,zA,rK h1 h2 h3,zLP,List.foldl_cons]
   let B0:Comp (Comp.Step (List Pnt×List (Pnt×Bool)) Empty):=Comp.pure (.next (l,kn l))
   let A0:Pnt->Comp (Comp.Step (List Pnt×List (Pnt×Bool)) Empty):=fun x=>(app l [x]).bind fun zs=>Comp.pure (.next (zs,mpB rR (kn l) x true))
   cases hm:mt t.1 t.2.1 t.2.2 with
   |none =>
    have bB:kW r l t=l:=by unfold kW;rw[hm]
    rw[bB]at sM |-;refine(zLi (fun o=>Option.bind o _) ((JL (b:=false) (i:=false) (fun h=>nomatch h) (A:=A0 (0,0,0,0,())) (B:=B0)).trans (Comp.zB _))).trans ?_
    exact sM
   |some x =>
    have bB:kW r l t=if x∈l then l else bif ins r x then l++[x] else l:=by unfold kW;rw[hm]
    by_cases hx:x∈l
    ·rw[zLr hx]at bB
     rw[bB]at sM |-;have hk:=hmg x
     rw[zLu hx]at hk;have hv:∀k,k=true->(bif true && (!k && ins r x) then A0 x else B0).val=some (.next (l,kn l)):=fun k hk=>by subst hk;exact Comp.zB _
     refine(zLi (fun o=>Option.bind o _) ((JL (b:=true) (i:=ins r x) (fun _ _=>YA (by omega)) (A:=A0 x) (B:=B0)).trans (hv _ hk))).trans ?_
     exact sM
    ·rw[zLs hx]at bB
     have hk:=hmg x;rw[zLt hx]at hk
     cases fX:ins r x with
     |false =>
      rw[fX,cond_false]at bB;rw[bB]at sM |-;have hv:∀k,k=false->(bif true && (!k && ins r x) then A0 x else B0).val=some (.next (l,kn l)):=fun k hk=>by subst hk;rw[fX];exact Comp.zB _
      refine(zLi (fun o=>Option.bind o _) ((JL (b:=true) (i:=ins r x) (fun _ _=>YA (by omega)) (A:=A0 x) (B:=B0)).trans (hv _ hk))).trans ?_
      exact sM
     |true =>
      rw[fX,cond_true]at bB;rw[bB]at sM |-;have hv:∀k,k=false->(bif true && (!k && ins r x) then A0 x else B0).val=some (.next (l++[x],kn (l++[x]))):=fun k hk=>by
       subst hk;rw[fX];show ((app l [x]).bind fun zs=>(Comp.pure (.next (zs,mpB rR (kn l) x true)):Comp (Comp.Step (List Pnt×List (Pnt×Bool)) Empty))).val=_
       rw[zA,yO (by simp only[zLU];unfold LIM;omega),zLP,Comp.zB,zDx hx]
      refine(zLi (fun o=>Option.bind o _) ((JL (b:=true) (i:=ins r x) (fun _ _=>YA (by omega)) (A:=A0 x) (B:=B0)).trans (hv _ hk))).trans ?_
      exact sM
 have h1:=key (tri r) [] (fun t ht=>by
  obtain⟨a,b,c⟩:=uT ht;exact⟨hb _ a,hb _ b,hb _ c⟩) (by simpa using h3)
 rw[zA];refine(zLi (fun o=>Option.bind o _) h1).trans ?_
 rw[zLP];exact Comp.zB _
theorem Bt{r:List Pln}(hl:r.length<=1000)(hb:∀p∈r,okB p):(gh r).val=some (full r,()):=by
 have hL:=YP;have h3:(crn r).length<=1000000000:=by
  refine zLY (mq r) (zLY (Kh r) ?_);exact Nat.mul_le_mul hl (Nat.mul_le_mul hl hl)
 unfold gh;rw[zA,wj hl hb,zLP];have h1:(yF r fun z=>y6 z.1 (crn r)).val=some (r.any fun p=>!(crn r).any fun x=>decide (0<rm p x),()) :=
  Zs (xs:=r) (f:=fun z=>y6 z.1 (crn r)) (p:=fun p=>!(crn r).any fun x=>decide (0<rm p x)) (by omega) fun p _=>by
   show (y6 p (crn r)).val=_
   unfold y6;have h2:(yL (crn r) fun z=>yS z.1 p).val=some ((crn r).any fun x=>decide (0<rm p x),()) :=
    Zs (xs:=crn r) (f:=fun z=>yS z.1 p) (p:=fun x=>decide (0<rm p x)) (by omega) fun x _=>by
     show (yS x p).val=_
     unfold yS;rw[zA,qI,zLP,Comp.zB];rfl
   rw[zA,h2,zLP,Comp.zB];rfl
 rw[zA,h1,zLP,Comp.zB,yP];unfold full;rw[List.all_eq_not_any_not]
def bx0:List Pln:=[((1,0,0,()),24,()),((-1,0,0,()),24,()),((0,1,0,()),24,()),((0, -1,0,()),24,()),((0,0,1,()),24,()),((0,0, -1,()),24,())]
theorem J5:∀p∈bx0,okB p:=by
 intro p hp;unfold bx0 at hp;simp only[zLV,List.not_mem_nil,or_false]at hp;unfold okB Bd;rcases hp with rfl|rfl|rfl|rfl|rfl|rfl<;>simp
theorem yZ{l:List (List Pln)}(hl:l.length<9223372036854775807)(h:l.flatten.length<=1000):(cell_of l).val=some (l.flatten++bx0,()):=by
 unfold cell_of;have h1:(zL l).val=some (l.flatten,()):=my (z:=((0,0,0,()),0,())) (by unfold LIM;omega) hl
 rw[zA,h1,zLP];generalize l.flatten=c at h;have h2:=Comp.YX (fun (s:List Pln) i=>(s,((i:Nat):Int))) [(1,0,0,()),(-1,0,0,()),(0,1,0,()),(0, -1,0,()),(0,0,1,()),(0,0, -1,())] (fun (s:List Pln) (x:V3)=>.next (s++[(x,24,())])) (fun s=>s) (fun s i=>s.length=c.length+i)
  (body:=(fun (x:List (Pln)×Int)=>if
         ltI x.2
           (zF
            [(1,0,0,()),(-1,0,0,()),(0,1,0,()),(0, -1,0,()),(0,0,1,()),
             (0,0, -1,())]) =
          true then
        (idx [(1,0,0,()),(-1,0,0,()),(0,1,0,()),(0, -1,0,()),(0,0,1,()),(0,0, -1,())]
           x.2).bind fun x_1=>(app x.1 [(x_1,24,())]).bind fun zs=>Comp.pure (.next (zs,zJ .i64 x.2 1))
       else Comp.pure (.done x.1)))
  (fun s i x hx hs=>by
   have gF:=zK hx;simp only[zLZ,List.length_nil]at gF;rw[zLr (by rw[zH,zC];simp only[zLZ,List.length_nil];omega),zA,zO hx,zLP,zA,yO (by simp only[zLU];unfold LIM;omega),zLP,Comp.zB,zN (by omega)]
   rfl)
  (fun s i x s' hx hs he=>by cases he;simp[hs];omega)
  (fun s hs=>by rw[zLs (by rw[zH,zC];simp),Comp.zB]) c (by simp)
 rw[Comp.XU]at h2;rw[zA];refine(zLi (fun o=>Option.bind o _) h2).trans ?_
 rw[zLP,Comp.zB];simp[bx0]
theorem ZE{c:List Pln}(h:chk c=0):c.length<=48/\∀p∈c,okB p:=by
 rw[AB]at h;exact⟨h.1,fun p hp=>zGG (zLw.1 h.2 p hp)⟩
def ful(c:List Pln):Bool:=decide (chk c=0) && full (c++bx0)
def apa(a b:List Pln):Bool:=!(decide (chk a=0) && decide (chk b=0)) || !full (a++b++bx0)
theorem Zb(c:List Pln):(jz c).val=some (ful c,()):=by
 unfold jz;rw[vk,zA,YV _ (by simp),zLP]
 simp only[List.all_cons,List.all_nil,Bool.and_true];unfold ful;by_cases h:chk c=0
 ·obtain⟨h1,h2⟩:=ZE h
  rw[zLr (by simpa using h),zA,yZ (by simp) (by simp;omega),zLP,zA]
  simp only[List.flatten_cons,List.flatten_nil,zLx];rw[Bt (by simp[bx0];omega) (fun p hp=>(zLa.1 hp).elim (h2 p) (J5 p)),zLP,Comp.zB,zLu h,Bool.true_and]
 ·rw[zLs (by simpa using h),Comp.zB,zLt h,Bool.false_and]
theorem jm(a b:List Pln):(kU a b).val=some (apa a b,()):=by
 unfold kU;rw[vk,zA,YV _ (by simp),zLP]
 simp only[List.all_cons,List.all_nil,Bool.and_true,yP,Bool.not_not];unfold apa;by_cases h:(decide (chk a=0) && decide (chk b=0))=true
 ·rw[zLr h,h]
  simp only[zLR,zLj]at h;obtain⟨h1,h2⟩:=ZE h.1;obtain⟨h3,h4⟩:=ZE h.2;rw[zA,yZ (by simp) (by simp;omega),zLP,zA]
  simp only[List.flatten_cons,List.flatten_nil,zLx];rw[Bt (by simp[bx0];omega) (fun p hp=>(zLa.1 hp).elim (fun hp=>(zLa.1 hp).elim (h2 p) (h4 p)) (J5 p)),zLP,Comp.zB]
  rfl
 ·have h':(decide (chk a=0) && decide (chk b=0))=false:=by simpa using h
  rw[zLs h,h',Comp.zB];rfl
theorem K8(p:Pln)(x:Pnt):(zf p x).val=some (rm p x,()):=by
 unfold zf;rw[Comp.zB]
 congr 2
 unfold rm dt;simp only[Qt,RY,HZ,HY]
 congr 1
 omega
theorem VA{r:List Pln}{x:Pnt}(hl:r.length<9223372036854775807):(vz r x).val=some (ins r x,()):=by
 unfold vz;have h1:=Zt r (fun p=>decide (0<=rm p x)) (c:=(Sum.inr false:Unit⊕Bool)) (d:=Sum.inl ())
  (body:=(fun (x_1:Int)=>if ltI x_1 (zF r)=true then
       (idx r x_1).bind fun x_2=>(Go.F.zf x_2 x).bind fun x_3=>if ltI x_3.1 0=true then Comp.pure (.done (Sum.inr false)) else Comp.pure (.next (zJ .i64 x_1 1))
      else Comp.pure (.done (Sum.inl ()))))
  (fun i p hp=>by
   have gF:=zK hp;rw[zLr (by rw[zH,zC];omega),zA,zO hp,zLP,zA,K8,zLP,zN (by omega)]
   by_cases h:rm p x<0
   ·rw[zLr (by rw[zH];exact h),Comp.zB,zLs (by simp;omega)]
   ·rw[zLs (by rw[zH];exact h),Comp.zB,zLr (by simp;omega)])
  (by rw[zLs (by rw[zH,zC];omega),Comp.zB])
 rw[zA];refine(zLi (fun o=>Option.bind o _) h1).trans ?_
 rw[zLP];unfold ins;cases r.all fun p=>decide (0<=rm p x)<;>exact Comp.zB _
theorem DM{l:List Pnt}{x:Pnt}(hl:l.length<9223372036854775807):(yw l x).val=some (decide (x∈l),()):=by
 unfold yw;have h1:=Zt l (fun y=>!decide (y=x)) (c:=(Sum.inr true:Unit⊕Bool)) (d:=Sum.inl ())
  (body:=(fun (i:Int)=>if ltI i (zF l)=true then
       (idx l i).bind fun x_1=>if adB (eqI x_1.1 x.1) (adB (eqI x_1.2.1 x.2.1) (adB (eqI x_1.2.2.1 x.2.2.1) (eqI x_1.2.2.2.1 x.2.2.2.1)))=true then
         Comp.pure (.done (Sum.inr true))
        else Comp.pure (.next (zJ .i64 i 1))
      else Comp.pure (.done (Sum.inl ()))))
  (fun i p hp=>by
   have gF:=zK hp;have he:adB (eqI p.1 x.1) (adB (eqI p.2.1 x.2.1) (adB (eqI p.2.2.1 x.2.2.1) (eqI p.2.2.2.1 x.2.2.2.1)))=decide (p=x):=mh p x
   rw[zLr (by rw[zH,zC];omega),zA,zO hp,zLP,zN (by omega)]
   by_cases h:p=x
   ·rw[zLr (by rw[he];exact zLu h),Comp.zB,zLs (by simp[h])]
   ·rw[zLs (by rw[he,zLt h];simp),Comp.zB,zLr (by simp[h])])
  (by rw[zLs (by rw[zH,zC];omega),Comp.zB])
 rw[zA];refine(zLi (fun o=>Option.bind o _) h1).trans ?_
 rw[zLP];by_cases h:x∈l
 ·have:(l.all fun y=>!decide (y=x))=false:=by
   rw[List.all_eq_false];exact⟨x,h,by simp⟩
  rw[this,zLu h];exact Comp.zB _
 ·have:(l.all fun y=>!decide (y=x))=true:=by
   rw[zLw];intro y hy;simp;intro e;subst e;exact h hy
  rw[this,zLt h];exact Comp.zB _
theorem ky{body:σ×Int->Comp (Comp.Step (σ×Int) σ)}(n:Nat)(G F:Nat->σ->σ)(I:σ->Nat->Prop)
  (hb:∀s (i:Nat),i<n->I s i->(body (s,(i:Int))).val=some (.next (G i s,((i+1:Nat):Int)))/\I (G i s) (i+1)/\F i s=F (i+1) (G i s)) (he:∀s,(body (s,(n:Int))).val=some (.done s)) (hF:∀s,F n s=s) :
  ∀(k:Nat) (s:σ),k<=n->I s k->(Comp.loop body (s,(k:Int))).val=some (F k s):=by
 have key:∀(m k:Nat) (s:σ),k+m=n->I s k->(Comp.loop body (s,(k:Int))).val=some (F k s):=by
  intro m
  induction m with
  |zero =>
   intro k s hk hI;rw[show k=n by omega,zM,he,hF];rfl
  |succ m ih =>
   intro k s hk hI;obtain⟨h1,h2,h3⟩:=hb s k (by omega) hI
   rw[zM,h1,h3];exact ih (k+1) (G k s) (by omega) h2
 exact fun k s hk hI=>key (n-k) k s (by omega) hI
theorem drop_cons{xs:List α}{k:Nat}{x:α}(h:xs[k]?=some x):xs.drop k=x::xs.drop (k+1):=by
 have:=zLX.1 h;rw[List.drop_eq_getElem_cons this.1];congr 1;exact this.2
theorem pQ{r:List Pln}(ts:List (Pln×Pln×Pln)):∀(l:List Pnt),(ts.foldl (kW r) l).length<=l.length+ts.length:=by
 induction ts with
 |nil=>intro l;simp
 |cons t ts ih =>
  intro l;have h1:=ih (kW r l t)
  have h2:=KY (r:=r) (l:=l) (t:=t);simp only[List.foldl_cons,zLZ];omega
theorem wR{b i h:Bool}{c:Comp (Bool×Unit)}{d:Comp (Bool×Unit)}(hc:b=true->c.val=some (i,()))(hd:b=true->i=true->d.val=some (h,())){A B:Comp β} :
  ((Comp.gd b c (false,())).bind fun x5=>(Comp.gd (sel b x5.1 false) d (false,())).bind fun x6=>if sel (sel b x5.1 false) (ntB x6.1) false=true then A else B).val=(bif b && (i && !h) then A else B).val:=by
 rw[zA]
 cases b with
 |false =>
  show (Option.bind (Comp.pure (false,())).val _)=_
  rw[Comp.zB,zLP,zA];show (Option.bind (Comp.pure (false,())).val _)=_
  rw[Comp.zB,zLP];rfl
 |true =>
  have h1:=hc rfl;show (Option.bind c.val _)=_
  rw[h1,zLP,zA]
  cases i with
  |false =>
   show (Option.bind (Comp.pure (false,())).val _)=_
   rw[Comp.zB,zLP];rfl
  |true =>
   have h2:=hd rfl rfl;show (Option.bind d.val _)=_
   rw[h2,zLP];cases h<;>rfl
theorem KC{r:List Pln}(hl:r.length<=1000)(hb:∀p∈r,okB p):(vg r).val=some (crn r,()):=by
 have hL:=YP;have h3:(tri r).length<=1000000000:=by
  refine zLY (Kh r) ?_;exact Nat.mul_le_mul hl (Nat.mul_le_mul hl hl)
 unfold vg
 -- the innermost walk
 have inner:∀(i j:Nat) (p q:Pln),r[i]?=some p->r[j]?=some q->∀(k:Nat) (l:List Pnt),k<=r.length->l.length+(r.length-k)<=1000000000->(Comp.loop
               (fun (x_2:List (Pnt)×Int)=>if ltI x_2.2 (zF r)=true then
                 (idx r (i:Int)).bind fun x=>(idx r (j:Int)).bind fun x_3=>(idx r x_2.2).bind fun x_4=>(Go.F.vH x x_3 x_4).bind fun x=>(Comp.gd x.2.1 (Go.F.vz r x.1) (false,())).bind fun x_5=>(Comp.gd (sel x.2.1 x_5.1 false) (Go.F.yw x_2.1 x.1) (false,())).bind fun x_6=>jn (fun (x:List (Pnt))=>Comp.pure (.next (x,zJ .i64 x_2.2 1)))
                        fun (j :
                          List (Pnt)->Comp (Comp.Step (List (Pnt)×Int) (List (Pnt)))) =>
                        if sel (sel x.2.1 x_5.1 false) (ntB x_6.1) false=true then
                         (app x_2.1 [x.1]).bind fun zs=>j zs
                        else j x_2.1
                else Comp.pure (.done x_2.1)) (l,(k:Int))).val=some ((r.drop k).foldl (fun l s=>kW r l (p,q,s)) l):=by
  intro i j p q hp hq;refine ky r.length (fun k l=>match r[k]? with|some s=>kW r l (p,q,s)|none=>l) (fun k l=>(r.drop k).foldl (fun l s=>kW r l (p,q,s)) l) (fun l k=>l.length+(r.length-k)<=1000000000)
   (fun l k hk hI=>?_) (fun l=>by rw[zLs (by rw[zH,zC];simp),Comp.zB]) (fun l=>by rw[List.drop_length];rfl)
  obtain⟨s,hs⟩:=zS (xs:=r) (k:=k) hk;have kA:=KY (r:=r) (l:=l) (t:=(p,q,s))
  refine⟨?_,by rw[hs];show (kW r l (p,q,s)).length+_<=_;omega,by rw[drop_cons hs,hs];rfl⟩
  rw[hs];simp only;rw[zLr (by rw[zH,zC];show (k:Int)<_;omega),zA,zO hp,zLP,zA,zO hq,zLP,zA,zO hs,zLP,zA,
   Ik (hb p (zLW hp)) (hb q (zLW hq)) (hb s (zLW hs)),zLP]
  let A0:Pnt->Comp (Comp.Step (List Pnt×Int) (List Pnt)):=fun x=>(app l [x]).bind fun zs=>Comp.pure (.next (zs,zJ .i64 (k:Int) 1))
  let B0:Comp (Comp.Step (List Pnt×Int) (List Pnt)):=Comp.pure (.next (l,zJ .i64 (k:Int) 1))
  cases hm:mt p q s with
  |none =>
   have bB:kW r l (p,q,s)=l:=by unfold kW;rw[hm]
   rw[bB];refine(wR (b:=false) (i:=false) (h:=false) (fun h=>nomatch h) (fun h=>nomatch h) (A:=A0 (0,0,0,0,())) (B:=B0)).trans ?_
   show B0.val=_
   rw[<-zN (show k<9223372036854775807 by omega)]
   exact Comp.zB _
  |some x =>
   have bB:kW r l (p,q,s)=if x∈l then l else bif ins r x then l++[x] else l:=by unfold kW;rw[hm]
   refine(wR (b:=true) (i:=ins r x) (h:=decide (x∈l)) (fun _=>VA (by omega)) (fun _ _=>DM (by omega)) (A:=A0 x) (B:=B0)).trans ?_
   rw[bB,<-zN (show k<9223372036854775807 by omega)]
   by_cases hx:x∈l
   ·rw[zLu hx,zLr hx]
    cases ins r x<;>exact Comp.zB _
   ·rw[zLt hx,zLs hx]
    cases ins r x with
    |false=>exact Comp.zB _
    |true =>
     show (A0 x).val=_
     show ((app l [x]).bind fun zs=>(Comp.pure (.next (zs,zJ .i64 (k:Int) 1)):Comp (Comp.Step (List Pnt×Int) (List Pnt)))).val=_
     rw[zA,yO (by simp only[zLU];unfold LIM;omega),zLP,Comp.zB]
     rfl
 have mid:∀(i:Nat) (p:Pln),r[i]?=some p->∀(k:Nat) (l:List Pnt),k<=r.length->l.length+(prs (r.drop k)).length<=1000000000->(Comp.loop
          (fun (x_1:List (Pnt)×Int)=>if ltI x_1.2 (zF r)=true then
            (Comp.loop
               (fun (x_2:List (Pnt)×Int)=>if ltI x_2.2 (zF r)=true then
                 (idx r (i:Int)).bind fun x=>(idx r x_1.2).bind fun x_3=>(idx r x_2.2).bind fun x_4=>(Go.F.vH x x_3 x_4).bind fun x=>(Comp.gd x.2.1 (Go.F.vz r x.1) (false,())).bind fun x_5=>(Comp.gd (sel x.2.1 x_5.1 false) (Go.F.yw x_2.1 x.1) (false,())).bind fun x_6=>jn (fun (x:List (Pnt))=>Comp.pure (.next (x,zJ .i64 x_2.2 1)))
                        fun (j :
                          List (Pnt)->Comp (Comp.Step (List (Pnt)×Int) (List (Pnt)))) =>
                        if sel (sel x.2.1 x_5.1 false) (ntB x_6.1) false=true then
                         (app x_2.1 [x.1]).bind fun zs=>j zs
                        else j x_2.1
                else Comp.pure (.done x_2.1))
               (x_1.1,zJ .i64 x_1.2 1)).bind fun x=>Comp.pure (.next (x,zJ .i64 x_1.2 1))
           else Comp.pure (.done x_1.1)) (l,(k:Int))).val=some ((prs (r.drop k)).foldl (fun l t=>kW r l (p,t)) l):=by
  intro i p hp;refine ky r.length (fun k l=>match r[k]? with|some q=>(r.drop (k+1)).foldl (fun l s=>kW r l (p,q,s)) l|none=>l) (fun k l=>(prs (r.drop k)).foldl (fun l t=>kW r l (p,t)) l) (fun l k=>l.length+(prs (r.drop k)).length<=1000000000)
   (fun l k hk hI=>?_) (fun l=>by rw[zLs (by rw[zH,zC];simp),Comp.zB]) (fun l=>by rw[List.drop_length];rfl)
  obtain⟨q,hq⟩:=zS (xs:=r) (k:=k) hk;have dN:(prs (r.drop k)).length=(r.length-(k+1))+(prs (r.drop (k+1))).length:=by rw[drop_cons hq,prs,zLS,List.length_map,List.length_drop]
  have aH:((r.drop (k+1)).foldl (fun l s=>kW r l (p,q,s)) l).length<=l.length+(r.length-(k+1)):=by
   have:=pQ (r:=r) ((r.drop (k+1)).map fun s=>(p,q,s)) l
   rw[List.foldl_map,List.length_map,List.length_drop]at this;exact this
  refine⟨?_,by rw[hq];show ((r.drop (k+1)).foldl (fun l s=>kW r l (p,q,s)) l).length+_<=_;omega,by rw[drop_cons hq,hq,prs,List.foldl_append,List.foldl_map]⟩
  rw[hq];simp only;rw[zLr (by rw[zH,zC];show (k:Int)<_;omega),zA]
  have h4:=inner i k p q hp hq (k+1) l (by omega) (by omega)
  rw[<-zN (show k<9223372036854775807 by omega)]at h4
  refine(zLi (fun o=>Option.bind o _) h4).trans ?_
  rw[zLP,Comp.zB,zN (show k<9223372036854775807 by omega)]
 have outer:∀(k:Nat) (l:List Pnt),k<=r.length->l.length+(tri (r.drop k)).length<=1000000000->(Comp.loop
     (fun (x:List (Pnt)×Int)=>if ltI x.2 (zF r)=true then
       (Comp.loop
          (fun (x_1:List (Pnt)×Int)=>if ltI x_1.2 (zF r)=true then
            (Comp.loop
               (fun (x_2:List (Pnt)×Int)=>if ltI x_2.2 (zF r)=true then
                 (idx r x.2).bind fun x=>(idx r x_1.2).bind fun x_3=>(idx r x_2.2).bind fun x_4=>(Go.F.vH x x_3 x_4).bind fun x=>(Comp.gd x.2.1 (Go.F.vz r x.1) (false,())).bind fun x_5=>(Comp.gd (sel x.2.1 x_5.1 false) (Go.F.yw x_2.1 x.1) (false,())).bind fun x_6=>jn (fun (x:List (Pnt))=>Comp.pure (.next (x,zJ .i64 x_2.2 1)))
                        fun (j :
                          List (Pnt)->Comp (Comp.Step (List (Pnt)×Int) (List (Pnt)))) =>
                        if sel (sel x.2.1 x_5.1 false) (ntB x_6.1) false=true then
                         (app x_2.1 [x.1]).bind fun zs=>j zs
                        else j x_2.1
                else Comp.pure (.done x_2.1))
               (x_1.1,zJ .i64 x_1.2 1)).bind fun x=>Comp.pure (.next (x,zJ .i64 x_1.2 1))
           else Comp.pure (.done x_1.1))
          (x.1,zJ .i64 x.2 1)).bind fun x_1=>Comp.pure (.next (x_1,zJ .i64 x.2 1))
      else Comp.pure (.done x.1)) (l,(k:Int))).val=some ((tri (r.drop k)).foldl (kW r) l):=by
  refine ky r.length (fun k l=>match r[k]? with|some p=>(prs (r.drop (k+1))).foldl (fun l t=>kW r l (p,t)) l|none=>l) (fun k l=>(tri (r.drop k)).foldl (kW r) l) (fun l k=>l.length+(tri (r.drop k)).length<=1000000000)
   (fun l k hk hI=>?_) (fun l=>by rw[zLs (by rw[zH,zC];simp),Comp.zB]) (fun l=>by rw[List.drop_length];rfl)
  obtain⟨p,hp⟩:=zS (xs:=r) (k:=k) hk;have dN:(tri (r.drop k)).length=(prs (r.drop (k+1))).length+(tri (r.drop (k+1))).length:=by rw[drop_cons hp,tri,zLS,List.length_map]
  have aH:((prs (r.drop (k+1))).foldl (fun l t=>kW r l (p,t)) l).length<=l.length+(prs (r.drop (k+1))).length:=by
   have:=pQ (r:=r) ((prs (r.drop (k+1))).map fun t=>(p,t)) l
   rw[List.foldl_map,List.length_map]at this;exact this
  refine⟨?_,by rw[hp];show ((prs (r.drop (k+1))).foldl (fun l t=>kW r l (p,t)) l).length+_<=_;omega,by rw[drop_cons hp,hp,tri,List.foldl_append,List.foldl_map]⟩
  rw[hp];simp only;rw[zLr (by rw[zH,zC];show (k:Int)<_;omega),zA]
  have h4:=mid k p hp (k+1) l (by omega) (by omega)
  rw[<-zN (show k<9223372036854775807 by omega)]at h4
  refine(zLi (fun o=>Option.bind o _) h4).trans ?_
  rw[zLP,Comp.zB,zN (show k<9223372036854775807 by omega)]
 have h1:=outer 0 [] (Nat.zero_le _) (by simpa using h3)
 rw[zA];refine(zLi (fun o=>Option.bind o _) h1).trans ?_
 rw[zLP];exact Comp.zB _
theorem rp{r:List Pln}(hl:r.length<=1000)(hb:∀p∈r,okB p):(ga r).val=some (full r,()):=by
 have hL:=YP;have h3:(crn r).length<=1000000000:=by
  refine zLY (mq r) (zLY (Kh r) ?_);exact Nat.mul_le_mul hl (Nat.mul_le_mul hl hl)
 unfold ga;rw[zA,KC hl hb,zLP];have inner:∀(i:Nat) (p:Pln),r[i]?=some p->(Comp.loop
           (fun (x_1:Bool×Int)=>if ltI x_1.2 (zF (crn r))=true then
             (Comp.gd (ntB x_1.1) (idx r (i:Int)) ((0,0,0,()),0,())).bind fun x=>(Comp.gd (ntB x_1.1) (idx (crn r) x_1.2) (0,0,0,0,())).bind fun x_2=>(Comp.gd (ntB x_1.1) (Go.F.zf x x_2) (0,())).bind fun x=>Comp.pure (.next (sel x_1.1 true (gtI x.1 0),zJ .i64 x_1.2 1))
            else Comp.pure (.done x_1.1))
           (false,((0:Nat):Int))).val=some ((crn r).any fun x=>decide (0<rm p x)):=by
  intro i p hp;have h5:=ky (crn r).length (fun k b=>match (crn r)[k]? with|some x=>b || decide (0<rm p x)|none=>b) (fun k b=>b || ((crn r).drop k).any fun x=>decide (0<rm p x)) (fun _ _=>True)
   (body:=(fun (x_1:Bool×Int)=>if ltI x_1.2 (zF (crn r))=true then
             (Comp.gd (ntB x_1.1) (idx r (i:Int)) ((0,0,0,()),0,())).bind fun x=>(Comp.gd (ntB x_1.1) (idx (crn r) x_1.2) (0,0,0,0,())).bind fun x_2=>(Comp.gd (ntB x_1.1) (Go.F.zf x x_2) (0,())).bind fun x=>Comp.pure (.next (sel x_1.1 true (gtI x.1 0),zJ .i64 x_1.2 1))
            else Comp.pure (.done x_1.1)))
   (fun b k hk _=>by
    obtain⟨x,hx⟩:=zS (xs:=crn r) (k:=k) hk;refine⟨?_,trivial,by rw[drop_cons hx,hx,List.any_cons,Bool.or_assoc]⟩
    rw[hx];simp only;rw[zLr (by rw[zH,zC];show (k:Int)<_;omega),zA]
    cases b with
    |true =>
     show Option.bind (Comp.pure _).val _=_
     rw[Comp.zB,zLP,zA];show Option.bind (Comp.pure _).val _=_
     rw[Comp.zB,zLP,zA];show Option.bind (Comp.pure _).val _=_
     rw[Comp.zB,zLP,Comp.zB,zN (by omega)]
     rfl
    |false =>
     show Option.bind (idx r (i:Int)).val _=_
     rw[zO hp,zLP,zA];show Option.bind (idx (crn r) (k:Int)).val _=_
     rw[zO hx,zLP,zA];show Option.bind (zf p x).val _=_
     rw[K8,zLP,Comp.zB,zN (by omega)]
     rfl)
   (fun b=>by rw[zLs (by rw[zH,zC];simp),Comp.zB]) (fun b=>by rw[List.drop_length];simp) 0 false (Nat.zero_le _) trivial
  simpa using h5
 have h1:=Zt r (fun p=>(crn r).any fun x=>decide (0<rm p x)) (c:=(Sum.inr false:Unit⊕Bool)) (d:=Sum.inl ())
  (body:=(fun (x:Int)=>if ltI x (zF r)=true then
        (Comp.loop
           (fun (x_1:Bool×Int)=>if ltI x_1.2 (zF (crn r))=true then
             (Comp.gd (ntB x_1.1) (idx r x) ((0,0,0,()),0,())).bind fun x=>(Comp.gd (ntB x_1.1) (idx (crn r) x_1.2) (0,0,0,0,())).bind fun x_2=>(Comp.gd (ntB x_1.1) (Go.F.zf x x_2) (0,())).bind fun x=>Comp.pure (.next (sel x_1.1 true (gtI x.1 0),zJ .i64 x_1.2 1))
            else Comp.pure (.done x_1.1))
           (false,0)).bind fun x_1=>if ntB x_1=true then Comp.pure (.done (Sum.inr false)) else Comp.pure (.next (zJ .i64 x 1))
       else Comp.pure (.done (Sum.inl ()))))
  (fun i p hp=>by
   have gF:=zK hp;rw[zLr (by rw[zH,zC];omega),zA]
   refine(zLi (fun o=>Option.bind o _) (inner i p hp)).trans ?_
   rw[zLP,zN (by omega)]
   cases (crn r).any fun x=>decide (0<rm p x)<;>exact Comp.zB _)
  (by rw[zLs (by rw[zH,zC];omega),Comp.zB])
 rw[zA];refine(zLi (fun o=>Option.bind o _) h1).trans ?_
 rw[zLP];unfold full;cases r.all fun p=>(crn r).any fun x=>decide (0<rm p x)<;>exact Comp.zB _
theorem qK{c:List Pln}(h:c.length<=1000):(gE c).val=some (c++bx0,()):=by
 unfold gE;have h1:(zp (-24, -24, -24,()) (24,24,24,())).val=some (bx0,()):=by
  unfold zp;rw[Comp.zB];rfl
 rw[zA,yO (by simp;unfold LIM;omega),zLP,zA,h1,zLP,zA,yO (by simp[bx0];unfold LIM;omega),zLP,Comp.zB]
 simp
theorem YQ(c:List Pln):(zy c).val=some (ful c,()):=by
 unfold zy;rw[vk,zA,jq,zLP];unfold ful;by_cases h:chk c=0
 ·obtain⟨h1,h2⟩:=ZE h
  rw[zLr (by rw[yi];exact h),zA,qK (by omega),zLP,zA,
   rp (by simp[bx0];omega) (fun p hp=>(zLa.1 hp).elim (h2 p) (J5 p)),zLP,Comp.zB,zLu h,Bool.true_and]
 ·rw[zLs (by rw[yi];exact h),Comp.zB,zLt h,Bool.false_and]
theorem ZR(a b:List Pln):(zd a b).val=some (apa a b,()):=by
 unfold zd;rw[zA,jq,zLP,zA];unfold apa;by_cases ha:chk a=0
 ·obtain⟨h1,h2⟩:=ZE ha
  have e1:neI (chk a) 0=false:=by unfold neI;simp[ha]
  show Option.bind (Comp.gd (ntB (neI (chk a) 0)) _ _).val _=_
  rw[e1];show Option.bind (zZ b).val _=_
  rw[jq,zLP];by_cases hb:chk b=0
  ·obtain⟨h3,h4⟩:=ZE hb
   have e2:neI (chk b) 0=false:=by unfold neI;simp[hb]
   rw[zLs (by show ¬sel false true (neI (chk b) 0)=true;rw[e2];simp[sel]),zA,yO (by simp;unfold LIM;omega),zLP,zA,yO (by simp;unfold LIM;omega),zLP,zA]
   simp only[List.nil_append];rw[qK (by simp;omega),zLP,zA,
    rp (by simp[bx0];omega) (fun p hp=>(zLa.1 hp).elim (fun hp=>(zLa.1 hp).elim (h2 p) (h4 p)) (J5 p)),zLP,Comp.zB,zLu ha,zLu hb]
   rfl
  ·have e2:neI (chk b) 0=true:=by unfold neI;simp[hb]
   rw[zLr (by show sel false true (neI (chk b) 0)=true;rw[e2];rfl),Comp.zB,zLu ha,zLt hb]
   rfl
 ·have e1:neI (chk a) 0=true:=by unfold neI;simp[ha]
  show Option.bind (Comp.gd (ntB (neI (chk a) 0)) _ _).val _=_
  rw[e1];show Option.bind (Comp.pure _).val _=_
  rw[Comp.zB,zLP,zLr (by rfl),Comp.zB,zLt ha]
  rfl
theorem Y5(a b:V3):cr b a=sc (cr a b) (-1):=by
 unfold cr sc;simp only[Int.mul_neg,Int.mul_one,Prod.mk.injEq,and_true];refine⟨?_,?_,?_⟩
 ·rw[Int.mul_comm b.2.1,Int.mul_comm b.2.2.1];omega
 ·rw[Int.mul_comm b.2.2.1,Int.mul_comm b.1];omega
 ·rw[Int.mul_comm b.1,Int.mul_comm b.2.1];omega
theorem zBK(a b:V3)(n:Int):dt a (sc b n)=dt a b * n:=by
 unfold dt sc;simp only[<-Int.mul_assoc,<-Int.add_mul]
theorem nI(a:V3)(m n:Int):sc (sc a m) n=sc (sc a n) m:=by
 unfold sc;simp only[Prod.mk.injEq,and_true];refine⟨?_,?_,?_⟩<;>rw[Int.mul_right_comm]
theorem IE(a b:V3)(n:Int):ad (sc a n) (sc b n)=sc (ad a b) n:=by
 unfold ad sc;simp only[Int.add_mul]
theorem Wk(a b:V3):ad a b=ad b a:=by
 unfold ad;simp only[Prod.mk.injEq,and_true];refine⟨?_,?_,?_⟩<;>omega
theorem Qk(a b c:V3):ad (ad a b) c=ad (ad a c) b:=by
 unfold ad;simp only[Prod.mk.injEq,and_true];refine⟨?_,?_,?_⟩<;>omega
theorem zEQ(p q r:Pln):det p r q = - det p q r:=by
 unfold det;rw[Y5 q.1 r.1,zBK];omega
theorem zER(p q r:Pln):det q p r = - det p q r:=by
 rw[mm q p r,mm p q r,Y5 p.1 q.1,zBK];omega
theorem zDe(p q r:Pln):num p r q=sc (num p q r) (-1):=by
 unfold num;rw[Y5 q.1 r.1,Y5 p.1 q.1,Y5 r.1 p.1,nI (cr q.1 r.1),nI (cr p.1 q.1),nI (cr r.1 p.1),IE,IE,Qk]
theorem zDf(p q r:Pln):num q p r=sc (num p q r) (-1):=by
 unfold num;rw[Y5 q.1 r.1,Y5 p.1 q.1,Y5 r.1 p.1,nI (cr q.1 r.1),nI (cr p.1 q.1),nI (cr r.1 p.1),IE,IE,Wk (sc (cr r.1 p.1) q.2.1)]
theorem Vt{v:V3}{w:Int}(h:w≠0):mkP (sc v (-1)) (-w)=mkP v w:=by
 have hg:kh (sc v (-1)) (-w)=kh v w:=by
  unfold kh sc;simp only[Int.natAbs_mul,Int.natAbs_neg];simp
 unfold mkP;simp only[hg];unfold sc;simp only[Int.mul_neg,Int.mul_one,Int.neg_neg];by_cases h1:w<0
 ·rw[zLs (by omega),zLr h1]
 ·rw[zLr (by omega),zLs h1]
theorem RZ{p q r p' q' r':Pln}(hd:det p' q' r' = - det p q r)(hn:num p' q' r'=sc (num p q r) (-1)):mt p' q' r'=mt p q r:=by
 unfold mt;rw[hd,hn];by_cases h:det p q r=0
 ·rw[zLr (by omega),zLr h]
 ·rw[zLs (by omega),zLs h,Vt h]
def mtL:List Pln->Option Pnt
 | [p,q,r]=>mt p q r
 |_=>none
theorem M1{a b c d:α}(h:[a,b].Perm [c,d]):(a=c/\b=d)\/(a=d/\b=c):=by
 have hc:c∈[a,b]:=h.symm.subset (by simp)
 simp only[zLV,List.not_mem_nil,or_false]at hc;rcases hc with rfl|rfl
 ·have:=List.perm_singleton.1 h.cons_inv
  exact .inl ⟨rfl,by simpa using this⟩
 ·have:=List.perm_singleton.1 ((List.Perm.swap a c []).trans h).cons_inv
  exact .inr ⟨by simpa using this,rfl⟩
theorem Bc{l l':List Pln}(h:l.Perm l'):mtL l=mtL l':=by
 induction h with
 |nil=>rfl
 |cons x h ih =>
  rename_i l1 l2;have kA:=h.length_eq
  match l1,l2,kA,h with
  | [a,b],[c,d],_,h =>
   rcases M1 h with ⟨rfl,rfl⟩|⟨rfl,rfl⟩
   ·rfl
   ·exact RZ (zEQ _ _ _) (zDe _ _ _)
  | [],[],_,_=>rfl
  | [_],[_],_,_=>rfl
  |_::_::_::_,_::_::_::_,_,_=>rfl
 |swap x y l =>
  match l with
  | [z]=>exact RZ (zER _ _ _) (zDf _ _ _)
  | []=>rfl
  |_::_::_=>rfl
 |trans _ _ ih1 ih2=>exact ih1.trans ih2
theorem Gb{l:List α}{a b:α}:(a,b)∈prs l↔[a,b].Sublist l:=by
 induction l with
 |nil=>simp[prs]
 |cons x l ih =>
  simp only[prs,zLa,List.mem_map,Prod.mk.injEq];constructor
  ·rintro(⟨s,h1,rfl,rfl⟩|h)
   ·exact List.Sublist.cons_cons _ (List.singleton_sublist.2 h1)
   ·exact(ih.1 h).cons _
  ·intro h
   cases h with
   |cons _ h=>exact .inr (ih.2 h)
   |cons_cons _ h=>exact .inl ⟨b,List.singleton_sublist.1 h,rfl,rfl⟩
theorem nq{l:List α}{a b c:α}:(a,b,c)∈tri l↔[a,b,c].Sublist l:=by
 induction l with
 |nil=>simp[tri]
 |cons x l ih =>
  simp only[tri,zLa,List.mem_map,Prod.mk.injEq];constructor
  ·rintro(⟨⟨s,t⟩,h1,rfl,h2⟩|h)
   ·cases h2
    exact List.Sublist.cons_cons _ (Gb.1 h1)
   ·exact(ih.1 h).cons _
  ·intro h
   cases h with
   |cons _ h=>exact .inr (ih.2 h)
   |cons_cons _ h=>exact .inl ⟨(b,c),Gb.2 h,rfl,rfl⟩
theorem Jf{r:List Pln}{x:Pnt}:x∈crn r↔ins r x=true/\∃t∈tri r,mt t.1 t.2.1 t.2.2=some x:=by
 have key:∀(ts:List (Pln×Pln×Pln)) (l:List Pnt),x∈ts.foldl (kW r) l↔x∈l\/(ins r x=true/\∃t∈ts,mt t.1 t.2.1 t.2.2=some x):=by
  intro ts
  induction ts with
  |nil=>intro l;simp
  |cons t ts ih =>
   intro l;rw[List.foldl_cons,ih];have hs:x∈kW r l t↔x∈l\/(ins r x=true/\mt t.1 t.2.1 t.2.2=some x):=by
    unfold kW
    cases hm:mt t.1 t.2.1 t.2.2 with
    |none=>simp
    |some y =>
     simp only[zLo];by_cases hy:y∈l
     ·rw[zLr hy]
      constructor
      ·exact .inl
      ·rintro(h|⟨_,rfl⟩)
       ·exact h
       ·exact hy
     ·rw[zLs hy]
      cases hi:ins r y with
      |false =>
       rw[cond_false];constructor
       ·exact .inl
       ·rintro(h|⟨h1,rfl⟩)
        ·exact h
        ·rw[hi]at h1;cases h1
      |true =>
       rw[cond_true,zLa,List.mem_singleton];constructor
       ·rintro(h|rfl)
        ·exact .inl h
        ·exact .inr ⟨hi,rfl⟩
       ·rintro(h|⟨_,rfl⟩)
        ·exact .inl h
        ·exact .inr rfl
   rw[hs];simp only[zLV,exists_eq_or_imp];constructor
   ·rintro((h|⟨h1,h2⟩)|⟨h1,h2⟩)
    ·exact .inl h
    ·exact .inr ⟨h1,.inl h2⟩
    ·exact .inr ⟨h1,.inr h2⟩
   ·rintro(h|⟨h1,h2|h2⟩)
    ·exact .inl (.inl h)
    ·exact .inl (.inr ⟨h1,h2⟩)
    ·exact .inr ⟨h1,h2⟩
 unfold crn;rw[key];simp
theorem M5{r r':List α}(h:r.Perm r'):∀ {s:List α},s.Sublist r->∃s':List α,s'.Perm s/\s'.Sublist r':=by
 induction h with
 |nil=>exact fun {s} hs=>⟨s,.refl _,hs⟩
 |cons x h ih =>
  intro s hs
  cases hs with
  |cons _ hs =>
   obtain⟨s',h1,h2⟩:=ih hs;exact⟨s',h1,h2.cons _⟩
  |cons_cons _ hs =>
   obtain⟨s',h1,h2⟩:=ih hs;exact⟨x::s',h1.cons _,h2.cons_cons _⟩
 |swap x y l =>
  intro s hs
  cases hs with
  |cons _ hs =>
   cases hs with
   |cons _ hs=>exact⟨_,.refl _,(hs.cons _).cons _⟩
   |cons_cons _ hs=>exact⟨_,.refl _,(hs.cons _).cons_cons _⟩
  |cons_cons _ hs =>
   cases hs with
   |cons _ hs=>exact⟨_,.refl _,(hs.cons_cons _).cons _⟩
   |cons_cons _ hs=>exact⟨_,.swap _ _ _,(hs.cons_cons _).cons_cons _⟩
 |trans _ _ ih1 ih2 =>
  intro s hs;obtain⟨s1,h1,h2⟩:=ih1 hs;obtain⟨s2,h3,h4⟩:=ih2 h2;exact⟨s2,h3.trans h1,h4⟩
theorem QO{r r':List Pln}(h:r.Perm r'){x:Pnt}(hx:x∈crn r):x∈crn r':=by
 rw[Jf]at hx |-;obtain⟨h1,⟨a,b,c⟩,h2,h3⟩:=hx;refine⟨?_,?_⟩
 ·unfold ins at h1 |-
  rw[zLw]at h1 |-;exact fun p hp=>h1 p (h.symm.subset hp)
 ·obtain⟨l,g1,g2⟩:=M5 h (nq.1 h2)
  have kA:=g1.length_eq
  match l,kA,g1,g2 with
  | [a',b',c'],_,g1,g2=>exact⟨(a',b',c'),nq.2 g2,(Bc g1).trans h3⟩
theorem MK{r r':List Pln}(h:r.Perm r'):full r=full r':=by
 have key:∀ {r r':List Pln},r.Perm r'->full r=true->full r'=true:=by
  intro r r' h hf;unfold full at hf |-;rw[zLw]at hf |-;intro p hp;have:=hf p (h.symm.subset hp)
  rw[List.any_eq_true]at this |-;obtain⟨x,h1,h2⟩:=this;exact⟨x,QO h h1,h2⟩
 rw[Bool.eq_iff_iff];exact⟨key h,key h.symm⟩
theorem Qg(a b:List Pln):apa a b=apa b a:=by
 unfold apa;rw[Bool.and_comm,MK (List.Perm.append_right bx0 (List.perm_append_comm (l₁:=a) (l₂:=b)))]
abbrev SS(l:List Pln):Prop:=l.Pairwise LtP
abbrev SL(l:List Pln):Prop:=l.Pairwise fun p q=>¬LtP q p
theorem SS.eq{l m:List Pln}(hl:SS l)(hm:SS m)(h:∀p,p∈l↔p∈m):l=m:=by
 induction l generalizing m with
 |nil =>
  cases m with
  |nil=>rfl
  |cons q m=>have:=(h q).2 (by simp);cases this
 |cons p l ih =>
  cases m with
  |nil=>have:=(h p).1 (by simp);cases this
  |cons q m =>
   rw[SS,List.pairwise_cons]at hl hm;have cN:p=q:=by
    have h1:=(h p).1 (by simp)
    have h2:=(h q).2 (by simp)
    rcases zLV.1 h1 with rfl|h1
    ·rfl
    ·rcases zLV.1 h2 with rfl|h2
     ·rfl
     ·exact zLh (hl.1 q h2) fun k=>k.asym (hm.1 p h1)
   subst cN
   congr 1
   refine ih hl.2 hm.2 fun x=>?_
   constructor
   ·intro hx
    have:=(h x).1 (zLb _ hx);rcases zLV.1 this with rfl|h1
    ·exact zLh (hl.1 x hx) LtP.irr
    ·exact h1
   ·intro hx
    have:=(h x).2 (zLb _ hx);rcases zLV.1 this with rfl|h1
    ·exact zLh (hm.1 x hx) LtP.irr
    ·exact h1
theorem qP{p x:Pln}:∀ {l:List Pln},x∈Kv p l↔x=p\/x∈l
 | []=>by simp[Kv]
 |q::l=>by
  unfold Kv;split
  ·rw[zLV,qP,zLV]
   constructor
   ·rintro(h|h|h)
    ·exact .inr (.inl h)
    ·exact .inl h
    ·exact .inr (.inr h)
   ·rintro(h|h|h)
    ·exact .inr (.inl h)
    ·exact .inl h
    ·exact .inr (.inr h)
  ·rw[zLV]
theorem Gy{p:Pln}:∀ {l:List Pln},SL l->SL (Kv p l)
 | [],_=>by simp[Kv]
 |q::l,h=>by
  rw[SL,List.pairwise_cons]at h;unfold Kv;split
  ·rename_i hc
   rw[SL,List.pairwise_cons];refine⟨fun x hx=>?_,Gy h.2⟩
   rcases qP.1 hx with rfl|hx
   ·exact fun k=>k.asym (KA.1 hc)
   ·exact h.1 x hx
  ·rename_i hc
   rw[SL,List.pairwise_cons];refine⟨fun x hx=>?_,by rw[List.pairwise_cons];exact h⟩
   have cN:¬LtP q p:=fun k=>hc (KA.2 k)
   rcases zLV.1 hx with rfl|cP
   ·exact cN
   ·intro k
    have hxq:=h.1 x cP;rcases LtP.tri p q with h1|h1|h1
    ·exact hxq (k.trans h1)
    ·exact hxq (h1 ▸ k)
    ·exact cN h1
theorem KM{x:Pln}:∀ {l:List Pln},x∈Xr l↔x∈l
 | []=>by simp[Xr]
 |p::l=>by unfold Xr;rw[qP,KM,zLV]
theorem mE:∀ {l:List Pln},SL (Xr l)
 | []=>by simp[Xr]
 |p::l=>Gy mE
theorem Br{p:Pln}:∀ {l:List Pln},(Kv p l).length=l.length+1
 | []=>rfl
 |q::l=>by unfold Kv;split<;>simp[Br]
theorem qG:∀ {l:List Pln},(Xr l).length=l.length
 | []=>rfl
 |p::l=>by unfold Xr;rw[Br,qG];rfl
theorem pR:∀ {l:List Pln} {p:Pln},SL (p::l)->SS (p::Jw p l)/\∀x,x∈p::Jw p l↔x∈p::l
 | [],p,_=>⟨by simp[Jw],fun x=>by simp[Jw]⟩
 |q::l,p,h=>by
  rw[SL,List.pairwise_cons]at h;obtain⟨h1,h2⟩:=pR h.2;unfold Jw;split
  ·rename_i e
   subst e;refine⟨h1,fun x=>?_⟩
   rw[h2,zLV (l:=q::l)];simp
  ·rename_i e
   refine⟨?_,fun x=>?_⟩
   ·rw[SS,List.pairwise_cons]
    refine⟨fun x hx=>?_,h1⟩
    have cN:LtP p q:=by
     rcases LtP.tri p q with k|k|k
     ·exact k
     ·exact zLh k.symm e
     ·exact zLh k (h.1 q (by simp))
    rcases zLV.1 hx with rfl|hx'
    ·exact cN
    ·exact cN.trans ((List.pairwise_cons.1 h1).1 x hx')
   ·rw[zLV,h2,<-zLV]
theorem CH{l:List Pln}(h:SL l):SS (cpc l)/\∀x,x∈cpc l↔x∈l:=by
 cases l with
 |nil=>exact⟨by simp[cpc],fun x=>by simp[cpc]⟩
 |cons p l=>exact pR h
def Yn(p:Pln):List Pln->List Pln
 | []=>[p]
 |q::l=>if Yo q p<0 then q::Yn p l else if q=p then q::l else p::q::l
theorem qL{p x:Pln}:∀ {l:List Pln},x∈Yn p l↔x=p\/x∈l
 | []=>by simp[Yn]
 |q::l=>by
  unfold Yn;split
  ·rw[zLV,qL,zLV]
   constructor
   ·rintro(h|h|h)
    ·exact .inr (.inl h)
    ·exact .inl h
    ·exact .inr (.inr h)
   ·rintro(h|h|h)
    ·exact .inr (.inl h)
    ·exact .inl h
    ·exact .inr (.inr h)
  ·split
   ·rename_i e;subst e;simp
   ·rw[zLV]
theorem Ga{p:Pln}:∀ {l:List Pln},SS l->SS (Yn p l)
 | [],_=>by simp[Yn]
 |q::l,h=>by
  rw[SS,List.pairwise_cons]at h;unfold Yn;split
  ·rename_i hc
   rw[SS,List.pairwise_cons];refine⟨fun x hx=>?_,Ga h.2⟩
   rcases qL.1 hx with rfl|hx
   ·exact KA.1 hc
   ·exact h.1 x hx
  ·rename_i hc
   split
   ·rw[SS,List.pairwise_cons];exact h
   ·rename_i e
    have cN:LtP p q:=by
     rcases LtP.tri p q with k|k|k
     ·exact k
     ·exact zLh k.symm e
     ·exact zLh (KA.2 k) hc
    rw[SS,List.pairwise_cons];refine⟨fun x hx=>?_,by rw[List.pairwise_cons];exact h⟩
    rcases zLV.1 hx with rfl|hx
    ·exact cN
    ·exact cN.trans (h.1 x hx)
theorem BL{p:Pln}:∀ {l:List Pln},(Yn p l).length<=l.length+1
 | []=>by simp[Yn]
 |q::l=>by
  have:=BL (p:=p) (l:=l);unfold Yn;split
  ·simp only[zLZ];omega
  ·split<;>simp
theorem Ng(l:List Pln):l.foldl (fun m p=>Yn p m) []=cpc (Xr l):=by
 have key:∀(l m:List Pln),SS m->SS (l.foldl (fun m p=>Yn p m) m)/\∀x,x∈l.foldl (fun m p=>Yn p m) m↔x∈l\/x∈m:=by
  intro l
  induction l with
  |nil=>intro m hm;exact⟨hm,fun x=>by simp⟩
  |cons p l ih =>
   intro m hm;obtain⟨h1,h2⟩:=ih (Yn p m) (Ga hm);refine⟨h1,fun x=>?_⟩
   rw[List.foldl_cons,h2,qL,zLV];constructor
   ·rintro(h|h|h)
    ·exact .inl (.inr h)
    ·exact .inl (.inl h)
    ·exact .inr h
   ·rintro((h|h)|h)
    ·exact .inr (.inl h)
    ·exact .inl h
    ·exact .inr (.inr h)
 obtain⟨h1,h2⟩:=key l [] (by simp)
 obtain⟨h3,h4⟩:=CH (mE (l:=l));refine SS.eq h1 h3 fun p=>?_
 rw[h2,h4,KM];simp
theorem Iu(a b:Int):(Ze a b).val=some (if a<b then -1 else if b<a then 1 else 0,()):=by
 unfold Ze;by_cases h1:a<b
 ·rw[zLr (by rw[zH];exact h1),zLr h1,Comp.zB]
 ·rw[zLs (by rw[zH];exact h1),zLs h1]
  by_cases h2:b<a
  ·rw[zLr (by rw[yd];exact h2),zLr h2,Comp.zB]
  ·rw[zLs (by rw[yd];exact h2),zLs h2,Comp.zB]
def Mn:List (Int×Int)->Int
 | []=>0
 |x::l=>if x.1<x.2 then -1 else if x.2<x.1 then 1 else Mn l
theorem R1(p q:Pln):Yo p q=Mn [(p.1.1,q.1.1),(p.1.2.1,q.1.2.1),(p.1.2.2.1,q.1.2.2.1),(p.2.1,q.2.1)]:=rfl
theorem Ak(p q:Pln):(kC p q).val=some (Yo p q,()):=by
 unfold kC;rw[R1];generalize hl:[(p.1.1,q.1.1),(p.1.2.1,q.1.2.1),(p.1.2.2.1,q.1.2.2.1),(p.2.1,q.2.1)]=l;have hm:[[p.1.1,q.1.1],[p.1.2.1,q.1.2.1],[p.1.2.2.1,q.1.2.2.1],[p.2.1,q.2.1]]=l.map fun x=>[x.1,x.2]:=by rw[<-hl];rfl
 have kA:l.length=4:=by rw[<-hl];rfl
 rw[hm];have key:∀(ys zs:List (Int×Int)),l=zs++ys->(Comp.loop
     (fun (x:Int×Int)=>if ltI x.2 (zF (l.map fun x=>[x.1,x.2]))=true then
       (idx (l.map fun x=>[x.1,x.2]) x.2).bind fun x_1=>(idx x_1 0).bind fun x_2=>(idx x_1 1).bind fun x_3=>(Go.F.Ze x_2 x_3).bind fun x_4=>if eqI x_4.1 0=true then Comp.pure (.next (x_4.1,zJ .i64 x.2 1)) else Comp.pure (.done x_4.1)
      else Comp.pure (.done x.1)) (0,(zs.length:Int))).val=some (Mn ys):=by
  intro ys
  induction ys with
  |nil =>
   intro zs hx;rw[zM,zLs (by rw[zH,zC,List.length_map,hx];simp),Comp.zB];rfl
  |cons y ys ih =>
   intro zs hx;have hy:(l.map fun x=>[x.1,x.2])[zs.length]?=some [y.1,y.2]:=by rw[hx];simp
   have gF:=zK hy;rw[List.length_map]at gF;have i0:(idx [y.1,y.2] 0).val=some y.1:=Kq rfl
   have i1:(idx [y.1,y.2] 1).val=some y.2:=Kq rfl;rw[zM,zLr (by rw[zH,zC,List.length_map];show (zs.length:Int)<_;omega),zA,zO hy,zLP,zA,i0,zLP,zA,i1,zLP,zA,Iu,zLP]
   unfold Mn;by_cases h1:y.1<y.2
   ·rw[zLr h1,zLs (by rw[yi];show ¬((-1:Int)=0);decide),Comp.zB,zLr h1];rfl
   ·rw[zLs h1]
    by_cases h2:y.2<y.1
    ·rw[zLr h2,zLs (by rw[yi];show ¬((1:Int)=0);decide),Comp.zB,zLs h1,zLr h2];rfl
    ·rw[zLs h2,zLr (by rw[yi]),Comp.zB,zLs h1,zLs h2,zN (by omega),zLP]
     have:=ih (zs++[y]) (by rw[hx];simp)
     simpa using this
 rw[zA];refine(zLi (fun o=>Option.bind o _) (key l [] rfl)).trans ?_
 rw[zLP,Comp.zB]
theorem NL{l:List Pln}(h:l.length<=LIM):(zz l fun z=>kC z.1 z.2.1).val=some (Xr l):=by
 unfold zz Ce;rw[zLr ⟨h,fun x y=>vK.1 (Ak x y)⟩,Comp.zB]
theorem zHr(x y:Pln):adB (adB (eqI x.1.1 y.1.1) (adB (eqI x.1.2.1 y.1.2.1) (eqI x.1.2.2.1 y.1.2.2.1))) (eqI x.2.1 y.2.1)=decide (x=y):=by
 obtain⟨⟨a,b,c,u⟩,d,v⟩:=x;obtain⟨⟨a',b',c',u'⟩,d',v'⟩:=y;unfold eqI adB;simp only;rw[Bool.eq_iff_iff];simp[Prod.ext_iff]
def zHs(x y:Pln):Bool:=adB (adB (eqI x.1.1 y.1.1) (adB (eqI x.1.2.1 y.1.2.1) (eqI x.1.2.2.1 y.1.2.2.1))) (eqI x.2.1 y.2.1)
theorem V5(x y:Pln):zHs x y=decide (x=y):=zHr x y
theorem Am{l:List Pln}(hl:l.length<9223372036854775807):(z7 l).val=some (cpc l):=by
 have e:z7 l=zFM zHs ((0,0,0,()),0,()) l:=by
  kernel_rfl
 rw[e];exact WM V5 hl
def onn(p:Pln)(X:List Pnt):Nat:=(X.filter fun x=>decide (rm p x=0)).length
def fac(c:List Pln):List Pln:=c.filter fun p=>decide (3<=onn p (crn (c++bx0)))
def ln(c:List Pln):List Pln:=bif ful c then cpc (Xr (fac c)) else []
theorem pP{c:List Pln}(h:c.length<=48):(crn (c++bx0)).length<=1000000000:=by
 refine zLY (mq _) (zLY (Kh _) ?_);have:(c++bx0).length<=1000:=by simp[bx0];omega
 exact Nat.mul_le_mul this (Nat.mul_le_mul this this)
theorem DX{c:List Pln}(h:chk c=0):(Yx c).val=some (crn (c++bx0),()):=by
 obtain⟨h1,h2⟩:=ZE h;unfold Yx;rw[zA,YV _ (by simp),zLP]
 simp only[List.all_cons,List.all_nil,Bool.and_true,yP];rw[zLs (by simp[h]),zA,yZ (by simp) (by simp;omega),zLP,zA]
 simp only[List.flatten_cons,List.flatten_nil,zLx];rw[wj (by simp[bx0];omega) (fun p hp=>(zLa.1 hp).elim (h2 p) (J5 p)),zLP,Comp.zB]
theorem AU{c:List Pln}(h:chk c=0):(gz c).val=some (crn (c++bx0),()):=by
 obtain⟨h1,h2⟩:=ZE h;unfold gz;rw[zA,jq,zLP,zLs (by rw[z6];simp[h]),zA,qK (by omega),zLP,zA,
  KC (by simp[bx0];omega) (fun p hp=>(zLa.1 hp).elim (h2 p) (J5 p)),zLP,Comp.zB]
theorem MC{p:Pln}{X:List Pnt}(hX:X.length<=1000000000):(jx p X).val=some (decide (onn p X<3),()):=by
 unfold jx;have h1:=ky (σ:=Int) X.length (fun k n=>match X[k]? with|some x=>if rm p x=0 then n+1 else n|none=>n) (fun k n=>n+(onn p (X.drop k):Nat)) (fun n k=>0<=n/\n<=k)
  (body:=(fun (x:Int×Int)=>if ltI x.2 (zF X)=true then
       (idx X x.2).bind fun x_1=>(Go.F.ZZ p x_1).bind fun x_2=>jn (fun (x_3:Int)=>Comp.pure (.next (x_3,zJ .i64 x.2 1))) fun (j:Int->Comp (Comp.Step (Int×Int) Int))=>if eqI x_2.1 0=true then j (zJ .i64 x.1 1) else j x.1
      else Comp.pure (.done x.1)))
  (fun n k hk hI=>by
   obtain⟨x,hx⟩:=zS (xs:=X) (k:=k) hk;refine⟨?_,?_,?_⟩
   ·rw[hx]
    simp only;rw[zLr (by rw[zH,zC];show (k:Int)<_;omega),zA,zO hx,zLP,zA,qI,zLP,vk]
    by_cases h:rm p x=0
    ·rw[zLr (by rw[yi];exact h),zLr h,Comp.zB,zN (by omega),ye (by omega)]
    ·rw[zLs (by rw[yi];exact h),zLs h,Comp.zB,zN (by omega)]
   ·rw[hx]
    simp only;split<;>omega
   ·rw[drop_cons hx,hx]
    unfold onn;by_cases h:rm p x=0
    ·simp only[List.filter_cons,h,decide_true,if_true,zLZ];omega
    ·simp[List.filter_cons,h])
  (fun n=>by rw[zLs (by rw[zH,zC];simp),Comp.zB]) (fun n=>by rw[List.drop_length];simp[onn]) 0 0 (Nat.zero_le _) (by omega)
 rw[zA];refine(zLi (fun o=>Option.bind o _) h1).trans ?_
 rw[zLP,Comp.zB]
 congr 2
 unfold ltI;rw[List.drop_zero,Int.zero_add];by_cases h:onn p X<3
 ·rw[zLu h,zLu (by omega)]
 ·rw[zLt h,zLt (by omega)]
theorem mg{c:List Pln}:(fac c).length<=c.length:=List.length_filter_le _ _
theorem KQ(c:List Pln):(gN c).val=some (ln c,()):=by
 unfold gN ln;rw[zA,Zb,zLP,yP]
 cases hf:ful c with
 |false=>rw[zLr (by simp),Comp.zB];rfl
 |true =>
  have hc:chk c=0:=by
   unfold ful at hf;rw[zLR]at hf;simpa using hf.1
  obtain⟨h1,h2⟩:=ZE hc;have hX:=pP h1
  have hL:=YP;have e1:(yW c).val=some (c,()):=HL (by unfold LIM;omega)
  have e2:(yE c fun z=>jx z.1 (crn (c++bx0))).val=some (fac c):=by
   refine(HH (z:=((0,0,0,()),0,())) (f:=fun z=>jx z.1 (crn (c++bx0))) (p:=fun p=>decide (onn p (crn (c++bx0))<3)) (by omega) fun p _=>MC hX).trans ?_
   unfold fac
   congr 2
   funext p
   by_cases h:onn p (crn (c++bx0))<3
   ·rw[zLu h,zLt (by omega)];rfl
   ·rw[zLt h,zLu (by omega)];rfl
  rw[zLs (by simp),zA,DX hc,zLP,zA,e1,zLP,zA,e2,zLP,zA,NL (by have:=mg (c:=c);unfold LIM;omega),zLP,zA,
   Am (by rw[qG];have:=mg (c:=c);omega),zLP,Comp.zB]
  rfl
theorem pf(p q:Pln):(y4 p q).val=some (Yo p q,()):=by
 unfold y4;rw[R1];generalize hl:[(p.1.1,q.1.1),(p.1.2.1,q.1.2.1),(p.1.2.2.1,q.1.2.2.1),(p.2.1,q.2.1)]=l;have hm1:[p.1.1,p.1.2.1,p.1.2.2.1,p.2.1]=l.map fun x=>x.1:=by rw[<-hl];rfl
 have hm2:[q.1.1,q.1.2.1,q.1.2.2.1,q.2.1]=l.map fun x=>x.2:=by rw[<-hl];rfl
 have kA:l.length=4:=by rw[<-hl];rfl
 rw[hm1,hm2];have key:∀(ys zs:List (Int×Int)),l=zs++ys->∃r:Unit⊕Int,(match r with|.inl _=>0|.inr n=>n)=Mn ys/\(Comp.loop
     (fun (x:Int)=>if ltI x 4=true then
       (idx (l.map fun x=>x.1) x).bind fun x_1=>(idx (l.map fun x=>x.2) x).bind fun x_2=>if ltI x_1 x_2=true then Comp.pure (.done (Sum.inr (-1)))
         else
          (idx (l.map fun x=>x.1) x).bind fun x_3=>(idx (l.map fun x=>x.2) x).bind fun x_4=>if gtI x_3 x_4=true then Comp.pure (.done (Sum.inr 1)) else Comp.pure (.next (zJ .i64 x 1))
      else Comp.pure (.done (Sum.inl ()))) (zs.length:Int)).val=some r:=by
  intro ys
  induction ys with
  |nil =>
   intro zs hx;have hz:zs.length=4:=by rw[<-kA,hx];simp
   exact⟨.inl (),rfl,by rw[zM,zLs (by rw[zH];omega),Comp.zB];exact zLP ..⟩
  |cons y ys ih =>
   intro zs hx;have hz:zs.length<4:=by rw[<-kA,hx];simp
   have i1:(idx (l.map fun x=>x.1) (zs.length:Int)).val=some y.1:=zO (by rw[hx];simp)
   have i2:(idx (l.map fun x=>x.2) (zs.length:Int)).val=some y.2:=zO (by rw[hx];simp)
   unfold Mn;by_cases h1:y.1<y.2
   ·refine⟨.inr (-1),by rw[zLr h1],?_⟩
    rw[zM,zLr (by rw[zH];omega),zA,i1,zLP,zA,i2,zLP,zLr (by rw[zH];exact h1),Comp.zB];rfl
   ·by_cases h2:y.2<y.1
    ·refine⟨.inr 1,by rw[zLs h1,zLr h2],?_⟩
     rw[zM,zLr (by rw[zH];omega),zA,i1,zLP,zA,i2,zLP,zLs (by rw[zH];exact h1),zA,i1,zLP,zA,i2,zLP,zLr (by rw[yd];exact h2),Comp.zB];rfl
    ·obtain⟨r,h3,h4⟩:=ih (zs++[y]) (by rw[hx];simp)
     refine⟨r,by rw[zLs h1,zLs h2];exact h3,?_⟩
     rw[zM,zLr (by rw[zH];omega),zA,i1,zLP,zA,i2,zLP,zLs (by rw[zH];exact h1),zA,i1,zLP,zA,i2,zLP,zLs (by rw[yd];exact h2),Comp.zB,zN (by omega),zLP]
     simpa using h4
 obtain⟨r,h3,h4⟩:=key l [] rfl;rw[zA];refine(zLi (fun o=>Option.bind o _) h4).trans ?_
 rw[zLP,<-h3];cases r<;>exact Comp.zB _
def bef(p:Pln):List Pln->Nat
 | []=>0
 |q::l=>if Yo q p<0 then bef p l+1 else 0
theorem R4{p:Pln}:∀ {l:List Pln},bef p l<=l.length
 | []=>zLT _
 |q::l=>by
  have:=R4 (p:=p) (l:=l);unfold bef;split<;>simp only[zLZ]<;>omega
theorem BM{p:Pln}:∀ {l:List Pln},Yn p l=if l[bef p l]?=some p then l else l.take (bef p l)++p::l.drop (bef p l)
 | []=>rfl
 |q::l=>by
  have ih:=BM (p:=p) (l:=l);unfold Yn bef;split
  ·rw[ih]
   simp only[List.getElem?_cons_succ,List.take_succ_cons,List.drop_succ_cons,List.cons_append];split<;>rfl
  ·simp only[List.getElem?_cons_zero,zLo,List.take_zero,List.drop_zero,List.nil_append]
theorem NU{l:List Pln}{p:Pln}(hl:l.length<=1000000):(jK l p).val=some (Yn p l,()):=by
 have hL:=YP;unfold jK;have key:∀(ys zs:List Pln),l=zs++ys->(Comp.loop
     (fun (x:Int)=>(Comp.gd (ltI x (zF l)) (idx l x) ((0,0,0,()),0,())).bind fun x_1=>(Comp.gd (ltI x (zF l)) (Go.F.y4 x_1 p) (0,())).bind fun x_2=>if sel (ltI x (zF l)) (ltI x_2.1 0) false=true then Comp.pure (.next (zJ .i64 x 1)) else Comp.pure (.done x))
     (zs.length:Int)).val=some (((zs.length+bef p ys:Nat)):Int):=by
  intro ys
  induction ys with
  |nil =>
   intro zs hx;have h1:ltI (zs.length:Int) (zF l)=false:=by unfold ltI;rw[zLt];rw[zC,hx];simp
   rw[zM];simp only[h1];rw[zA];show Option.bind (Option.bind (Comp.pure _).val _) _=_
   rw[Comp.zB,zLP,zA];show Option.bind (Option.bind (Comp.pure _).val _) _=_
   rw[Comp.zB,zLP];rw[zLs (by simp[sel]),Comp.zB,zLP]
   rfl
  |cons y ys ih =>
   intro zs hx;have hy:l[zs.length]?=some y:=by rw[hx];simp
   have gF:=zK hy;have h1:ltI (zs.length:Int) (zF l)=true:=by rw[zH,zC];omega
   rw[zM];simp only[h1];rw[zA];show Option.bind (Option.bind (idx l (zs.length:Int)).val _) _=_
   rw[zO hy,zLP,zA];show Option.bind (Option.bind (y4 y p).val _) _=_
   rw[pf,zLP];unfold bef;by_cases h2:Yo y p<0
   ·rw[zLr (by show sel true (ltI (Yo y p) 0) false=true;show ltI (Yo y p) 0=true;rw[zH];exact h2),zLr h2,Comp.zB,zN (by omega),zLP]
    have:=ih (zs++[y]) (by rw[hx];simp)
    simp only[zLS,zLU]at this;rw[show zs.length+(bef p ys+1)=zs.length+1+bef p ys by omega]
    exact this
   ·rw[zLs (by show ¬sel true (ltI (Yo y p) 0) false=true;show ¬ltI (Yo y p) 0=true;rw[zH];exact h2),zLs h2,Comp.zB,zLP]
    rfl
 have h1:=key l [] rfl;simp only[List.length_nil,Nat.zero_add]at h1;have hb:=R4 (p:=p) (l:=l)
 rw[zA];refine(zLi (fun o=>Option.bind o _) h1).trans ?_
 rw[zLP,BM];have tail:((sub l 0 ((bef p l:Nat):Int)).bind fun x_2=>(app [] x_2).bind fun zs=>(app zs [p]).bind fun zs=>(sub l ((bef p l:Nat):Int) (zF l)).bind fun x=>(app zs x).bind fun zs=>(Comp.pure (zs,()):Comp (List Pln×Unit))).val=some (l.take (bef p l)++p::l.drop (bef p l),()):=by
  have s1:(sub l 0 ((bef p l:Nat):Int)).val=some (l.take (bef p l)):=by rw[YK (by omega)];simp
  rw[zA,s1,zLP,zA,yO (by simp;unfold LIM;omega),zLP,zA,yO (by simp;unfold LIM;omega),zLP,zA,nu hb,zLP,zA,
   yO (by simp;unfold LIM;omega),zLP,Comp.zB]
  simp
 by_cases gF:bef p l<l.length
 ·obtain⟨y,hy⟩:=zS (xs:=l) (k:=bef p l) gF
  have h2:ltI ((bef p l:Nat):Int) (zF l)=true:=by rw[zH,zC];omega
  rw[h2,zA];show Option.bind (idx l ((bef p l:Nat):Int)).val _=_
  rw[zO hy,zLP,hy];have he:=zHr y p
  by_cases hp:y=p
  ·rw[zLr (by show sel true _ false=true;show (adB _ _)=true;rw[he];exact zLu hp),zLr (by rw[hp]),Comp.zB]
  ·rw[zLs (by show ¬sel true _ false=true;show ¬(adB _ _)=true;rw[he];simp[hp]),zLs (by simp[hp])]
   exact tail
 ·have h2:ltI ((bef p l:Nat):Int) (zF l)=false:=by unfold ltI;rw[zLt];rw[zC];omega
  rw[h2,zA];show Option.bind (Comp.pure _).val _=_
  rw[Comp.zB,zLP,zLs (by simp[sel]),zLs (by rw[List.getElem?_eq_none (by omega)];simp)]
  exact tail
theorem U9{i:Nat}{c:List Pln}{p:Pln}(hp:c[i]?=some p){X:List Pnt}(hX:X.length<=1000000000):(Comp.loop
             (fun (x_2:Int×Int)=>if ltI x_2.2 (zF X)=true then
               (idx c (i:Int)).bind fun x=>(idx X x_2.2).bind fun x_3=>(Go.F.zf x x_3).bind fun x=>jn (fun (x:Int)=>Comp.pure (.next (x,zJ .i64 x_2.2 1)))
                   fun (j:Int->Comp (Comp.Step (Int×Int) Int))=>if eqI x.1 0=true then j (zJ .i64 x_2.1 1) else j x_2.1
              else Comp.pure (.done x_2.1))
             (0,0)).val=some ((onn p X:Nat):Int):=by
 have h1:=ky (σ:=Int) X.length (fun k n=>match X[k]? with|some x=>if rm p x=0 then n+1 else n|none=>n) (fun k n=>n+(onn p (X.drop k):Nat)) (fun n k=>0<=n/\n<=k)
  (body:=(fun (x_2:Int×Int)=>if ltI x_2.2 (zF X)=true then
               (idx c (i:Int)).bind fun x=>(idx X x_2.2).bind fun x_3=>(Go.F.zf x x_3).bind fun x=>jn (fun (x:Int)=>Comp.pure (.next (x,zJ .i64 x_2.2 1)))
                   fun (j:Int->Comp (Comp.Step (Int×Int) Int))=>if eqI x.1 0=true then j (zJ .i64 x_2.1 1) else j x_2.1
              else Comp.pure (.done x_2.1)))
  (fun n k hk hI=>by
   obtain⟨x,hx⟩:=zS (xs:=X) (k:=k) hk;refine⟨?_,?_,?_⟩
   ·rw[hx]
    simp only;rw[zLr (by rw[zH,zC];show (k:Int)<_;omega),zA,zO hp,zLP,zA,zO hx,zLP,zA,K8,zLP,vk]
    by_cases h:rm p x=0
    ·rw[zLr (by rw[yi];exact h),zLr h,Comp.zB,zN (by omega),ye (by omega)]
    ·rw[zLs (by rw[yi];exact h),zLs h,Comp.zB,zN (by omega)]
   ·rw[hx]
    simp only;split<;>omega
   ·rw[drop_cons hx,hx]
    unfold onn;by_cases h:rm p x=0
    ·simp only[List.filter_cons,h,decide_true,if_true,zLZ];omega
    ·simp[List.filter_cons,h])
  (fun n=>by rw[zLs (by rw[zH,zC];simp),Comp.zB]) (fun n=>by rw[List.drop_length];simp[onn]) 0 0 (Nat.zero_le _) (by omega)
 rw[List.drop_zero,Int.zero_add]at h1;exact h1
theorem XD(c:List Pln):(zn c).val=some (ln c,()):=by
 unfold zn ln;rw[zA,YQ,zLP,yP]
 cases hf:ful c with
 |false=>rw[zLr (by simp),Comp.zB];rfl
 |true =>
  have hc:chk c=0:=by
   unfold ful at hf;rw[zLR]at hf;simpa using hf.1
  obtain⟨h1,h2⟩:=ZE hc;have hX:=pP h1
  have hL:=YP;rw[zLs (by simp),zA,AU hc,zLP]
  have h3:=ky c.length (fun k l=>match c[k]? with|some p=>if 3<=onn p (crn (c++bx0)) then Yn p l else l|none=>l) (fun k l=>((c.drop k).filter fun p=>decide (3<=onn p (crn (c++bx0)))).foldl (fun m p=>Yn p m) l) (fun l k=>l.length<=k)
   (body:=(fun (x_1:List (Pln)×Int)=>if ltI x_1.2 (zF c)=true then
          (Comp.loop
             (fun (x_2:Int×Int)=>if ltI x_2.2 (zF (crn (c++bx0)))=true then
               (idx c x_1.2).bind fun x=>(idx (crn (c++bx0)) x_2.2).bind fun x_3=>(Go.F.zf x x_3).bind fun x=>jn (fun (x:Int)=>Comp.pure (.next (x,zJ .i64 x_2.2 1)))
                   fun (j:Int->Comp (Comp.Step (Int×Int) Int))=>if eqI x.1 0=true then j (zJ .i64 x_2.1 1) else j x_2.1
              else Comp.pure (.done x_2.1))
             (0,0)).bind fun x=>jn (fun (x:List (Pln))=>Comp.pure (.next (x,zJ .i64 x_1.2 1)))
            fun (j :
              List (Pln)->Comp (Comp.Step (List (Pln)×Int) (List (Pln)))) =>
            if geI x 3=true then
             (idx c x_1.2).bind fun x=>(Go.F.jK x_1.1 x).bind fun x=>j x.1
            else j x_1.1
         else Comp.pure (.done x_1.1)))
   (fun l k hk hI=>by
    obtain⟨p,hp⟩:=zS (xs:=c) (k:=k) hk;refine⟨?_,?_,?_⟩
    ·rw[hp]
     simp only;rw[zLr (by rw[zH,zC];show (k:Int)<_;omega),zA]
     refine(zLi (fun o=>Option.bind o _) (U9 hp hX)).trans ?_
     rw[zLP,vk];by_cases h:3<=onn p (crn (c++bx0))
     ·rw[zLr (by rw[Ye];omega),zLr h,zA,zO hp,zLP,zA,NU (by omega),zLP,Comp.zB,zN (by omega)]
     ·rw[zLs (by rw[Ye];omega),zLs h,Comp.zB,zN (by omega)]
    ·rw[hp]
     simp only;have:=BL (p:=p) (l:=l)
     split<;>omega
    ·rw[drop_cons hp,hp]
     by_cases h:3<=onn p (crn (c++bx0))
     ·simp[List.filter_cons,h]
     ·simp[List.filter_cons,h])
   (fun n=>by rw[zLs (by rw[zH,zC];simp),Comp.zB]) (fun n=>by rw[List.drop_length];rfl) 0 [] (Nat.zero_le _) (by simp)
  rw[zA];refine(zLi (fun o=>Option.bind o _) h3).trans ?_
  rw[zLP,Comp.zB,List.drop_zero,Ng];rfl
abbrev Cell:=List Pln
def ja:List Cell->Int
 | []=>0
 |c::s=>if chk c=0 then ja s else chk c
def sck(s:List Cell):Int:=if 16<s.length then 2 else ja s
def sap(c:Cell)(s:List Cell):Bool:=s.all fun q=>apa c q
def yq(p:Pln):Pln:=((-p.1.1, -p.1.2.1, -p.1.2.2.1,()), -p.2.1,())
def gp:Cell->List Pln->List (Option Cell)
 |_,[]=>[]
 |rest,p::fs=>if 48<=rest.length then [none] else (bif decide (ln (rest++[yq p])=[]) then [] else [some (ln (rest++[yq p]))])++gp (ln (rest++[p])) fs
def vu:List (Option α)->Bool
 | []=>false
 |none::_=>true
 |some _::l=>vu l
def yM:List (Option α)->List α
 | []=>[]
 |none::l=>yM l
 |some x::l=>x::yM l
def wo(q:Cell):List Cell->List Cell->Option (List Cell)
 | [],out=>some out
 |x::xs,out=>if apa x q=true then wo q xs (out++[x]) else if vu (gp x (ln q))=true then none else wo q xs (out++yM (gp x (ln q)))
def wth(pieces:List Cell)(q:Cell):List Cell×Int :=
 if ful q=true then match wo q pieces [] with
  |none=>([],9)
  |some out=>if 200<out.length then ([],9) else (out,0)
 else (pieces,0)
def ZN:List Cell->List Cell->List Cell×Int
 |pcs,[]=>(pcs,0)
 |pcs,q::s=>if (wth pcs q).2=0 then ZN (wth pcs q).1 s else ([],(wth pcs q).2)
def mns(c:Cell)(s:List Cell):List Cell×Int:=if chk c=0 then if sck s=0 then if ful c=true then ZN [ln c] s else ([],0) else ([],sck s) else ([],chk c)
def cov(s:List Cell)(c:Cell):Bool×Int:=(decide ((mns c s).2=0) && decide ((mns c s).1.length=0),(mns c s).2)
theorem l7:∀ {fs:List Pln} {rest:Cell},(gp rest fs).length<=fs.length
 | [],_=>zLT _
 |p::fs,rest=>by
  have:=l7 (fs:=fs) (rest:=ln (rest++[p]));unfold gp;split
  ·simp
  ·cases decide (ln (rest++[yq p])=[])<;>simp<;>omega
theorem JO:∀ {l:List (Option α)},(yM l).length<=l.length
 | []=>zLT _
 |none::l=>by have:=JO (l:=l);simp only[yM,zLZ];omega
 |some _::l=>by have:=JO (l:=l);simp only[yM,zLZ];omega
theorem zAw:∀ {fs:List Pln} {rest:Cell} {c:Cell},some c∈gp rest fs->c≠[]
 | [],_,_,h=>by cases h
 |p::fs,rest,c,h=>by
  unfold gp at h;split at h
  ·simp at h
  ·rw[zLa]at h
   rcases h with h|h
   ·by_cases he:ln (rest++[yq p])=[]
    ·rw[zLu he]at h;cases h
    ·rw[zLt he]at h
     simp only[cond_false,List.mem_singleton,zLo]at h;subst h;exact he
   ·exact zAw h
theorem qV [DecidableEq α]{y:α}:∀ {l:List α} {x:α},y∈Jw x l->y∈l
 | [],_,h=>h
 |z::l,x,h=>by
  unfold Jw at h;split at h
  ·exact zLb _ (qV h)
  ·rcases zLV.1 h with rfl|h
   ·simp
   ·exact zLb _ (qV h)
theorem WN [DecidableEq α]{y:α}{l:List α}(h:y∈cpc l):y∈l:=by
 cases l with
 |nil=>exact h
 |cons x l =>
  rcases zLV.1 h with rfl|h
  ·simp
  ·exact zLb _ (qV h)
theorem V0{c:Cell}(h:ful c=true):chk c=0:=by
 unfold ful at h;rw[zLR]at h;simpa using h.1
theorem W1{c:Cell}:(ln c).length<=48/\∀p∈ln c,okB p:=by
 unfold ln
 cases hf:ful c with
 |false=>simp
 |true =>
  obtain⟨h1,h2⟩:=ZE (V0 hf);have h3:=mg (c:=c)
  refine⟨?_,fun p hp=>?_⟩
  ·have:=HK (l:=Xr (fac c))
   rw[qG]at this;show (cpc (Xr (fac c))).length<=48
   omega
  ·have:=KM.1 (WN (show p∈cpc (Xr (fac c)) from hp))
   exact h2 p (List.mem_filter.1 this).1
theorem E8{pieces:List Cell}{q:Cell}(h:pieces.length<=200):(wth pieces q).1.length<=200:=by
 unfold wth;split
 ·split
  ·simp
  ·split
   ·simp
   ·simp only;omega
 ·exact h
end Go.Geo
end
