/- Lemmas behind a claim. -/
import Derived.Test.YtieglkoekhbdpaaGreatKAfF
import Derived.Calls
import Derived.RunT
import Derived.Shelf.SlSortCmp.NoneTotal
import Derived.Ground.SlsfProg
import Derived.Test.YtieglkoekhbdpaaGreatProg
import Derived.Tactics
import Derived.Tactics2
import Derived.TacticsInMore
import Derived.SliceStrings
import Derived.ChangeSlices
import Derived.Lib.SmallJoins
import Derived.OpenShut
import Derived.ShutString
import Derived.ChangeOld
set_option linter.unusedSimpArgs false
set_option linter.unusedVariables false
open Go.Lift.Comp (run_pure)
section
namespace Go.Up
open Go
def EG(d:Nat){β:Type}(e:Except String (World×β)):Prop:=∀r,e=.ok r→r.1.drawn=d
theorem EG.bind{d:Nat}{α β:Type}{x:Except String α}{f:α→Except String (World×β)}(h:∀a,EG d (f a)):EG d (x >>= f):=by
 intro r hr
 cases x with
 |error e=>cases hr
 |ok a=>exact h a r hr
theorem EG.throw{d:Nat}{β:Type}{s:String}:EG d (MonadExcept.throw s:Except String (World×β)):=fun r hr=>by cases hr
theorem ph(p:Program)(w:World)(a:Addr)(u:TypeId)(k:Addr)(v:Value)(b:Bool):EG w.drawn (w.viewStore p a u k v b):=by
 unfold World.viewStore;dsimp only
 repeat' first
  |exact EG.throw
  |exact EG.error
  |(intro r hr;cases hr;rfl)
  |refine EG.bind fun _=>?_
  |split
theorem I1(w:World)(a:Addr)(n:Nat):(w.freeze a n).drawn=w.drawn:=by unfold World.freeze;split<;>rfl
theorem zDg{α:Type}(k:Ask α):∀(w:World),w.drawn≤(w.ask k).2.drawn:=by
 induction k with
 |done a=>intro w;exact zLF _
 |ask what range k ih =>
  intro w;unfold World.ask;simp only[];split
  ·exact ih _ _
  ·exact zLK (zLO _) (ih _ { w with drawn:=w.drawn+1 })
theorem zAc(w:World)(c:Sys):w.drawn≤(w.sys c).2.drawn:=by
 unfold World.sys;have h:=zDg (Kernel.perform c w.os) w
 split
 ·exact zLF _
 ·rename_i r os w' heq
  rw[heq]at h;exact h
def RU(d:Nat){α:Type}:Result α→Prop
 |.ok _ w=>d≤w.drawn
 |.halt _ w=>d≤w.drawn
theorem RU.le{d d':Nat}{α:Type}{r:Result α}(h:RU d r)(hd:d'≤d):RU d' r:=by
 cases r<;>exact zLK hd h
theorem AQ{p:Program}{w w':World}{a:Addr}{v:Value}{b:Bool}{l:List Addr}(h:w.farStore p a v b=.ok (w',l)):w'.drawn=w.drawn:=by
 unfold World.farStore at h;split at h
 ·split at h
  ·rename_i r hr
   cases h
   exact ph _ _ _ _ _ _ _ _ hr
  ·cases h
 ·cases h
theorem lD{α:Type}(p:Program)(e:Sem α):∀w:World,RU w.drawn (e.run p w):=by
 induction e with
 |pure a=>intro w;exact zLF _
 |load m a k ih =>
  intro w;simp only[Sem.run];split
  ·exact ih _ _
  ·split
   ·exact ih _ _
   ·exact zLF _
 |store m a v k ih =>
  intro w
  have key:RU w.drawn (match w.cell? a with
   |some _=>if w.frozen? a then .halt (.unsupported (.unsafePointer "a write to bytes that a string shares")) w else k.run p (w.setCell a v)
   |none=>match w.farStore p a v (m == .atomic) with
    |.ok (w,_)=>k.run p w
    |.error h=>.halt h w):=by
   split
   ·split
    ·exact zLF _
    ·exact(ih (w.setCell a v)).le (by unfold World.setCell;exact zLF _)
   ·split
    ·rename_i w' l hw
     exact(ih _).le (by rw[AQ hw];exact zLF _)
    ·exact zLF _
  cases v<;>first|exact key|exact zLF _
 |new o k ih=>intro w;exact ih _ { w with heap:=w.heap.push o }
 |shape r k ih=>intro w;exact ih _ _
 |freeze a n k ih=>intro w;exact(ih (w.freeze a n)).le (by rw[I1];exact zLF _)
 |frozen a k ih=>intro w;exact ih _ _
 |getObj r k ih =>
  intro w;simp only[Sem.run];split
  ·exact zLF _
  ·exact ih _ _
  ·exact zLF _
 |setObj r o k ih =>
  intro w;simp only[Sem.run];split
  ·exact zLF _
  ·exact ih { w with heap:=w.heap.setIfInBounds r o }
  ·exact zLF _
 |choose q k ih =>
  intro w;simp only[Sem.run];split
  ·exact ih _ _
  ·exact(ih _ { w with drawn:=w.drawn+1 }).le (zLO _)
 |sys c k ih=>intro w;exact(ih _ _).le (zAc w c)
 |program k ih=>intro w;exact ih _ _
 |mark m k ih=>intro w;exact ih _
 |halt h=>intro w;exact zLF _
theorem GJ{α:Type}(p:Program)(e:Sem α)(w:World)(es:Array Event):RU w.drawn (e.runT p w es).1:=by
 rw[Sem.runT_fst];exact lD p e w
theorem ZA{α:Type}{p:Program}{e:Sem α}{w w':World}{a:α}(h:e.run p w=.ok a w'):w.drawn≤w'.drawn:=by
 have:=lD p e w;rw[h]at this;exact this
theorem UU{α:Type}{p:Program}{e:Sem α}{w w':World}{a:Halt}(h:e.run p w=.halt a w'):w.drawn≤w'.drawn:=by
 have:=lD p e w;rw[h]at this;exact this
def GU(d:Nat):GStep→Prop
 |.go _ w _|.comm _ _ _ _ w _|.spawn _ _ w _|.count _ w _|.timer _ _ w _|.alone _ _ w _|.newcoro _ _ _ w _|.coroswitch _ _ _ w _|.collect _ w _|.watch _ w _=>d≤w.drawn
 |.ended _ _ _=>True
theorem GU.le{d d':Nat}{s:GStep}(h:GU d s)(hd:d'≤d):GU d' s:=by
 cases s<;>first|exact zLK hd h|trivial
theorem GU.after{d:Nat}{es:Array Event}{s:GStep}(h:GU d s):GU d (GStep.after es s):=by
 cases s<;>exact h
theorem QA(fr:Frame)(a:List ByteArray)(m:String)(b:Bool)(w:World):GU w.drawn (dieOf fr a m b w):=zLF _
theorem Zp(fr:Frame)(m:String)(w:World):GU w.drawn (endThrow fr m w):=zLF _
theorem JA(p:Program)(fr:Frame)(v:Value)(w:World):GU w.drawn (endPrinting p fr v w):=by
 unfold endPrinting;dsimp only;split
 ·exact Zp _ _ _
 ·trivial
theorem Df(w:World)(fd:Nat)(t:ByteArray)(o:Outcome):GU w.drawn (endWith w fd t o):=by
 unfold endWith;dsimp only;split
 ·split<;>trivial
 ·trivial
 ·trivial
theorem wu(p:Program)(fr:Frame)(callers:List Frame)(dying:Option Dying)(m:String)(w:World):GU w.drawn (endFatal p fr callers dying m w):=by
 unfold endFatal;dsimp only;split
 ·rename_i h;exact(QA _ _ _ _ _).le (ZA h)
 ·trivial
 ·trivial
theorem K7{α:Type}{p:Program}{e:Sem α}{w:World}{es:Array Event}{r:Result α×Array Event}(h:e.runT p w es=r):RU w.drawn r.1:=by rw[←h];exact GJ p e w es
theorem Cu(p:Program)(fr:Frame)(d:Dying)(f:Fatal)(w:World):GU w.drawn (writeOn p fr d f w):=by
 unfold writeOn;dsimp only;split
 ·trivial
 ·split
  ·rename_i h;exact K7 h
  ·rename_i h;exact K7 h
  ·trivial
  ·trivial
theorem Y3(p:Program)(main:Bool)(fr:Frame)(callers:List Frame)(dying:Option Dying)(v:Value)(w:World):GU w.drawn (doReturn p main fr callers dying v w):=by
 unfold doReturn;split
 ·split<;>exact zLF _
 ·split
  ·exact zLF _
  ·trivial
  ·split
   ·exact zLF _
   ·split
    ·exact zLF _
    ·trivial
theorem zDb(p:Program)(fr:Frame)(d:Dying)(w:World):GU w.drawn (die p fr d w):=by
 unfold die;dsimp only;split
 ·exact Cu _ _ _ _ _
 ·split
  ·split
   ·exact zLF _
   ·exact Df _ _ _ _
  ·split
   ·exact zLF _
   ·split
    ·rename_i h;exact ZA h
    ·trivial
   ·refine GU.after ?_
    generalize hr:(Sem.runT p _ w #[])=r;have h:=K7 hr
    clear hr;split<;>rename_i h'<;>first|trivial|skip
    ·rw[h']at h;exact h
    ·rw[h']at h;exact h
    ·rw[h']at h;exact(JA _ _ _ _).le h
   ·trivial
theorem GU.ite{d:Nat}{p:Prop}[Decidable p]{a b:GStep}(h1:GU d a)(h2:GU d b):GU d (if p then a else b):=by split<;>assumption
theorem uL(p:Program)(fr:Frame)(callers:List Frame)(dying:Option Dying)(d:Deferred)(w:World):GU w.drawn (callDeferred p fr callers dying d w):=by
 unfold callDeferred;refine GU.ite trivial ?_;dsimp only;refine GU.after ?_;generalize hr:(Sem.runT p _ w #[])=r;have h:=K7 hr
 clear hr;split<;>rename_i h'<;>rw[h']at h<;>first
  |trivial
  |exact h
  |exact(wu _ _ _ _ _ _).le h
  |exact(Zp _ _ _).le h
  |(split<;>exact h)
theorem IB(p:Program)(main:Bool)(fr:Frame)(callers:List Frame)(dying:Option Dying)(w:World):GU w.drawn (unwind p main fr callers dying w):=by
 unfold unwind;split
 ·dsimp only
  refine GU.after ?_;generalize hr:(Sem.runT p _ w #[])=r;have h:=K7 hr
  clear hr;split<;>rename_i h'<;>rw[h']at h<;>first|trivial|exact h
 ·exact uL _ _ _ _ _ _
 ·split
  ·trivial
  ·split
   ·trivial
   ·split
    ·exact zLF _
    ·split
     ·split
      ·exact zLF _
      ·split
       ·rename_i h;exact ZA h
       ·trivial
       ·trivial
     ·split
      ·exact JA _ _ _ _
      ·trivial
  ·split
   ·exact Y3 _ _ _ _ _ _ _
   ·dsimp only
    refine GU.after ?_;generalize hr:(Sem.runT p _ w #[])=r;have h:=K7 hr
    clear hr;split<;>rename_i h'<;>rw[h']at h<;>first|trivial|exact(Y3 _ _ _ _ _ _ _).le h
theorem N8(p:Program)(fr:Frame)(callers:List Frame)(dying:Option Dying)(g:Nat)(w:World):GU w.drawn (early p fr callers dying g w):=by
 have nY:∀w':World,w.drawn≤w'.drawn→GU w.drawn (match w'.heap[g]? with
  |some (.pending c elem)=>GStep.go { frame:=fr,callers,status:=.running,dying } { w' with heap:=w'.heap.setIfInBounds g (.cells c elem) }
  |_=>.ended (.stuck "early: the variable does not wait" (fr.pos p)) w'):=by
  intro w' h;split
  ·exact h
  ·trivial
 unfold early;dsimp only
 repeat' first
  |exact nY _ (zLF _)
  |trivial
  |exact zLF _
  |(rename_i h;exact nY _ (ZA h))
  |(rename_i h;exact ZA h)
  |split
theorem Km(p:Program)(listen:Bool)(fr:Frame)(callers:List Frame)(dying:Option Dying)(s:Sem Next)(w:World):GU w.drawn (stepG.apply p listen fr callers dying s w):=by
 unfold stepG.apply;dsimp only;refine GU.after ?_;have h:RU w.drawn (if listen then s.runT p w #[] else (s.run p w,#[])).1:=by
  split
  ·exact GJ _ _ _ _
  ·exact lD _ _ _
 generalize (if listen then s.runT p w #[] else (s.run p w,#[]))=r at h
 clear s;split<;>rename_i h'<;>rw[h']at h<;>first
  |trivial
  |exact h
  |exact(wu _ _ _ _ _ _).le h
  |exact(Zp _ _ _).le h
  |exact(N8 _ _ _ _ _ _).le h
  |exact GU.ite ((Zp _ _ _).le h) h
  |(split<;>first|exact h|exact(Zp _ _ _).le h)
theorem Uy(p:Program)(listen:Bool)(fr:Frame)(callers:List Frame)(dying:Option Dying)(w:World):GU w.drawn (stepG.oper p listen fr callers dying w):=by
 unfold stepG.oper;split
 ·trivial
 ·split<;>exact Km _ _ _ _ _ _ _
theorem GU.elim{d:Nat}{α:Type}{o:Option α}{a:GStep}{f:α→GStep}(h1:GU d a)(h2:∀x,GU d (f x)):GU d (o.elim a f):=by
 cases o
 ·exact h1
 ·exact h2 _
theorem Vb(p:Program)(main:Bool)(listen:Bool)(fr:Frame)(callers:List Frame)(dying:Option Dying)(w:World):GU w.drawn (stepG.exec p main listen fr callers dying w):=by
 unfold stepG.exec;dsimp only;split
 all_goals first
  |exact zLF _
  |trivial
  |exact Km _ _ _ _ _ _ _
  |(refine GU.elim ?_ (fun _=>zLF _);split;exact GU.ite (zLF _) trivial;refine GU.after ?_;generalize hr:(Sem.runT _ _ _ #[])=r;have h:=K7 hr;clear hr;split<;>rename_i h'<;>rw[h']at h<;>first|trivial|exact(Y3 _ _ _ _ _ _ _).le h)
  |(refine GU.elim trivial fun _=>Km _ _ _ _ _ _ _;done)
  |(split;exact GU.ite (zLF _) trivial;refine GU.after ?_;generalize hr:(Sem.runT _ _ _ #[])=r;have h:=K7 hr;clear hr;split<;>rename_i h'<;>rw[h']at h<;>first|trivial|exact(Y3 _ _ _ _ _ _ _).le h)
  |(refine GU.ite (Uy _ _ _ _ _ _) (zLF _);done)
  |(refine GU.ite (zLF _) ?_;split<;>rename_i h<;>first|trivial|exact ZA h)
  |(refine GU.after ?_;generalize hr:(Sem.runT p _ w #[])=r;have h:=K7 hr;clear hr;split<;>rename_i h'<;>rw[h']at h<;>first|trivial|exact h|exact(Km _ _ _ _ _ _ _).le h)
  |(split<;>first|exact zLF _|trivial)
theorem Mq(p:Program)(main:Bool)(g:Goroutine)(w:World)(listen:Bool):GU w.drawn (stepG p main g w listen):=by
 unfold stepG;dsimp only;split
 ·exact zDb _ _ _ _
 ·exact Vb _ _ _ _ _ _ _
 ·exact IB _ _ _ _ _ _
def SU(d:Nat):Stepped→Prop
 |.next m=>d≤m.world.drawn
 |.ended _ _=>True
theorem SU.le{d d':Nat}{s:Stepped}(h:SU d s)(hd:d'≤d):SU d' s:=by
 cases s<;>first|exact zLK hd h|trivial
theorem SU.ite{d:Nat}{p:Prop}[Decidable p]{a b:Stepped}(h1:SU d a)(h2:SU d b):SU d (if p then a else b):=by split<;>assumption
theorem SU.zEP{d:Nat}{β:Type}{p:Prop}[Decidable p]{a b:Stepped×β}(h1:SU d a.1)(h2:SU d b.1):SU d (if p then a else b).1:=by split<;>assumption
theorem Gl(p:Program)(gs:Array Goroutine)(rest:Rest)(w:World):SU w.drawn (look p gs rest w):=by
 unfold look;dsimp only;split
 ·refine SU.ite trivial ?_
  split
  ·trivial
  ·split<;>rename_i h<;>first
    |trivial
    |(have h1:=ZA h;exact h1)
 ·trivial
theorem pg{rest:Rest}{cases:Array CommCase}{w w':World}(h:waitingAt rest cases w=some w'):w'.drawn=w.drawn:=by
 unfold waitingAt at h;split at h
 ·split at h<;>cases h;rfl
 ·cases h;rfl
theorem tG(p:Program)(rest:Rest)(gs:Array Goroutine)(i:Nat)(g:Goroutine)(cases:Array CommCase)(blocking:Bool)(shape:CommShape)(w:World):SU w.drawn (communicate p rest gs i g cases blocking shape w).1:=by
 unfold communicate;dsimp only;refine SU.zEP trivial (SU.zEP (SU.zEP ?_ (zLF _)) ?_)
 ·split
  ·rename_i h;show _≤_;rw[pg h];exact zLF _
  ·trivial
 ·split
  ·trivial
  ·rename_i h
   have hu:=ZA h;clear h;split
   ·split
    ·rename_i h2;exact zLK hu (UU h2)
    ·trivial
   ·exact hu
   ·exact hu
   ·split
    ·exact hu
    ·split
     ·rename_i h2
      have h3:=zLK hu (ZA h2);exact h3
     ·trivial
   ·exact hu
   ·exact hu
   ·trivial
theorem N9(w:World)(c:Nat):(drain w c).2.drawn=w.drawn:=by unfold drain;split<;>rfl
theorem rp(m:Machine)(k:Nat)(t:Timer)(a b:Nat):(retime m k t a b).2.world.drawn=m.world.drawn:=by
 unfold retime;dsimp only;split
 ·exact N9 _ _
 ·rfl
theorem Ib{m m':Machine}{v:Addr}(h:timerOp.opened m v=some m'):m'.world.drawn=m.world.drawn:=by
 unfold timerOp.opened at h;split at h
 ·split at h<;>cases h;rfl
 ·cases h;rfl
theorem BP{m m1 m':Machine}{v:Addr}{f:Nat→Timer→Value×Machine}{u:Value}(hf:∀k t,(f k t).2.world.drawn=m1.world.drawn)(h:timerOp.named m v f=.ok (u,m')):m'.world.drawn=m1.world.drawn:=by
 unfold timerOp.named at h;split at h
 ·rename_i k hk
  have h3:=hf k (m.rest.timers.getD k default);injection h with h;rw[h]at h3;exact h3
 ·cases h
theorem Cw{m m':Machine}{op:TimerOp}{v:Value}(h:timerOp m op=.ok (v,m')):m'.world.drawn=m.world.drawn:=by
 unfold timerOp at h;split at h
 ·split at h
  ·cases h;rfl
  ·split at h
   ·split at h
    ·cases h
    ·cases h;rfl
   ·cases h
 ·exact BP (fun k t=>rp _ _ _ _ _) h
 ·split at h
  ·rename_i h1
   have:=BP (m1:=_) (fun k t=>rp _ _ _ _ _) h
   rw[this];exact Ib h1
  ·cases h
 ·cases h;rfl
theorem IM(p:Program)(m:Machine)(i:Nat)(listen:Bool):SU m.world.drawn (runT p m i listen).1:=by
 unfold runT;dsimp only;have h:=Mq p (i == 0) (m.gs.swapAt! i { (default:Goroutine) with status:=.finished }).1 m.world listen
 generalize stepG p (i == 0) (m.gs.swapAt! i { (default:Goroutine) with status:=.finished }).1 m.world listen=s at h
 cases s with
 |ended=>trivial
 |comm=>exact(tG _ _ _ _ _ _ _ _ _).le h
 |go=>exact h
 |spawn=>exact h
 |count=>exact SU.ite trivial h
 |alone=>exact h
 |collect=>exact(Gl _ _ _ _).le h
 |watch=>exact h
 |newcoro=>exact h
 |coroswitch g c exit w es =>
  dsimp only;split
  ·exact h
  ·exact h
  ·trivial
 |timer g op w es =>
  dsimp only;split
  ·rename_i h2
   have h3:=Cw h2;show _≤_
   rw[h3];exact h
  ·exact h
  ·trivial
  ·trivial
theorem M8(p:Program)(m:Machine)(k:Nat):SU m.world.drawn (serve p m k):=by
 unfold serve;dsimp only;split
 ·trivial
 ·exact zLF _
 ·split
  ·trivial
  ·exact zLF _
def VU(d:Nat):Move→Prop
 |.goroutine m _=>d≤m.world.drawn
 |.machine s _=>SU d s
theorem VU.le{d d':Nat}{s:Move}(h:VU d s)(hd:d'≤d):VU d' s:=by
 cases s with
 |goroutine m i=>exact zLK hd h
 |machine s ops=>exact SU.le h hd
theorem VU.ite{d:Nat}{p:Prop}[Decidable p]{a b:Move}(h1:VU d a)(h2:VU d b):VU d (if p then a else b):=by split<;>assumption
theorem qb(p:Program)(m:Machine):VU m.world.drawn (askOn p m):=by
 unfold askOn;dsimp only;split
 ·trivial
 ·rename_i h
  have hu:=ZA h;clear h;refine VU.ite ((M8 _ _ _).le hu) ?_;split
  ·split
   ·exact hu
   ·refine VU.ite hu ?_
    split<;>trivial
  ·split
   ·split
    ·trivial
    ·rename_i h
     have h1:=ZA h;refine VU.ite (zLK hu h1) ?_;split
     ·trivial
     ·rename_i h;have h2:=ZA h;exact zLK hu (zLK h1 h2)
   ·split
    ·trivial
    ·rename_i h
     have h0:=ZA h;split
     ·trivial
     ·rename_i h
      have h1:=ZA h;refine VU.ite (zLK hu (zLK h0 h1)) ?_;split
      ·trivial
      ·rename_i h;have h2:=ZA h;exact zLK hu (zLK h0 (zLK h1 h2))
    ·rename_i h
     have h0:=ZA h;exact zLK hu h0
    ·rename_i h
     have h0:=ZA h;split
     ·trivial
     ·rename_i h
      have h1:=ZA h;refine VU.ite (zLK hu (zLK h0 h1)) ?_;split
      ·trivial
      ·rename_i h;have h2:=ZA h;exact zLK hu (zLK h0 (zLK h1 h2))
theorem B9(p:Program)(m:Machine):VU m.world.drawn (ask p m):=by
 unfold ask;split
 ·split
  ·trivial
  ·rename_i h
   have h1:=ZA h;have h2:=Gl p m.gs m.rest ‹World›
   split
   ·rename_i m' h3;rw[h3]at h2;exact(qb _ _).le (zLK h1 h2)
   ·exact h2.le h1
  ·rename_i h
   have h1:=ZA h;exact(qb _ _).le h1
 ·exact qb _ _
theorem VQ(p:Program)(m:Machine):VU m.world.drawn (move p m):=by
 unfold move;split
 ·exact VU.ite (zLF _) trivial
 ·split
  ·exact VU.ite (zLF _) (B9 p _)
  ·exact B9 p m
theorem Ua{p:Program}{m m':Machine}(h:step p m=.next m'):m.world.drawn≤m'.world.drawn:=by
 unfold step stepT at h;have h1:=VQ p m
 split at h
 ·rename_i h2
  rw[h2]at h1;have h3:=IM p ‹Machine› ‹Nat› true
  rw[h]at h3;exact zLK h1 h3
 ·rename_i h2
  rw[h2]at h1;dsimp only at h;rw[h]at h1;exact h1
theorem Ul{p:Program}{n:Nat}:∀ {m m':Machine},runN p n m=.next m'→m.world.drawn≤m'.world.drawn:=by
 induction n with
 |zero=>intro m m' h;cases h;exact zLF _
 |succ n ih =>
  intro m m' h;unfold runN at h;split at h
  ·rename_i h1;exact zLK (Ua h1) (ih h)
  ·rename_i h1;exact absurd h (h1 _)
theorem B4{P:Program}{f:FuncId}{args:Array Value}{w:World}{R:Ending→World→Prop}(h:Calls P f args w R):Calls P f args w fun e w'=>R e w'∧(∀v,e=.returned v→w.drawn≤w'.drawn):=by
 intro cs;obtain⟨e,w',fr,h1,h2,h3⟩:=h cs;refine⟨e,w',fr,⟨h1,?_⟩,h2,h3⟩;rintro v rfl;obtain⟨n,hn⟩:=h2;exact Ul hn
end Go.Up
#print axioms Go.Up.B4
end
section
namespace Go.Den
open Go Go.RowKit Go.Eng Go.Lift
open Go.Sort (SWO grow ahead putRow Holds HoldsK flatK putRowK)
open Go.Proofs (ltOf CmpLays sortWorldK)
theorem qX:∀ {t:Ty},t.nar=true→∀x:t.D,(jm t x).length=t.sz:=by
 intro t
 induction t with
 |int k=>intro _ x;rfl
 |bool=>intro _ x;rfl
 |str=>intro _ x;rfl
 |nil=>intro _ x;rfl
 |cons a b iha ihb =>
  intro h x;simp only[Ty.nar,zLD]at h;simp only[jm,zLE,iha h.1,ihb h.2,Ty.sz]
 |_=>intro h;cases h
theorem N7:∀ {t:Ty},t.nar=true→∀x:t.D,∀v∈jm t x,v.oneCell'=true:=by
 intro t h x v hv;have:=G1 (mL h) v hv
 cases v<;>first|rfl|cases this
theorem N4{w w':World}(h:Ext w w')(hd:w.drawn≤w'.drawn):∃q os,w'=grow (w.drewN q) os:=by
 refine⟨w'.drawn-w.drawn,w'.heap.extract w.heap.size w'.heap.size,?_⟩;have h1:=h.os
 have h2:=h.tape;have h3:=h.output
 have h4:=h.size;have h5:=h.block
 obtain⟨hp,tp,dr,os,ou⟩:=w;obtain⟨hp',tp',dr',os',ou'⟩:=w';simp only at h1 h2 h3 h4 h5 hd;subst h1 h2 h3;unfold grow World.drewN;simp only
 congr 1
 ·apply Array.ext_getElem?
  intro i;by_cases hi:i<hp.size
  ·rw[Array.getElem?_append_left hi];exact h5 i hi
  ·rw[Array.getElem?_append_right (by omega),Array.getElem?_extract]
   by_cases h6:i<hp'.size
   ·rw[if_pos (by omega)];congr 1;omega
   ·rw[if_neg (by omega),Array.getElem?_eq_none (by omega)]
 ·omega
theorem QI{P:Program}{e:Ty}(hn:e.nar=true)(ha:e.agg=true)[Inhabited e.D]{cf:e.D→e.D→Int}{F:e.D×e.D×Unit→Comp (Int×Unit)}(hF:∀x y,∃n,(F (x,y,())).run n=some (cf x y,()))
  {O:zR} {w:World} (hO:OkO O w) {g:Nat} {cb:Array Value} (hg:FnOk P g)
  (h4:∀O' w',OkO O' w'→zg 0 O w O' w'→∀vs x,(Ty.cons e (.cons e .nil)).args P O' w' vs x→∀n y,(F x).run n=some y→H3 P (.func (.func g) #[] cb) vs.toArray w' (fun w'' v=>∃rs,kc rs v∧(Ty.cons (.int .i64) .nil).args P O' w'' rs y))
  {b:Nat} (hb:b<w.heap.size) (hob:O b≠0) (size:Nat):CmpLays P g cb (jm e) e.sz cf b 0 size w:=by
 intro m os dk hdk x y;obtain⟨n,hn'⟩:=hF x y;have hsz:w.heap.size≤(sortWorldK (jm e) e.sz w b 0 m dk os).heap.size:=by simp[sortWorldK,grow,putRowK,putRow,Go.Sort.mapBlock,ahead]
 have hold:∀c,c<w.heap.size→c≠b→(sortWorldK (jm e) e.sz w b 0 m dk os).heap[c]?=w.heap[c]?:=by
  intro c hc hne;unfold sortWorldK;rw[Go.Sort.heap_grow_old _ _ (by simpa[putRowK,putRow,Go.Sort.mapBlock,ahead] using hc)]
  simp[putRowK,putRow,Go.Sort.mapBlock,ahead,Array.getElem?_modify,Ne.symm hne]
 have hk:zg 0 O w O (sortWorldK (jm e) e.sz w b 0 m dk os):=⟨hsz,fun c hc h0=>⟨h0,hold c hc (fun e=>hob (e ▸ h0))⟩⟩
 have ho:OkO O (sortWorldK (jm e) e.sz w b 0 m dk os):=fun c hc=>hO c (by omega)
 have hv:∀x:e.D,(e.gr P).v O (sortWorldK (jm e) e.sz w b 0 m dk os) (.agg (jm e x).toArray) x:=fun x=>⟨_,ud hn x,by rw[Ty.jL,ha];rfl⟩
 obtain⟨f,ys,h5,h6⟩:=h4 O _ ho hk [.agg (jm e x).toArray,.agg (jm e y).toArray] (x,y,()) ⟨_,_,rfl,hv x,_,_,rfl,hv y,rfl⟩ n _ hn';obtain⟨fn,g1,g2,g3⟩:=hg.h;simp only[Deferred.ofValue,Sem.run_bind,Sem.run_pure,Result.andThen,invoke,callFunc,run_program,g1]at h5;simp[g2,g3]at h5;obtain⟨rfl,rfl⟩:=h5;refine Calls.mono (Go.Up.B4 h6) ?_;rintro e' w' ⟨⟨v,rfl,hE,rs,ht,v1,vs1,rfl,hv1,hvs⟩,hd⟩
 obtain⟨cs,hc1,hc2⟩:=hv1;rw[show cs=[Value.int .i64 (cf x y)] from hc1]at hc2
 have hvs':vs1=[]:=hvs;subst hvs';refine⟨?_,N4 hE (hd _ rfl)⟩;rcases ht with ht|ht
 ·cases ht
 ·rw[ht];show Ending.returned v1=_;rw[hc2];rfl
theorem tk{e:Ty}(ha:e.agg=true)(x:e.D):(gx e x).cells=(jm e x).toArray:=by unfold gx;rw[ha];rfl
theorem Az{e:Ty}(hn:e.nar=true){P:Program}{O:zR}{w:World}:∀ {vs:List Value} {xs:List e.D},yr (e.gr P) O w vs xs→vs=xs.map (gx e)
 | [],[],_=>rfl
 |v::vs,x::xs,h=>by rw[List.map_cons,←Az hn h.2,Sg (mL hn) h.1]
 | [],_::_,h=>h.elim
 |_::_,[],h=>h.elim
theorem rq{e:Ty}(hn:e.nar=true){P:Program}{O:zR}{w:World}:∀(xs:List e.D),yr (e.gr P) O w (xs.map (gx e)) xs
 | []=>trivial
 |x::xs=>⟨⟨_,ud hn x,by rw[Ty.jL];rfl⟩,rq hn xs⟩
section enc
variable {e:Ty} (hn:e.nar=true) (ha:e.agg=true)
include hn ha
theorem I3(x:e.D):(gx e x).cells.size=e.sz:=by rw[tk ha];simp[qX hn]
theorem lV(xs:List e.D):∀v∈xs.map (gx e),v.cells.size=e.sz:=by
 intro v hv;obtain⟨x,_,rfl⟩:=List.mem_map.1 hv;exact I3 hn ha x
theorem Bk [Inhabited e.D](xs:List e.D){t:Nat}(ht:t<xs.length * e.sz):(flat (xs.map (gx e)))[t]?=some ((flatK (jm e) e.sz xs.toArray)[t]!):=by
 have h0:0<e.sz:=Nat.pos_of_ne_zero fun h=>by rw[h]at ht;omega
 have hq:t / e.sz<xs.length:=Nat.div_lt_of_lt_mul (by rw[Nat.mul_comm];exact ht)
 have hr:t % e.sz<e.sz:=Nat.mod_lt _ h0;rw[Go.Sort.get_flatK _ _ _ _ (by simpa using ht)]
 have h1:=Zy (lV hn ha xs) (t / e.sz) (gx e xs[t / e.sz]) (by simp[hq]) (t % e.sz) hr
 rw[show t / e.sz * e.sz+t % e.sz=t from Nat.div_add_mod' t e.sz]at h1
 rw[h1,tk ha];have h2:t % e.sz<(jm e xs[t / e.sz]).length:=by rw[qX hn];exact hr
 simp[hq,h2]
theorem Dc [Inhabited e.D](xs:List e.D):(flatK (jm e) e.sz xs.toArray).toList=flat (xs.map (gx e)):=by
 apply List.ext_getElem?;intro t;by_cases ht:t<xs.length * e.sz
 ·rw[Bk hn ha xs ht,Array.getElem?_toList]
  have:t<(flatK (jm e) e.sz xs.toArray).size:=by simpa using ht
  rw[Array.getElem?_eq_getElem this,getElem!_pos _ t this]
 ·rw[List.getElem?_eq_none (by simpa using ht),List.getElem?_eq_none (by rw[JO (lV hn ha xs),List.length_map];omega)]
theorem Iz [Inhabited e.D]{w:World}{b:Nat}{cur:Array Value}{T:TypeId}{xs:List e.D}(hb:w.heap[b]?=some (.cells cur T (0,0)))(h:cur.toList.take (xs.length * e.sz)=flat (xs.map (gx e))):HoldsK (jm e) e.sz w b 0 xs.toArray:=by
 intro j hj;have hj':j<xs.length * e.sz:=by simpa using hj
 refine⟨?_,by simp[World.frozen?,hb]⟩
 have h1:=Bk hn ha xs hj';rw[←h,List.getElem?_take_of_lt hj']at h1;simp only[World.cell?,hb,Nat.zero_add];simp only[Option.isSome_none,Bool.false_eq_true,if_false];rw[←Array.getElem?_toList,h1];rfl
theorem Nw{P:Program}{ρ:Go.Shelf.Ren}(L:Go.Proofs.SlLaysF0.n6 P ρ)(aE:∀w,(isAgg (ρ.t 24)).run P w=.ok true w)(zE:∀w,(Go.sizeOf (ρ.t 24)).run P w=.ok e.sz w)[Inhabited e.D]{T:TypeId}
  {cf:e.D→e.D→Int} (hO:SWO (ltOf cf)) (hT:∀x y,(ltOf cf) x y=false→(ltOf cf) y x=false→x=y) {F:e.D×e.D×Unit→Comp (Int×Unit)} (hF:∀x y,∃n,(F (x,y,())).run n=some (cf x y,()))
  {O:zR} {w:World} (hw:OkO O w) {u v:Value} {xs:List e.D} (hA:Wm (e.gr P) T O w u xs) (hv:((Ty.fn (.cons e (.cons e .nil)) (.cons (.int .i64) .nil)).gr P).v O w v F) (hl:xs.length≤LIM) :
  Calls P (ρ.f 6) #[u,v] w (lq (e.gr P) T O w u (xs.mergeSort fun x y=>!(ltOf cf) y x) (zDz false u)):=by
 obtain⟨⟨vs,h1,h2⟩,h3⟩:=hA;have hvs:=Az hn h2
 subst hvs;obtain⟨cs,⟨u',e1,⟨e2,e3⟩,e4⟩,e5⟩:=hv;obtain⟨g,cb,rfl,hg⟩:=e3 rfl;have hvu:v=.func (.func g) #[] cb:=by rw[e5,e1];rfl
 subst hvu;have hlen:(xs.map (gx e)).length=xs.length:=List.length_map _
 have hsz:(e.gr P).sz=e.sz:=Ty.yk P e;rcases h1.row.2 with ⟨f1,f2⟩|⟨b,cap,cur,f1,f2,f3,f4,f5,f6,f7⟩
 ·have hx:xs=[]:=List.eq_nil_of_length_eq_zero (by omega)
  subst hx;subst f1;refine Calls.mono (Go.Proofs.AnyF.slices_SortFunc_none L none 0 _ w) ?_;rintro e' w' ⟨he,rfl⟩;exact⟨_,.slice none 0 0,he,⟨⟨rfl,rfl,rfl,zLF _,fun _ _ _=>rfl⟩,.inl rfl⟩,⟨[],OwnS.nil _ _ _ _,by simp[yr]⟩,rfl,rfl⟩
 ·unfold LIM at hl
  subst f1;rw[hlen]at f4 f7 h1 ⊢;rw[hsz]at f6 f7;have hb:b<w.heap.size:=(Array.getElem?_eq_some_iff.1 f3).1
  have hob:O b≠0:=h3 b rfl;have eg:∀args w,(callFunc g args).run P w=.ok (.enter g args) w:=by
   intro args w;obtain⟨fn,g1,g2,g3⟩:=hg.h;simp only[callFunc,Sem.run_bind,Sem.run_pure,Result.andThen,run_program,g1];simp[g2,g3]
  have hlays:=QI (P:=P) hn ha hF hw (cb:=cb) hg e4 hb hob xs.toArray.size;have hcall:=Go.Proofs.AnyQ.slices_SortFunc_total L e.sz aE zE (jm e) (qX hn) (N7 hn) cf hO g cb b 0 cap xs.toArray w eg hlays (Iz hn ha f3 f7) hb (by simp;omega) hT
  rw[List.size_toArray]at hcall;refine Calls.mono hcall ?_;rintro e' w' ⟨he,n,os,rfl⟩;simp only[];generalize hys:(xs.mergeSort fun x y=>!(ltOf cf) y x)=ys
  have hyl:ys.length=xs.length:=by rw[←hys];exact List.length_mergeSort xs
  have hheap:(sortWorldK (jm e) e.sz w b 0 n ys.toArray os).heap[b]?=some (.cells (Go.Sort.putCells id 0 (flatK (jm e) e.sz ys.toArray) cur) T (0,0)):=by
   unfold sortWorldK;rw[Go.Sort.heap_grow_old _ _ (by simpa[putRowK,putRow,Go.Sort.mapBlock,ahead] using hb)]
   simp[putRowK,putRow,Go.Sort.mapBlock,ahead,Array.getElem?_modify,f3,Go.Sort.onCells]
  have hgr:w.grownBy (sortWorldK (jm e) e.sz w b 0 n ys.toArray os) (some b):=by
   refine⟨rfl,rfl,rfl,by simp[sortWorldK,grow,putRowK,putRow,Go.Sort.mapBlock,ahead],fun k hk hne=>?_⟩
   unfold sortWorldK;rw[Go.Sort.heap_grow_old _ _ (by simpa[putRowK,putRow,Go.Sort.mapBlock,ahead] using hk)]
   have:b≠k:=fun e=>hne (by rw[e])
   simp[putRowK,putRow,Go.Sort.mapBlock,ahead,Array.getElem?_modify,this]
  have htake:(Go.Sort.putCells id 0 (flatK (jm e) e.sz ys.toArray) cur).toList.take (xs.length * e.sz)=flat (ys.map (gx e)):=by
   rw[←Dc hn ha ys];have hle:xs.length * e.sz≤cur.size:=by rw[f6];exact Nat.mul_le_mul_right _ f4
   apply List.ext_getElem?;intro j;by_cases hj:j<xs.length * e.sz
   ·have h5:j<cur.size:=by omega
    have h6:j<(flatK (jm e) e.sz ys.toArray).size:=by simpa[hyl] using hj
    rw[List.getElem?_take_of_lt hj,Array.getElem?_toList,Array.getElem?_toList,Array.getElem?_eq_getElem h6];simp only[Go.Sort.putCells,Array.getElem?_mapIdx,Array.getElem?_eq_getElem h5,Option.map_some,Nat.zero_le,true_and,Nat.zero_add,Nat.sub_zero];rw[if_pos h6,getElem!_pos _ j h6];rfl
   ·rw[List.getElem?_take_eq_none (by omega),List.getElem?_eq_none (by simpa[hyl] using hj)]
  refine⟨_,.slice (some ⟨b,0,none⟩) xs.length cap,he,⟨hgr,.inl rfl⟩,⟨ys.map (gx e),⟨?_,?_⟩,rq hn ys⟩,rfl,rfl⟩
  ·rw[hsz];exact lV hn ha ys
  ·rw[hsz,List.length_map,hyl]
   refine⟨by rw[JO (lV hn ha ys),List.length_map,hyl],.inr ⟨b,cap,_,rfl,Nat.zero_le _,hheap,f4,f5,?_,htake⟩⟩
   simp[Go.Sort.putCells,f6]
end enc
instance:Inhabited Pln:=⟨((0,0,0,()),0,())⟩
abbrev Sq:Ty:=.cons (.cons (.int .i64) (.cons (.int .i64) (.cons (.int .i64) .nil))) (.cons (.int .i64) .nil)
instance:Inhabited Sq.D:=⟨(((0:Int),(0:Int),(0:Int),()),(0:Int),())⟩
theorem JK(x y:Pln):ltOf Yv x y=true↔LtP x y:=by unfold ltOf;rw[decide_eq_true_iff];exact KI
theorem XO(x y:Pln):ltOf Yv x y=false↔¬LtP x y:=by rw[←JK];simp
theorem E6:SWO (ltOf Yv) where
 irrefl x:=(XO x x).2 LtP.irr
 trans x y z h1 h2:=(JK x z).2 (((JK x y).1 h1).trans ((JK y z).1 h2))
 ntrans x y z h1 h2:=by
  rw[XO]at *;intro h3;rcases LtP.tri y z with h|h|h
  ·exact h2 h
  ·subst h;exact h1 h3
  ·exact h1 (h3.trans h)
theorem I6(x y:Pln)(h1:ltOf Yv x y=false)(h2:ltOf Yv y x=false):x=y:=by
 rw[XO]at h1 h2;rcases LtP.tri x y with h|h|h
 ·exact absurd h h1
 ·exact h
 ·exact absurd h h2
theorem Iq(l:List Pln):(l.mergeSort fun x y=>!(ltOf Yv) y x)=Jq l:=by
 refine List.Perm.eq_of_pairwise (le:=fun p q=>¬LtP q p) (fun a b _ _ h1 h2=>?_) ?_ (Aq l) ((List.mergeSort_perm _ _).trans (rf l).symm)
 ·rcases LtP.tri a b with h|h|h
  ·exact absurd h h2
  ·exact h
  ·exact absurd h h1
 ·have:=List.pairwise_mergeSort (le:=fun x y:Pln=>!(ltOf Yv) y x) (fun a b c h1 h2=>?_) (fun a b=>?_) l
  ·refine this.imp fun {a b} h=>?_
   rw[←XO];simpa using h
  ·simp only[Bool.not_eq_true']at *
   exact E6.ntrans c b a h2 h1
  ·cases h1:ltOf Yv b a with
   |false=>rfl
   |true=>rw[(XO a b).2 fun h=>LtP.asym ((JK b a).1 h1) h];rfl
theorem M4{P:Program}{ρ:Go.Shelf.Ren}(L:Go.Proofs.SlLaysF0.n6 P ρ){dd:TypeDesc}{z:Value}{by_:Nat}(hT:Eng.Ty P (ρ.t 24) dd z 4 by_)(hd:vQ dd=true){T:TypeId}(hf:FnOk P (ρ.f 6)) :
  FO.ok P (ρ.f 6) ⟨Sq,T,.cons (.fn (.cons Sq (.cons Sq .nil)) (.cons (.int .i64) .nil)) .nil,false,fun xs x=>CT xs x.1⟩:=by
 refine⟨hf,fun O w hw u xs hA vs z hz n ys hy=>?_⟩
 obtain⟨v,vs1,rfl,hv,hvs⟩:=hz;rw[show vs1=[] from hvs]
 have hy':(CT xs z.1).run n=some ys:=hy;unfold CT at hy';split at hy'
 ·rename_i h
  have:=run_pure hy';subst this;have hm:=Iq xs
  have:=Nw (P:=P) (e:=Sq) rfl rfl L (fun w=>by rw[hT.YR,hd]) hT.z6 (T:=T) E6 I6 h.2 hw hA hv h.1
  refine Calls.mono this fun e w' he=>?_
  rw[←hm];exact he
 ·cases hy'
end Go.Den
end
section
namespace Go.Proofs
open Go.Shelf
def Tryz.rh:Go.Shelf.Ren:=⟨fun|6=>243|15=>262|14=>261|28=>274|29=>275|20=>266|21=>267|22=>268|23=>269|24=>270|25=>271|26=>272|27=>273|46=>277|47=>278|48=>279|49=>280|50=>281|57=>282|n=>n,fun|22=>101|24=>110|25=>270|3=>3|39=>278|0=>0|53=>290|55=>292|4=>4|46=>284|45=>283|50=>214|5=>5|9=>9|66=>293|70=>297|76=>299|77=>300|n=>n,fun|n=>n⟩
theorem Tryz.zEl:Go.Proofs.SlLaysF0.n6 Tryz.prog Tryz.rh:={
 mixed:=by kernel_rfl
 f6:=⟨Tryz.f243.name,by decide,Tryz.func243.trans (congrArg some (by kernel_rfl))⟩
 f14:=⟨Tryz.f261.name,by decide,Tryz.func261.trans (congrArg some (by kernel_rfl))⟩
 f15:=Tryz.func262.trans (congrArg some (by kernel_rfl))
 f20:=⟨Tryz.f266.name,by decide,Tryz.func266.trans (congrArg some (by kernel_rfl))⟩
 f21:=⟨Tryz.f267.name,by decide,Tryz.func267.trans (congrArg some (by kernel_rfl))⟩
 f22:=⟨Tryz.f268.name,by decide,Tryz.func268.trans (congrArg some (by kernel_rfl))⟩
 f23:=⟨Tryz.f269.name,by decide,Tryz.func269.trans (congrArg some (by kernel_rfl))⟩
 f24:=⟨Tryz.f270.name,by decide,Tryz.func270.trans (congrArg some (by kernel_rfl))⟩
 f25:=⟨Tryz.f271.name,by decide,Tryz.func271.trans (congrArg some (by kernel_rfl))⟩
 f26:=⟨Tryz.f272.name,by decide,Tryz.func272.trans (congrArg some (by kernel_rfl))⟩
 f27:=⟨Tryz.f273.name,by decide,Tryz.func273.trans (congrArg some (by kernel_rfl))⟩
 f28:=Tryz.func274.trans (congrArg some (by kernel_rfl))
 f29:=Tryz.func275.trans (congrArg some (by kernel_rfl))
 f46:=⟨Tryz.f277.name,by decide,Tryz.func277.trans (congrArg some (by kernel_rfl))⟩
 f47:=Tryz.func278.trans (congrArg some (by kernel_rfl))
 f48:=Tryz.func279.trans (congrArg some (by kernel_rfl))
 f49:=⟨Tryz.f280.name,by decide,Tryz.func280.trans (congrArg some (by kernel_rfl))⟩
 f50:=⟨Tryz.f281.name,by decide,Tryz.func281.trans (congrArg some (by kernel_rfl))⟩
 f57:=⟨Tryz.f282.name,by decide,Tryz.func282.trans (congrArg some (by kernel_rfl))⟩
 t0:=Tryz.underlying0
 a0:=Tryz.isAgg0
 z0:=Tryz.sizeOf0
 v0:=Tryz.zeroValue0
 t3:=Tryz.underlying3
 a3:=Tryz.isAgg3
 z3:=Tryz.sizeOf3
 v3:=Tryz.zeroValue3
 t4:=Tryz.underlying4
 a4:=Tryz.isAgg4
 z4:=Tryz.sizeOf4
 v4:=Tryz.zeroValue4
 t5:=Tryz.underlying5
 a5:=Tryz.isAgg5
 z5:=Tryz.sizeOf5
 v5:=Tryz.zeroValue5
 t9:=Tryz.underlying9
 a9:=Tryz.isAgg9
 z9:=Tryz.sizeOf9
 v9:=Tryz.zeroValue9
 t22:=Tryz.underlying101
 a22:=Tryz.isAgg101
 z22:=Tryz.sizeOf101
 v22:=Tryz.zeroValue101
 t25:=Tryz.underlying270
 a25:=Tryz.isAgg270
 z25:=Tryz.sizeOf270
 v25:=Tryz.zeroValue270
 t39:=Tryz.underlying278
 a39:=Tryz.isAgg278
 z39:=Tryz.sizeOf278
 v39:=Tryz.zeroValue278
 t45:=Tryz.underlying283
 a45:=Tryz.isAgg283
 z45:=Tryz.sizeOf283
 v45:=Tryz.zeroValue283
 t46:=Tryz.underlying284
 a46:=Tryz.isAgg284
 z46:=Tryz.sizeOf284
 v46:=Tryz.zeroValue284
 t50:=Tryz.underlying214
 a50:=Tryz.isAgg214
 z50:=Tryz.sizeOf214
 v50:=Tryz.zeroValue214
 t53:=Tryz.underlying290
 a53:=Tryz.isAgg290
 z53:=Tryz.sizeOf290
 v53:=Tryz.zeroValue290
 t55:=Tryz.underlying292
 a55:=Tryz.isAgg292
 z55:=Tryz.sizeOf292
 v55:=Tryz.zeroValue292
 t66:=Tryz.underlying293
 a66:=Tryz.isAgg293
 z66:=Tryz.sizeOf293
 v66:=Tryz.zeroValue293
 t70:=Tryz.underlying297
 a70:=Tryz.isAgg297
 z70:=Tryz.sizeOf297
 v70:=Tryz.zeroValue297
 t76:=Tryz.underlying299
 a76:=Tryz.isAgg299
 z76:=Tryz.sizeOf299
 v76:=Tryz.zeroValue299
 t77:=Tryz.underlying300
 a77:=Tryz.isAgg300
 z77:=Tryz.sizeOf300
 v77:=Tryz.zeroValue300 }
end Go.Proofs
end
section
set_option maxRecDepth 20000
namespace Go.Dn
open Go Go.Proofs Go.RowKit Go.Eng Go.Lift Go.Den
def lf(f:Func):Code:=f.body.getD .skip
theorem zGu{α:Type}{l:List α}(h:l.length=4):∃a b c d,l=[a,b,c,d]:=by
 match l,h with
 | [a,b,c,d],_=>exact⟨a,b,c,d,rfl⟩
theorem zAq:RecG prog 110 Tryz.f110 (cl (lf Tryz.f110)) (cr (lf Tryz.f110)) 4 4 5 41 t41:=by
 have hT:=(zEc 41 i41 (by kernel_rfl)).ty
 have hu2:∀w,(underlying 41).run prog w=.ok (.int .i64) w:=fun w=>by simp only[underlying,hT.u];rfl
 have hz:∀w,(zeroValue 41).run prog w=.ok i41.z w:=hT.ZH;have hfn:∀g,Fence.wide.fn g:=fun _=>trivial
 refine⟨Tryz.func110,⟨_,Tryz.func110,rfl,by kernel_rfl⟩,rfl,Tryz.results110,by decide,fun caps hc c₀ cs w v hv hu Q hQ=>?_,fun caps hc c₀ cs w hu Q hQ=>?_⟩
 ·obtain⟨a,b,c,d,rfl⟩:=zGu hc
  dsimp only [cl,lf,Tryz.f110,Option.getD];apply wpSIn_region;show wpOpsSIn _ _ _ _ _ [0,1,2,3,4,5,6] _ _ _
  simp[wpOpsSIn,go_sem,recoverD,hu,Instr.typeAssert,hu2,hfn,Act.eval,Act.put];refine hQ _ w (Ext.refl w) ⟨?_,rfl⟩ ?_ ?_ ?_
  ·simp
  ·intro i u hi
   match i,hi with
   |0,hi=>simpa[Act.get] using hi
   |1,hi=>simpa[Act.get] using hi
   |2,hi=>simpa[Act.get] using hi
   |3,hi=>simpa[Act.get] using hi
  ·simp[Act.get]
  ·simp[Act.get]
 ·obtain⟨a,b,c,d,rfl⟩:=zGu hc
  dsimp only [cl,lf,Tryz.f110,Option.getD];apply wpSIn_region;show wpOpsSIn _ _ _ _ _ [0,1,2,3,4,5,6] _ _ _
  simp[wpOpsSIn,go_sem,recoverD,hu,Instr.typeAssert,hu2,hfn,hz,Act.eval,Act.put];refine hQ _ w (Ext.refl w) ⟨?_,rfl⟩ ?_ ?_
  ·simp
  ·intro i u hi
   match i,hi with
   |0,hi=>simpa[Act.get] using hi
   |1,hi=>simpa[Act.get] using hi
   |2,hi=>simpa[Act.get] using hi
   |3,hi=>simpa[Act.get] using hi
  ·simp[Act.get]
end Go.Dn
end
noncomputable section
set_option maxRecDepth 200000
namespace Go.Dn
open Go Go.Proofs Go.RowKit Go.Eng Go.Lift Go.Den
def zHp:Ty:=.seq (.cons Sr .nil)
def zHo:Ty:=.seq (.cons (.slo t110) .nil)
open Go.F Go.Proofs.Tryz
abbrev sz(h:H):H:=.s .z h
abbrev kv(n:Nat)(t:Ty):Bool×Nat×Knd:=(false,n,.v t)
abbrev kw(n:Nat)(t:Ty):Bool×Nat×Knd:=(true,n,.v t)
abbrev ko(n:Nat)(t:Ty)(T:Nat):Bool×Nat×Knd:=(false,n,.o true t T)
def s59:FS:=⟨(.cons t108 (.cons t108 .nil)),(.cons t101 .nil),[some 110],fun x=>zw x.1 x.2.1⟩
theorem Hj:s59.ok prog 59:=fS (E0) .z func59
def s54:FS:=⟨(.cons t3 (.cons t3 .nil)),(.cons t101 .nil),[some 110],fun x=>zy x.1 x.2.1⟩
theorem W9:s54.ok prog 54:=fS ((E0).S Hj) .z func54
def zKE:FS:=⟨(.cons t30 .nil),(.cons t33 .nil),[none],fun x=>jP x.1⟩
theorem RB:zKE.ok prog 115:=fS (E0) (sz (.s (.xr [3,9] [0,1,2,4,5,6,7,3,8,9] [(4,[]),(5,[]),(6,[]),(7,[])]) .z)) func115
def s51:FJ:=⟨.nil,(.pr (.ag (.pr (.v t30) (.pr (.v t33) (.pr (.o true t64 64) .un)))) .un),fun x=>y8 ⟩
theorem zFH:s51.ok prog 51:=fJ (((E0).S RB).S W9) (sz (sz (.s (.f [1] (.xr [2,4,16,18] [0,1,2,3,6,7,8,9,10,11,12,13,14,15,4,5,16,17,18] [(0,[]),(6,[]),(7,[]),(8,[]),(9,[]),(10,[]),(11,[]),(12,[]),(13,[]),(14,[]),(15,[])])) .z))) func51
def zJj:FS:=⟨(.cons t101 .nil),(.cons t101 .nil),[some 110],fun x=>zU x.1⟩
theorem Eb:zJj.ok prog 144:=fS (E0) .z func144
def s71:FS:=⟨(.cons t28 .nil),(.cons t28 .nil),[some 101],fun x=>Zr x.1⟩
theorem W5:s71.ok prog 71:=fS ((E0).S Eb) (sz (sz (.s (sz (.b (.l ⟨[ko 3 t101 101,kv 8 t3],[6,7],[8]⟩ [(some 0,⟨[ko 3 t101 101],[],[]⟩)] .z))) .z))) func71
def zJv:FS:=⟨(.cons t23 .nil),(.cons t23 .nil),[some 3],fun x=>jo x.1⟩
theorem zCU:zJv.ok prog 125:=fS (E0) .z func125
def s60:FJ:=⟨(.cons t114 (.cons t23 .nil)),(.pr (.ag (.pr (.v t9) (.pr (.o true t101 101) (.pr (.o true t3 3) .un)))) .un),fun x=>gX x.1 x.2.1⟩
theorem W8:s60.ok prog 60:=fJ (((E0).S zCU).S W5) .z func60
def zJu:FS:=⟨(.cons t3 .nil),(.cons t4 .nil),[none],fun x=>gG x.1⟩
theorem zCT:zJu.ok prog 126:=fS (E0) .z func126
def zJP:FS:=⟨(.cons t23 (.cons t127 .nil)),(.cons t3 .nil),[none],fun x=>kN x.1 x.2.1⟩
theorem zCD:zJP.ok prog 182:=fS (E0) (sz (.s (sz (.b (.l ⟨[kv 8 t3],[0,1,7],[8]⟩ [(some 0,⟨[],[],[]⟩),(none,⟨[kv 4 t3],[],[4]⟩)] .z))) .z)) func182
def zJt:FS:=⟨(.cons t23 (.cons t127 .nil)),(.cons t4 .nil),[none],fun x=>zn x.1 x.2.1⟩
theorem Q7:zJt.ok prog 127:=fS ((E0).S zCD) .z func127
def zJE:FS:=⟨(.cons t28 (.cons t185 .nil)),(.cons t3 .nil),[none],fun x=>yO x.1 x.2.1⟩
theorem Qx:zJE.ok prog 196:=fS (E0) (sz (.s (sz (.b (.l ⟨[kv 8 t3],[0,1,7],[8]⟩ [(some 0,⟨[],[],[]⟩),(none,⟨[kv 4 t3],[],[4]⟩)] .z))) .z)) func196
def zJk:FS:=⟨(.cons t28 (.cons t185 .nil)),(.cons t4 .nil),[none],fun x=>zG x.1 x.2.1⟩
theorem qj:zJk.ok prog 143:=fS ((E0).S Qx) .z func143
def zIl:FS:=⟨(.cons t101 (.cons t228 .nil)),(.cons t3 .nil),[none],fun x=>yN x.1 x.2.1⟩
theorem Qt:zIl.ok prog 218:=fS (E0) (sz (.s (sz (.b (.l ⟨[kv 8 t3],[0,1,7],[8]⟩ [(some 0,⟨[],[],[]⟩),(none,⟨[kv 4 t3],[],[4]⟩)] .z))) .z)) func218
def zJH:FS:=⟨(.cons t101 (.cons t228 .nil)),(.cons t4 .nil),[none],fun x=>zb x.1 x.2.1⟩
theorem Qy:zJH.ok prog 193:=fS ((E0).S Qt) .z func193
def zIk:FS:=⟨(.cons t3 (.cons t23 .nil)),(.cons t4 .nil),[none],fun x=>jM x.1 x.2.1⟩
theorem zBm:zIk.ok prog 219:=fS (E0) (sz (.s (sz (.b (.l ⟨[kv 9 t3],[0,7,8],[9]⟩ [(some 0,⟨[],[],[]⟩),(none,⟨[kv 4 t4],[],[4]⟩)] .z))) .z)) func219
def zIQ:FS:=⟨(.cons t3 .nil),(.cons t3 .nil),[none],fun x=>jx x.1⟩
theorem zBV:zIQ.ok prog 239:=fS (E0) .z func239
def zIj:FS:=⟨(.cons t23 .nil),(.cons t3 .nil),[none],fun x=>Zh x.1⟩
theorem zBl:zIj.ok prog 220:=fS ((E0).S zBV) (sz (sz (.s (sz (.b (.l ⟨[kv 3 t3,kv 8 t3],[6,7],[3,8]⟩ [(some 0,⟨[kv 3 t3],[],[3]⟩),(none,⟨[kv 2 t3],[],[2]⟩)] (sz (sz (.s (.b (sz (sz (sz (.b (.l ⟨[kv 3 t3,kv 5 t3],[6,7,8],[3,5]⟩ [(some 2,⟨[kv 3 t3],[6,7,8],[3]⟩)] .z)))))) .z)))))) .z))) func220
def zJF:FS:=⟨(.cons t110 .nil),(.cons t4 .nil),[none],fun x=>Y0 x.1⟩
theorem zBz:zJF.ok prog 195:=fS (((E0).S zBl).S zBm) (sz (.s (.xg ⟨[kv 2 t4],[],[2]⟩) .z)) func195
def zJG:FS:=⟨(.cons t110 .nil),(.cons t4 .nil),[none],fun x=>jY x.1⟩
theorem zCA:zJG.ok prog 194:=fS ((E0).S zBz) .z func194
def zJl:FS:=⟨(.cons t101 .nil),(.cons t41 .nil),[none],fun x=>vP x.1⟩
theorem KG:zJl.ok prog 142:=fS (((E0).S zCA).S Qy) .z func142
def zIv:FS:=⟨(.cons t101 .nil),(.cons t4 .nil),[none],fun x=>jX x.1⟩
theorem zBr:zIv.ok prog 207:=fS ((E0).S KG) .z func207
def zJO:FS:=⟨(.cons t28 .nil),(.cons t4 .nil),[none],fun x=>Zc x.1⟩
theorem Ea:zJO.ok prog 183:=fS (((E0).S zBr).S qj) .z func183
def zIa:FS:=⟨(.cons t3 .nil),(.cons t101 .nil),[some 110],fun x=>vv x.1⟩
theorem zBe:zIa.okN prog 229:=fN (E0) (sz (.s (sz (.j ⟨[],[0,1],[]⟩ .z .z)) (.s (sz (sz (.j ⟨[ko 0 t110 110],[],[]⟩ (.xg ⟨[ko 0 t110 110],[],[]⟩) .z))) .z))) func229
def zIu:FS:=⟨(.cons t28 .nil),(.cons t101 .nil),[some 110],fun x=>zQ x.1⟩
theorem Qw:zIu.ok prog 208:=fS ((E0).N zBe) (sz (sz (.s (sz (.b (.l ⟨[kv 3 t3,kv 11 t3],[0,9,10],[3,11]⟩ [(some 0,⟨[kv 3 t3],[0],[3]⟩)] (sz (sz (.s (.b (sz (sz (sz (.j ⟨[],[0,3,9,10,11],[]⟩ .z .z))))) .z)))))) (sz (.s (sz (.b (.l ⟨[ko 6 t110 110,kv 27 t3],[25,26],[27]⟩ [(some 2,⟨[ko 6 t110 110],[],[]⟩)] .z))) .z))))) func208
def zJN:FS:=⟨(.cons t28 .nil),(.cons t223 .nil),[some 110],fun x=>cell_of x.1⟩
theorem EZ:zJN.ok prog 184:=fS ((E0).S Qw) (sz (sz (.s (sz (.b (.l ⟨[ko 3 t110 110,kv 16 t3],[14,15],[16]⟩ [(some 0,⟨[ko 3 t110 110],[],[]⟩)] .z))) .z))) func184
def zIF:GS:=⟨(.cons (.box t223) .nil),(.cons Sr .nil),fun x=>vu x.1⟩
theorem zBK:zIF.ok prog 250:=fQ (E0) (sz (.b (.l ⟨[kv 11 t3],[0,1,9,10],[11]⟩ [(some 0,⟨[],[],[]⟩),(none,⟨[],[],[]⟩)] (sz (sz (.s (.b (sz (.s (.f [4] .z) (.b (.l ⟨[kv 21 t3],[0,1,3,4,9,10,11,19,20],[21]⟩ [(some 2,⟨[],[0,1,9,10,11],[]⟩),(none,⟨[],[],[]⟩)] (sz (sz (.s (.b (sz (.s (.f [6] .z) (.b (.l ⟨[kv 33 t3],[0,1,3,4,6,9,10,11,19,20,21,31,32],[33]⟩ [(some 4,⟨[],[0,1,3,4,9,10,11,19,20,21],[]⟩),(none,⟨[],[],[]⟩)] (sz (sz (.s (.b (sz (.s (.f [8] .y) .z))) .z)))))))) .z)))))))) .z)))))) func250
def zIZ:FS:=⟨(.cons t223 .nil),(.cons zHp .nil),[none],fun x=>kJ x.1⟩
theorem zBd:zIZ.ok prog 230:=fS ((E0).Q zBK) (sz (.s (.f [1] .z) .z)) func230
def zIE:FS:=⟨(.cons t108 (.cons t108 .nil)),(.cons t108 .nil),[none],fun x=>Zn x.1 x.2.1⟩
theorem zBJ:zIE.ok prog 251:=fS (E0) .z func251
def zIU:FS:=⟨(.cons t108 (.cons t108 .nil)),(.cons t3 .nil),[none],fun x=>Ze x.1 x.2.1⟩
theorem Qr:zIU.ok prog 235:=fS (E0) .z func235
def zIC:FS:=⟨(.cons t108 (.cons t3 .nil)),(.cons t108 .nil),[none],fun x=>Yi x.1 x.2.1⟩
theorem zBH:zIC.ok prog 253:=fS (E0) .z func253
def zID:FS:=⟨(.cons t108 (.cons t108 .nil)),(.cons t108 .nil),[none],fun x=>XN x.1 x.2.1⟩
theorem zBI:zID.ok prog 252:=fS (E0) .z func252
def zIB:FS:=⟨(.cons t23 .nil),(.cons t3 .nil),[none],fun x=>Kj x.1⟩
theorem zBG:zIB.ok prog 254:=fS (E0) (sz (sz (.s (sz (.b (.l ⟨[kv 3 t3,kv 8 t3],[6,7],[3,8]⟩ [(some 0,⟨[kv 3 t3],[],[3]⟩)] (sz (sz (.s (.b (sz (.b (.l ⟨[kv 3 t3,kv 5 t3],[6,7,8],[3,5]⟩ [(some 2,⟨[kv 3 t3],[6,7,8],[3]⟩)] .z)))) .z)))))) .z))) func254
def zIY:FS:=⟨(.cons Sr .nil),(.cons t241 (.cons t4 .nil)),[none,none],fun x=>XP x.1⟩
theorem zBc:zIY.ok prog 231:=fS ((((((E0).S zBG).S zBI).S zBH).S Qr).S zBJ) (sz (sz (sz (.s (sz (.b (.l ⟨[kv 5 t3,kv 11 t3,kw 4 t108],[1,2,4,10],[5,11,4]⟩ [(some 0,⟨[kv 5 t3,kw 4 t108],[2,4],[5,4]⟩)] (sz (sz (.s (.b (sz (.s (.xr [13,14] [0,1,2,3,4,5,6,7,8,9,10,11,12,13,14] [(0,[]),(1,[]),(2,[]),(3,[]),(4,[]),(5,[]),(6,[]),(7,[]),(8,[]),(9,[]),(10,[]),(11,[]),(12,[])]) .z))) .z)))))) (sz (sz (.s (sz (.j ⟨[kv 9 t3],[2,4,5],[9]⟩ .z .z)) .z))))))) func231
def zIo:FS:=⟨(.cons t110 (.cons t241 .nil)),(.cons t3 .nil),[none],fun x=>Zg x.1 x.2.1⟩
theorem EW:zIo.ok prog 214:=fS ((E0).S Qr) .z func214
def zIA:FS:=⟨(.cons t110 (.cons (.box t241) .nil)),(.cons t4 .nil),[none],fun x=>jF x.1 x.2.1⟩
theorem zBF:zIA.ok prog 255:=fS ((E0).S EW) .z func255
def zIX:FS:=⟨(.cons t101 (.cons t241 .nil)),(.cons t4 .nil),[none],fun x=>Zq x.1 x.2.1⟩
theorem zBb:zIX.ok prog 232:=fS (((E0).S Qy).S zBF) .z func232
def zIt:FS:=⟨(.cons t223 .nil),(.cons t236 .nil),[some 241],fun x=>vo x.1⟩
theorem Qv:zIt.ok prog 209:=fS ((((E0).S zBb).S zBc).S zBd) (sz (sz (sz (.s (sz (.b (.l ⟨[(true,3,(.o true t241 241)),(true,4,(.m true t241 t4))],[1,3,4,10],[]⟩ [] (sz (.b (sz (sz (.j ⟨[(true,3,(.o true t241 241)),(true,4,(.m true t241 t4))],[1,3,4,10],[]⟩ .z .z)))))))) .z)))) func209
def zIp:FS:=⟨(.cons t241 (.cons (.box t110) .nil)),(.cons t4 .nil),[none],fun x=>yW x.1 x.2.1⟩
theorem zBn:zIp.ok prog 213:=fS ((E0).S EW) .z func213
def zIV:FS:=⟨(.cons t236 (.cons t243 .nil)),(.cons t3 .nil),[none],fun x=>vk x.1 x.2.1⟩
theorem zBZ:zIV.ok prog 234:=fS (E0) (sz (.s (sz (.b (.l ⟨[kv 8 t3],[0,1,7],[8]⟩ [(some 0,⟨[],[],[]⟩),(none,⟨[kv 4 t3],[],[4]⟩)] .z))) .z)) func234
def zIq:FS:=⟨(.cons t236 (.cons t243 .nil)),(.cons t4 .nil),[none],fun x=>yR x.1 x.2.1⟩
theorem zBo:zIq.ok prog 212:=fS ((E0).S zBZ) .z func212
def zIr:FS:=⟨(.cons t110 (.cons (.box t236) .nil)),(.cons t4 .nil),[none],fun x=>y9 x.1 x.2.1⟩
theorem zBp:zIr.ok prog 211:=fS (((E0).S zBo).S zBn) .z func211
def zIW:FS:=⟨(.cons t223 (.cons t228 .nil)),(.cons t3 .nil),[none],fun x=>vV x.1 x.2.1⟩
theorem zBa:zIW.ok prog 233:=fS (E0) (sz (.s (sz (.b (.l ⟨[kv 8 t3],[0,1,7],[8]⟩ [(some 0,⟨[],[],[]⟩),(none,⟨[kv 4 t3],[],[4]⟩)] .z))) .z)) func233
def zIs:FS:=⟨(.cons t223 (.cons t228 .nil)),(.cons t4 .nil),[none],fun x=>yI x.1 x.2.1⟩
theorem zBq:zIs.ok prog 210:=fS ((E0).S zBa) .z func210
def zJM:FS:=⟨(.cons t223 .nil),(.cons t4 .nil),[none],fun x=>jC x.1⟩
theorem Q0:zJM.ok prog 185:=fS ((((E0).S zBq).S zBp).S Qv) .z func185
def zJs:FS:=⟨(.cons t101 .nil),(.cons t4 .nil),[none],fun x=>kG x.1⟩
theorem lK:zJs.ok prog 128:=fS ((((E0).S Q0).S EZ).S Ea) (sz (.s (.xg ⟨[kv 2 t4],[],[2]⟩) .z)) func128
def zJh:FS:=⟨(.cons t101 (.cons t101 .nil)),(.cons t4 .nil),[none],fun x=>j7 x.1 x.2.1⟩
theorem lH:zJh.ok prog 146:=fS ((((E0).S Q0).S EZ).S Ea) (sz (.s (.xg ⟨[kv 4 t4],[],[4]⟩) .z)) func146
def zJi:FS:=⟨(.cons t101 (.cons (.box t101) .nil)),(.cons t4 .nil),[none],fun x=>jD x.1 x.2.1⟩
theorem zCO:zJi.ok prog 145:=fS ((E0).S lH) .z func145
def s72:FS:=⟨(.cons t101 (.cons t28 .nil)),(.cons t4 .nil),[none],fun x=>yU x.1 x.2.1⟩
theorem Ce:s72.ok prog 72:=fS (((E0).S qj).S zCO) .z func72
def s61:FS:=⟨(.cons t30 .nil),(.cons t41 .nil),[none],fun x=>j3 x.1⟩
theorem Hi:s61.ok prog 61:=fS (((((E0).S Ce).S lK).S Q7).S zCT) (sz (sz (sz (sz (.s (sz (.b (.l ⟨[kv 32 t3],[1,30,31],[32]⟩ [(some 1,⟨[],[],[]⟩),(none,⟨[kv 2 t41],[],[2]⟩)] .z))) .z))))) func61
def s16:FS:=⟨(.cons t30 (.cons t23 .nil)),(.cons t30 (.cons t41 .nil)),[none,none],fun x=>gK x.1 x.2.1⟩
theorem zAD:s16.ok prog 16:=fS (((E0).S Hi).J W8) (sz (sz (.s .y .z))) func16
def zJJ:FS:=⟨(.cons t101 .nil),(.cons t4 .nil),[none],fun x=>jN x.1⟩
theorem zCC:zJJ.ok prog 188:=fS ((E0).S KG) .z func188
def zJp:FS:=⟨(.cons t30 (.cons t33 .nil)),(.cons t4 .nil),[none],fun x=>JY x.1 x.2.1⟩
theorem zCS:zJp.ok prog 132:=fS (((E0).S qj).S zCC) .z func132
def zJD:FS:=⟨(.cons t3 .nil),(.cons t28 .nil),[some 101],fun x=>vw x.1⟩
theorem zBy:zJD.okN prog 197:=fN (E0) (sz (.s (sz (.j ⟨[],[0,1],[]⟩ .z .z)) (.s (sz (sz (.j ⟨[ko 0 t101 101],[],[]⟩ (.xg ⟨[ko 0 t101 101],[],[]⟩) .z))) .z))) func197
def zJf:FS:=⟨(.cons t230 .nil),(.cons t28 .nil),[some 101],fun x=>zY x.1⟩
theorem Q5:zJf.ok prog 149:=fS ((E0).N zBy) (sz (sz (.s (sz (.b (.l ⟨[kv 3 t3,kv 11 t3],[0,9,10],[3,11]⟩ [(some 0,⟨[kv 3 t3],[0],[3]⟩)] (sz (sz (.s (.b (sz (sz (sz (.j ⟨[],[0,3,9,10,11],[]⟩ .z .z))))) .z)))))) (sz (.s (sz (.b (.l ⟨[ko 6 t101 101,kv 27 t3],[25,26],[27]⟩ [(some 2,⟨[ko 6 t101 101],[],[]⟩)] .z))) .z))))) func149
def zJa:FS:=⟨(.cons t23 .nil),(.cons t4 .nil),[none],fun x=>j0 x.1⟩
theorem Q3:zJa.ok prog 154:=fS (E0) (sz (.s (sz (.b (.l ⟨[kv 3 t3],[0],[3]⟩ [(some 0,⟨[],[],[]⟩),(none,⟨[kv 2 t4],[],[2]⟩)] .z))) .z)) func154
def zJo:FS:=⟨(.cons t34 (.cons t3 .nil)),(.cons t41 .nil),[none],fun x=>Zo x.1 x.2.1⟩
theorem zCR:zJo.ok prog 133:=fS ((((E0).S Q3).S KG).S Q5) (sz (sz (.s (sz (.b (.l ⟨[kv 22 t3],[0,1,5,20,21],[22]⟩ [(some 0,⟨[],[0,1,5],[]⟩),(none,⟨[kv 4 t41],[],[4]⟩)] .z))) (sz (.s (sz (.b (.l ⟨[kv 43 t3],[0,1,5,41,42],[43]⟩ [(some 2,⟨[],[5],[]⟩),(none,⟨[kv 4 t41],[],[4]⟩)] .z))) .z))))) func133
def s64:FS:=⟨(.cons t36 .nil),(.cons t41 .nil),[none],fun x=>kf x.1⟩
theorem Hh:s64.ok prog 64:=fS ((((E0).S zCR).S zCS).S Hi) (sz (sz (sz (sz (.s (sz (.b (.l ⟨[kv 4 t3,kv 33 t3],[1,31,32],[4,33]⟩ [(some 1,⟨[kv 4 t3],[],[4]⟩),(none,⟨[kv 2 t41],[],[2]⟩)] .z))) .z))))) func64
def zJg:FS:=⟨(.cons t28 .nil),(.cons t41 .nil),[none],fun x=>jU x.1⟩
theorem Q6:zJg.ok prog 148:=fS ((E0).S KG) (sz (.s (sz (.b (.l ⟨[kv 8 t3],[6,7],[8]⟩ [(some 0,⟨[],[],[]⟩),(none,⟨[kv 2 t41],[],[2]⟩)] .z))) .z)) func148
def s78:FS:=⟨(.cons t30 (.cons t33 .nil)),(.cons t41 .nil),[none],fun x=>ZE x.1 x.2.1⟩
theorem W2:s78.ok prog 78:=fS (((E0).S Q6).S Hi) .z func78
def s79:FS:=⟨(.cons t126 (.cons t3 .nil)),(.cons t4 .nil),[none],fun x=>yS x.1 x.2.1⟩
theorem zEz:s79.ok prog 79:=fS ((E0).S Ce) .z func79
def s80:FS:=⟨(.cons t126 (.cons t3 .nil)),(.cons t4 .nil),[none],fun x=>yT x.1 x.2.1⟩
theorem zEy:s80.ok prog 80:=fS (E0) .z func80
def s81:FS:=⟨(.cons t126 (.cons t3 .nil)),(.cons t4 .nil),[none],fun x=>yq x.1 x.2.1⟩
theorem zEx:s81.ok prog 81:=fS (E0) .z func81
def s28:FS:=⟨(.cons t30 (.cons t33 .nil)),(.cons t41 .nil),[none],fun x=>jV x.1 x.2.1⟩
theorem zAB:s28.ok prog 28:=fS (((((E0).S zEx).S zEy).S zEz).S W2) (sz (sz (sz (.s (sz (.b (.l ⟨[kv 30 t3],[2,28,29],[30]⟩ [(some 0,⟨[],[],[]⟩),(none,⟨[kv 4 t41],[],[4]⟩)] (sz (sz (.s (.b (sz (sz (.b (.l ⟨[kv 37 t3],[2,8,28,29,30,36],[37]⟩ [(some 2,⟨[],[2,28,29,30],[]⟩),(none,⟨[kv 4 t41],[],[4]⟩)] .z))))) .z)))))) .z)))) func28
def zJW:FS:=⟨(.cons t101 (.cons (.box t28) .nil)),(.cons t4 .nil),[none],fun x=>gA x.1 x.2.1⟩
theorem zCH:zJW.ok prog 158:=fS ((E0).S Ce) .z func158
def s84:FS:=⟨(.cons t36 .nil),(.cons t135 .nil),[none],fun x=>ZZ x.1⟩
theorem W0:s84.ok prog 84:=fS (((E0).S qj).S zCH) (sz (sz (sz (.s (sz (.b (.l ⟨[kv 16 t3,(true,4,(.o true t101 101))],[1,2,3,4,14,15],[16]⟩ [(some 0,⟨[(true,4,(.o true t101 101))],[1,2,3,4],[]⟩)] (sz (sz (.s (.b (sz (sz (.j ⟨[(true,4,(.o true t101 101))],[1,2,3,4,14,15,16],[]⟩ .z .z)))) .z)))))) (sz (.s (sz (.b (.l ⟨[kv 37 t3,kw 3 t135],[2,3,4,7,33,35,36],[37,3]⟩ [(some 2,⟨[kw 3 t135],[2,3],[3]⟩)] .z))) .z)))))) func84
def zKF:FS:=⟨(.cons t131 .nil),(.cons t23 .nil),[some 3],fun x=>vz x.1⟩
theorem ql:zKF.ok prog 114:=fS (E0) (sz (sz (.s (sz (.b (.l ⟨[ko 3 t3 3,kv 7 t3],[6],[7]⟩ [(some 0,⟨[ko 3 t3 3],[],[]⟩)] (sz (sz (.s (.b (sz (sz (.j ⟨[ko 3 t3 3],[6,7],[]⟩ .z .z)))) .z)))))) .z))) func114
def zJB:FS:=⟨(.cons t3 (.cons (.box t131) .nil)),(.cons t4 .nil),[none],fun x=>yx x.1 x.2.1⟩
theorem zBw:zJB.ok prog 199:=fS (E0) .z func199
def zJV:FS:=⟨(.cons t135 (.cons t131 .nil)),(.cons t131 .nil),[none],fun x=>jz x.1 x.2.1⟩
theorem Q2:zJV.ok prog 159:=fS ((((E0).S Q7).S zBw).S ql) (sz (sz (.s (sz (.b (.l ⟨[kv 14 t3,kw 5 t131],[2,3,4,5,13],[14,5]⟩ [(some 0,⟨[kw 5 t131],[2,4,5],[5]⟩)] .z))) (.s (sz (.b (.l ⟨[(false,7,(.bv true t131 131)),kw 5 t131],[2,4,5],[5]⟩ [(some 2,⟨[kw 5 t131],[4,5],[5]⟩)] (sz (.s (.b (sz (sz (.b (.l ⟨[kv 39 t3,kw 5 t131],[2,4,5,7,37,38],[39,5]⟩ [(some 4,⟨[kw 5 t131],[2,4,5,7],[5]⟩)] .z))))) .z))))) .z)))) func159
def s85:FS:=⟨(.cons t135 (.cons t131 .nil)),(.cons t4 .nil),[none],fun x=>vf x.1 x.2.1⟩
theorem Wz:s85.ok prog 85:=fS ((E0).S Q2) (sz (sz (.s (sz (.b (.l ⟨[kv 11 t3,kw 5 t131],[2,3,5,10],[11,5]⟩ [(some 0,⟨[kw 5 t131],[2,3,5],[5]⟩)] .z))) .z))) func85
def zJZ:FS:=⟨(.cons t28 .nil),(.cons t28 .nil),[some 101],fun x=>zl x.1⟩
theorem zCK:zJZ.ok prog 155:=fS (E0) .z func155
def zJX:FS:=⟨(.cons t101 (.cons (.box t101) .nil)),(.cons t4 .nil),[none],fun x=>ya x.1 x.2.1⟩
theorem zCI:zJX.ok prog 157:=fS ((E0).S lH) .z func157
def zJY:FO:=⟨t101,101,(.cons t185 .nil),true,fun xs x=>zq xs x.1⟩
theorem zCJ:zJY.ok prog 156:=fO ((E0).S Qx) (sz (sz (sz (.s (sz (.b (.l ⟨[kw 0 t28,kv 5 t3,kv 6 t3],[0,1],[5,6]⟩ [(some 0,⟨[kw 0 t28,kv 5 t3],[0],[5]⟩)] (sz (.s (.b (sz (sz (.j ⟨[kw 0 t28,kv 5 t3],[0,1,6],[5]⟩ .z .z)))) .z))))) (.s (.f [0] .z) (.s (.xg ⟨[(false,4,(.o false t101 101))],[],[]⟩) .z)))))) func156
def zIi:FS:=⟨(.cons t28 .nil),(.cons t41 .nil),[none],fun x=>Yy x.1⟩
theorem zBk:zIi.ok prog 221:=fS ((E0).S KG) (sz (sz (.s (sz (.b (.l ⟨[kv 11 t3],[9,10],[11]⟩ [(some 0,⟨[],[],[]⟩),(none,⟨[kv 2 t41],[],[2]⟩)] .z))) .z))) func221
def zIP:FS:=⟨(.cons t101 .nil),(.cons t236 .nil),[some 241],fun x=>Y4 x.1⟩
theorem zBU:zIP.ok prog 240:=fS ((((E0).S Qv).S EZ).S Ea) .z func240
def zIN:FS:=⟨(.cons t110 (.cons (.box t236) .nil)),(.cons t4 .nil),[none],fun x=>kD x.1 x.2.1⟩
theorem zBS:zIN.ok prog 242:=fS ((E0).S EW) (sz (sz (.s (sz (.b (.l ⟨[kv 4 t3,kv 9 t3],[2,7,8],[4,9]⟩ [(some 0,⟨[kv 4 t3],[],[4]⟩)] (sz (sz (.s (.b (sz (sz (.j ⟨[kv 4 t3],[2,7,8,9],[4]⟩ .z .z)))) .z)))))) .z))) func242
def zIO:FO:=⟨t110,110,(.cons t228 .nil),true,fun xs x=>yH xs x.1⟩
theorem zBT:zIO.ok prog 241:=fO ((E0).S Qt) (sz (sz (sz (.s (sz (.b (.l ⟨[kw 0 t101,kv 5 t3,kv 6 t3],[0,1],[5,6]⟩ [(some 0,⟨[kw 0 t101,kv 5 t3],[0],[5]⟩)] (sz (.s (.b (sz (sz (.j ⟨[kw 0 t101,kv 5 t3],[0,1,6],[5]⟩ .z .z)))) .z))))) (.s (.f [0] .z) (.s (.xg ⟨[(false,4,(.o false t110 110))],[],[]⟩) .z)))))) func241
def zIM:FO:=⟨t110,110,(.cons zGb .nil),false,fun xs x=>yB xs x.1⟩
theorem zBR:zIM.ok prog 243:=M4 (ρ:=Go.Proofs.Tryz.rh) Go.Proofs.Tryz.zEl (zEc 110 zEQ (by kernel_rfl)).ty rfl ⟨_,func243,rfl,by kernel_rfl⟩
def zHu:FS:=⟨(.cons t3 (.cons t3 .nil)),(.cons t3 .nil),[none],fun x=>Zm x.1 x.2.1⟩
theorem zAz:zHu.ok prog 263:=fS (E0) .z func263
def zIL:FS:=⟨(.cons t110 (.cons t110 .nil)),(.cons t3 .nil),[none],fun x=>kP x.1 x.2.1⟩
theorem zBQ:zIL.ok prog 244:=fS ((E0).S zAz) (sz (.b (sz (sz (.s (sz (.b (.l ⟨[kv 5 t3,kv 36 t3],[34,35],[5,36]⟩ [(some 0,⟨[kv 5 t3],[],[5]⟩)] .z))) .z))))) func244
def zIK:FO:=⟨t110,110,.nil,true,fun xs x=>yC xs ⟩
theorem zBP:zIK.ok prog 245:=fO (E0) (sz (sz (.s (sz (.b (.l ⟨[kw 0 t101,kv 3 t3],[0],[3]⟩ [(some 0,⟨[kw 0 t101],[0],[]⟩),(none,⟨[(false,2,(.o false t110 110))],[],[]⟩)] (sz (.s (.b (sz (.s (.s (.f [0] .z) (.s (sz (.b (.l ⟨[kw 0 t101,kv 3 t3,kv 5 t3],[0,4],[3,5]⟩ [(some 2,⟨[kw 0 t101,kv 3 t3],[0],[3]⟩)] (sz (.s (.b (sz (.j ⟨[kw 0 t101,kv 3 t3],[0,4,5],[3]⟩ .z .z))) .z))))) (.s (.f [0] .z) (.s (.xg ⟨[(false,2,(.o false t110 110))],[],[]⟩) .z)))) .z))) .z))))) .z))) func245
def zIh:FS:=⟨(.cons t101 .nil),(.cons t101 .nil),[some 110],fun x=>ga x.1⟩
theorem ES:zIh.ok prog 222:=fS (((((((((E0).O zBP).S zBQ).O zBR).O zBT).S zBS).S Eb).S zBU).S lK) .z func222
def zHr:FS:=⟨(.cons t108 (.cons t108 .nil)),(.cons t108 .nil),[none],fun x=>wI x.1 x.2.1⟩
theorem zAw:zHr.ok prog 276:=fS (E0) .z func276
def zHs:FS:=⟨(.cons t110 .nil),(.cons t110 .nil),[none],fun x=>Ye x.1⟩
theorem zAx:zHs.ok prog 265:=fS ((E0).S zAw) .z func265
def zHt:GS:=⟨(.cons (.box t101) (.cons (.box t101) .nil)),(.cons (.slo t110) .nil),fun x=>jw x.1 x.2.1⟩
theorem zAy:zHt.ok prog 264:=fQ ((((E0).S ES).S Qw).S zAx) (sz (sz (.b (.l ⟨[kv 4 t101,kv 11 t3],[0,9,10],[4,11]⟩ [(some 0,⟨[],[],[]⟩),(none,⟨[],[],[]⟩)] (sz (sz (.s (.b (sz (.s (.s (.f [6] .z) (.s (.s .y .z) .z)) (.s (sz (.s .y .z)) .z)))) .z))))))) func264
def zIJ:FS:=⟨(.cons t101 (.cons t101 .nil)),(.cons zHo .nil),[none],fun x=>Zl x.1 x.2.1⟩
theorem zBO:zIJ.ok prog 246:=fS ((E0).Q zAy) (sz (.s (.f [2,3] .z) .z)) func246
def zIg:FS:=⟨(.cons t28 (.cons t101 .nil)),(.cons t28 (.cons t41 .nil)),[none,none],fun x=>kO x.1 x.2.1⟩
theorem zBj:zIg.ok prog 223:=fS (((((E0).S zBO).S lH).S ES).S lK) (sz (sz (sz (.s (.f [16,6] .z) (.s (sz (.b (.l ⟨[kv 19 t3,kw 4 t28,kw 5 t41,(true,7,(.o true t101 101))],[1,4,5,6,7,17,18],[19,4,5]⟩ [(some 0,⟨[kw 4 t28,kw 5 t41,(true,7,(.o true t101 101))],[4,5,7],[4,5]⟩),(none,⟨[kw 4 t28,kw 5 t41],[4,5],[4,5]⟩)] (sz (sz (.s (.jb ⟨[kw 4 t28,kw 5 t41,(true,7,(.o true t101 101))],[1,4,5,6,7,17,18,19],[4,5]⟩ (sz (sz (sz (.b (.l ⟨[kw 4 t28,kw 5 t41,(true,7,(.o true t101 101))],[1,4,5,6,7,17,18,19,32],[4,5]⟩ [(none,⟨[kw 4 t28,kw 5 t41],[4,5],[4,5]⟩)] (sz .z))))))) .z)))))) .z))))) func223
def zJC:FS:=⟨(.cons t101 (.cons t28 .nil)),(.cons t28 (.cons t41 .nil)),[none,none],fun x=>Yx x.1 x.2.1⟩
theorem zBx:zJC.ok prog 198:=fS ((((((E0).S zBj).S ES).S lK).S zBk).S KG) (sz (sz (sz (sz (sz (.s (.s (.f [27] .z) (.b (.l ⟨[kv 8 t28,kv 30 t3],[28,29],[8,30]⟩ [(some 0,⟨[kv 8 t28],[],[8]⟩),(none,⟨[kv 4 t28,kv 5 t41],[],[4,5]⟩)] .z))) .z)))))) func198
def zJb:FS:=⟨(.cons t28 (.cons t101 .nil)),(.cons t4 (.cons t41 .nil)),[none,none],fun x=>gY x.1 x.2.1⟩
theorem Q4:zJb.ok prog 153:=fS ((E0).S zBx) .z func153
def s83:FS:=⟨(.cons t135 (.cons t131 .nil)),(.cons t4 (.cons t41 .nil)),[none,none],fun x=>vG x.1 x.2.1⟩
theorem SQ:s83.ok prog 83:=fS ((((((E0).S Q4).O zCJ).S zCI).S ql).S zCK) (sz (sz (.s (sz (.b (.l ⟨[ko 6 t101 101,kv 22 t3],[2,20,21],[22]⟩ [(some 0,⟨[ko 6 t101 101],[2],[]⟩)] .z))) (.s (.s (.f [6] .z) (.b (.l ⟨[kv 41 t3],[2,6,39,40],[41]⟩ [(some 2,⟨[],[],[]⟩),(none,⟨[kv 4 t4,kv 5 t41],[],[4,5]⟩)] (sz (sz (.s (.jb ⟨[],[2,6,39,40,41],[]⟩ .z) .z)))))) .z)))) func83
def zKH:FS:=⟨(.cons t135 (.cons t131 .nil)),(.cons t3 .nil),[none],fun x=>jE x.1 x.2.1⟩
theorem RC:zKH.ok prog 112:=fS ((E0).S ql) (sz (sz (.s (sz (.b (.l ⟨[kv 5 t3,kv 11 t3],[2,9,10],[5,11]⟩ [(some 0,⟨[kv 5 t3],[],[5]⟩)] .z))) .z))) func112
def zKI(n:Nat):FK:=⟨(.cons t3 (.cons t131 .nil)),[.r t135 135,.p t3 3,.p t131 131,.s 167],t41,41,fun x c y=>YI n x.1 x.2.1 c.1 y.1 y.2.1⟩
theorem zCb:∀n,(zKI n).ok prog 111:=zED ⟨_,func111,rfl,by kernel_rfl⟩ (fun _ _ _=>rfl) fun n ih=>fK ((((E0).S RC).S SQ).S Wz) (sz (.s (sz (.j ⟨[kw 3 t3,kw 4 t131],[0,2,3,4,5,7],[3,4]⟩ (sz (.s (sz (.s .q .z)) (sz (sz (.j ⟨[kw 3 t3,kw 4 t131],[0,2,3,4,5,7],[3,4]⟩ (.xr [2,3] [0,1,2,3] [(1,[3])]) .z))))) .z)) (sz (.b (.l ⟨[kv 11 t3,kw 3 t3,kw 4 t131],[2,3,4,5,7],[11,3,4]⟩ [(some 0,⟨[kw 3 t3,kw 4 t131],[2,3,4,5],[3,4]⟩),(some 1000000007,⟨[kv 0 t41],[],[]⟩)] (sz (.s (.b (sz (sz .q))) .z))))))) ih func111
def zJU:FS:=⟨(.cons t135 (.cons t131 (.cons t131 .nil))),(.cons t4 .nil),[none],fun x=>jO x.1 x.2.1 x.2.2.1⟩
theorem zCG:zJU.ok prog 176:=fS ((((E0).S SQ).S ql).S Q2) (sz (sz (.s (sz (.b (.l ⟨[kv 18 t3],[3,7,16,17],[18]⟩ [(some 0,⟨[],[3,7],[]⟩),(none,⟨[kv 6 t4],[],[6]⟩)] .z))) .z))) func176
def zJT(n:Nat):FK:=⟨(.cons t3 (.cons t131 (.cons t131 .nil))),[.r t3 3,.r t135 135,.o t165 165 79,.s 215],.nil,0,fun x c y=>ji n x.1 x.2.1 x.2.2.1 c.1 c.2.1 y.1⟩
theorem zCF:∀n,(zJT n).ok prog 177:=zED ⟨_,func177,rfl,by kernel_rfl⟩ (fun _ _ _=>rfl) fun n ih=>fK (((E0).S zCG).S RC) (sz (.b (sz (.j ⟨[(true,5,(.o false t165 165))],[3,4,5,6],[]⟩ .z (sz (.j ⟨[(true,5,(.o false t165 165))],[3,4,5,6],[]⟩ .z (sz (.s (.xr [2,3,4,5] [0,1,3,2,4,5] [(0,[]),(1,[10])]) (sz (.s .q .q)))))))))) ih func177
def zKG:FS:=⟨(.cons t135 (.cons t3 .nil)),(.cons t79 .nil),[some 165],fun x=>jy x.1 x.2.1⟩
theorem zCa:zKG.ok prog 113:=fSK (E0) (zCF 40) (sz (sz (sz (sz (.s .q .z))))) func113
def s50:FS:=⟨(.cons t36 .nil),(.cons t23 (.cons t3 (.cons t79 (.cons t41 .nil)))),[none,none,none,none],fun x=>JZ x.1⟩
theorem zFI:s50.ok prog 50:=fR (c:=Tryz.f50.body.getD .skip) (((((E0).S ql).S zCa).S W0).S Hh) (zCb 40) zAq .z .z (sz (sz (sz (sz (.s .q (sz (.s (.xr [1,5,6,7,8,9] [0,2,3,4,1,5,6,7,8,9] [(2,[2]),(3,[]),(4,[])]) .z))))))) (sz (.j ⟨[kw 0 t23,kw 1 t3,kw 2 t79,kw 3 t41],[0,1,2,3],[0,1,2,3]⟩ .z .z)) func50
def s18:FS:=⟨(.cons t36 (.cons t23 .nil)),(.cons t23 (.cons t3 (.cons t41 .nil))),[none,none,none],fun x=>Yk x.1 x.2.1⟩
theorem zAC:s18.ok prog 18:=fS (((((E0).S zFI).S zAB).S Hh).J W8) .z func18
def s21:FS:=⟨(.cons t23 (.cons t23 .nil)),(.cons t4 .nil),[none],fun x=>vY x.1 x.2.1⟩
theorem zFP:s21.ok prog 21:=fS (E0) (sz (sz (.s (sz (.b (.l ⟨[kv 5 t3],[0,1],[5]⟩ [(some 0,⟨[],[],[]⟩),(none,⟨[kv 4 t4],[],[4]⟩)] .z))) .z))) func21
def s52:FS:=⟨(.cons t36 (.cons t23 (.cons t3 (.cons t41 (.cons t23 .nil))))),(.cons t4 .nil),[none],fun x=>zS x.1 x.2.1 x.2.2.1 x.2.2.2.1 x.2.2.2.2.1⟩
theorem zFG:s52.ok prog 52:=fS (((E0).S zFP).S zAC) .z func52
def zIf:FS:=⟨(.cons t108 .nil),(.cons t26 .nil),[none],fun x=>yD x.1⟩
theorem Qs:zIf.ok prog 224:=fS (E0) .z func224
def zII:FS:=⟨(.cons t3 .nil),(.cons t3 .nil),[none],fun x=>vX x.1⟩
theorem zBN:zII.ok prog 247:=fS (E0) .z func247
def zIe:FS:=⟨(.cons t108 .nil),(.cons t108 (.cons t3 .nil)),[none,none],fun x=>jB x.1⟩
theorem zBi:zIe.ok prog 225:=fS (((E0).S zBN).S Qs) (sz (sz (sz (.s (sz (.b (.l ⟨[kv 5 t3,kv 6 t3,kw 2 t108],[1,2,4],[5,6,2]⟩ [(some 0,⟨[kv 5 t3,kw 2 t108],[1,2],[5,2]⟩),(none,⟨[kv 3 t3,kw 2 t108],[2],[3,2]⟩)] (sz (.s (.b (sz (sz (.b (.l ⟨[kv 5 t3,kv 7 t3],[1,2,4,6],[5,7]⟩ [(some 2,⟨[kv 5 t3],[1,2,4,6],[5]⟩)] .z))))) .z))))) (sz (.s (.xr [14] [0,1,2,3,4,5,6,7,8,9,10,11,12,13,14,15] [(13,[2])]) .z)))))) func225
def zJA:FS:=⟨(.cons t110 .nil),(.cons t4 .nil),[none],fun x=>gW x.1⟩
theorem zBv:zJA.ok prog 202:=fS (((E0).S zBi).S Qs) (sz (sz (.s (sz (.b (.l ⟨[kv 4 t3],[1,3],[4]⟩ [(some 0,⟨[],[1],[]⟩),(none,⟨[kv 2 t4],[],[2]⟩)] .z))) .z))) func202
def zJS:FS:=⟨(.cons t101 .nil),(.cons t41 .nil),[none],fun x=>zd x.1⟩
theorem KF:zJS.ok prog 178:=fS ((E0).S zBv) (sz (sz (.s (sz (.b (.l ⟨[kv 3 t3],[0],[3]⟩ [(some 0,⟨[],[],[]⟩),(none,⟨[kv 2 t41],[],[2]⟩)] .z))) .z))) func178
def zJK:FS:=⟨(.cons t101 .nil),(.cons t101 .nil),[some 110],fun x=>gO x.1⟩
theorem EY:zJK.ok prog 187:=fS ((E0).S Hj) (sz (sz (sz (.s (.xr [0,2,6] [1,3,4,0,2,5,6,7] [(1,[]),(3,[7]),(4,[7])]) .z)))) func187
def zHy:FS:=⟨(.cons t108 (.cons t108 .nil)),(.cons t108 .nil),[none],fun x=>vh x.1 x.2.1⟩
theorem zBD:zHy.ok prog 257:=fS (E0) .z func257
def zHz:FS:=⟨(.cons t108 (.cons t108 .nil)),(.cons t3 .nil),[none],fun x=>YC x.1 x.2.1⟩
theorem zBE:zHz.ok prog 256:=fS (E0) .z func256
def zHx:FS:=⟨(.cons t108 (.cons t3 .nil)),(.cons t108 .nil),[none],fun x=>yi x.1 x.2.1⟩
theorem zBC:zHx.ok prog 258:=fS (E0) .z func258
def zHw:FS:=⟨(.cons t108 (.cons t108 .nil)),(.cons t108 .nil),[none],fun x=>kU x.1 x.2.1⟩
theorem zBB:zHw.ok prog 259:=fS (E0) .z func259
def zHv:FS:=⟨(.cons t3 (.cons t3 .nil)),(.cons t3 .nil),[none],fun x=>zz x.1 x.2.1⟩
theorem zBA:zHv.ok prog 260:=fS (E0) (sz (.s (.b (.l ⟨[kv 0 t3,kv 1 t3],[],[0,1]⟩ [(some 0,⟨[kv 0 t3],[],[0]⟩)] .z)) .z)) func260
def zIT:FS:=⟨(.cons t110 (.cons t110 (.cons t110 .nil))),(.cons t241 (.cons t4 .nil)),[none,none],fun x=>vJ x.1 x.2.1 x.2.2.1⟩
theorem zBY:zIT.ok prog 236:=fS ((((((E0).S zBA).S zBB).S zBC).S zBE).S zBD) (sz (sz (sz (.s (.xr [8,9] [0,1,2,3,4,5,6,7,8,9] [(0,[]),(1,[]),(2,[]),(3,[]),(4,[]),(5,[]),(6,[]),(7,[])]) (sz (sz (.s (sz (.j ⟨[kv 8 t3,kw 9 t108],[6,9],[8,9]⟩ .z .z)) .z))))))) func236
def zIm:FS:=⟨(.cons t110 (.cons t241 .nil)),(.cons t3 .nil),[none],fun x=>zj x.1 x.2.1⟩
theorem EU:zIm.ok prog 216:=fS (E0) .z func216
def zIS:FS:=⟨(.cons t101 (.cons t241 .nil)),(.cons t4 .nil),[none],fun x=>gH x.1 x.2.1⟩
theorem zBX:zIS.ok prog 237:=fS ((E0).S EU) (sz (.s (sz (.b (.l ⟨[kv 5 t3],[0,3],[5]⟩ [(some 0,⟨[],[],[]⟩),(none,⟨[kv 4 t4],[],[4]⟩)] .z))) .z)) func237
def zIR:FS:=⟨(.cons t236 (.cons t241 .nil)),(.cons t4 .nil),[none],fun x=>y4 x.1 x.2.1⟩
theorem zBW:zIR.ok prog 238:=fS (E0) (sz (.s (sz (.b (.l ⟨[kv 5 t3],[0,3],[5]⟩ [(some 0,⟨[],[],[]⟩),(none,⟨[kv 4 t4],[],[4]⟩)] .z))) .z)) func238
def zIn:FS:=⟨(.cons t101 .nil),(.cons t236 .nil),[some 241],fun x=>vn x.1⟩
theorem Qu:zIn.ok prog 215:=fS ((((E0).S zBW).S zBX).S zBY) (sz (sz (.s (sz (.b (.l ⟨[ko 3 t241 241,kv 4 t3],[0],[4]⟩ [(some 0,⟨[ko 3 t241 241],[],[]⟩)] (sz (.s (.b (sz (.b (.l ⟨[ko 3 t241 241,kv 5 t3],[0,4],[5]⟩ [(some 2,⟨[ko 3 t241 241],[0,4],[]⟩)] (sz (.s (.b (sz (.b (.l ⟨[ko 3 t241 241,kv 6 t3],[0,4,5],[6]⟩ [(some 4,⟨[ko 3 t241 241],[0,4,5],[]⟩)] (sz (.s (.b (.s (.xr [16,17] [0,1,2,3,4,5,6,7,8,9,10,11,12,13,14,15,16,17,18] [(0,[]),(1,[]),(2,[]),(3,[]),(4,[]),(5,[]),(6,[]),(7,[]),(8,[]),(9,[]),(10,[]),(11,[]),(12,[]),(13,[]),(14,[]),(15,[7])]) (sz (.j ⟨[ko 3 t241 241],[0,4,5,6],[]⟩ .z .z)))) .z)))))) .z)))))) .z))))) .z))) func215
def zJL:FS:=⟨(.cons t101 .nil),(.cons t4 .nil),[none],fun x=>jA x.1⟩
theorem Qz:zJL.ok prog 186:=fS (((E0).S EU).S Qu) (sz (sz (.s (sz (.b (.l ⟨[kv 4 t3],[0,3],[4]⟩ [(some 0,⟨[],[],[]⟩),(none,⟨[kv 2 t4],[],[2]⟩)] (sz (.s (.b (sz (.s (sz (.b (.l ⟨[kv 5 t4,kv 6 t3],[0,3,4],[5,6]⟩ [(some 2,⟨[kv 5 t4],[0,3,4],[5]⟩)] .z))) .z))) .z))))) .z))) func186
def zJr:FS:=⟨(.cons t101 .nil),(.cons t4 .nil),[none],fun x=>yA x.1⟩
theorem qk:zJr.ok prog 130:=fS ((((E0).S Qz).S EY).S KF) (sz (.s (.xg ⟨[kv 2 t4],[],[2]⟩) .z)) func130
def zJq:FS:=⟨(.cons t101 (.cons t101 .nil)),(.cons t4 .nil),[none],fun x=>zh x.1 x.2.1⟩
theorem lI:zJq.ok prog 131:=fS ((((E0).S Qz).S EY).S KF) .z func131
def s63:FS:=⟨(.cons t30 .nil),(.cons t41 .nil),[none],fun x=>gU x.1⟩
theorem W7:s63.ok prog 63:=fS (((E0).S lI).S qk) (sz (sz (sz (.s (sz (.b (.l ⟨[kv 3 t3],[1],[3]⟩ [(some 0,⟨[],[1],[]⟩),(none,⟨[kv 2 t41],[],[2]⟩)] .z))) (.s (sz (.b (.l ⟨[kv 4 t3],[1],[4]⟩ [(some 2,⟨[],[],[]⟩),(none,⟨[kv 2 t41],[],[2]⟩)] (sz (.s (.b (sz (sz (.b (.l ⟨[kv 5 t3],[1,4],[5]⟩ [(some 4,⟨[],[1,4],[]⟩),(none,⟨[kv 2 t41],[],[2]⟩)] .z))))) .z))))) .z))))) func63
def zKD:FS:=⟨(.cons t28 .nil),(.cons t41 .nil),[none],fun x=>yb x.1⟩
theorem Q9:zKD.ok prog 116:=fS ((E0).S KF) (sz (.s (sz (.b (.l ⟨[kv 3 t3],[0],[3]⟩ [(some 0,⟨[],[],[]⟩),(none,⟨[kv 2 t41],[],[2]⟩)] .z))) .z)) func116
def s73:FS:=⟨(.cons t30 (.cons t33 .nil)),(.cons t4 .nil),[none],fun x=>gy x.1 x.2.1⟩
theorem W4:s73.ok prog 73:=fS ((E0).S Q9) .z func73
def zKC:FS:=⟨(.cons t28 .nil),(.cons t28 .nil),[some 101],fun x=>gz x.1⟩
theorem zCZ:zKC.ok prog 117:=fS (E0) (sz (sz (.s (sz (.b (.l ⟨[ko 3 t101 101,kv 4 t3],[0],[4]⟩ [(some 0,⟨[ko 3 t101 101],[],[]⟩)] .z))) .z))) func117
def s75:FS:=⟨(.cons t101 (.cons t28 .nil)),(.cons t4 .nil),[none],fun x=>yy x.1 x.2.1⟩
theorem zFB:s75.ok prog 75:=fS ((E0).S lI) (sz (.s (sz (.b (.l ⟨[kv 5 t3],[0,1],[5]⟩ [(some 0,⟨[],[],[]⟩),(none,⟨[kv 4 t4],[],[4]⟩)] .z))) .z)) func75
def zKA:FS:=⟨(.cons t28 (.cons t101 .nil)),(.cons t28 .nil),[some 101],fun x=>vg x.1 x.2.1⟩
theorem zCX:zKA.ok prog 119:=fS ((E0).S lI) (sz (sz (.s (sz (.b (.l ⟨[ko 5 t101 101,kv 6 t3],[0,1],[6]⟩ [(some 0,⟨[ko 5 t101 101],[],[]⟩)] (sz (.s (.b (sz (.j ⟨[ko 5 t101 101],[0,1,6],[]⟩ .z .z))) .z))))) .z))) func119
def zIz:FS:=⟨(.cons t28 .nil),(.cons t41 .nil),[none],fun x=>jk x.1⟩
theorem zBu:zIz.ok prog 203:=fS ((E0).S KF) (sz (sz (.s (sz (.b (.l ⟨[kv 3 t3],[0],[3]⟩ [(some 0,⟨[],[],[]⟩),(none,⟨[kv 2 t41],[],[2]⟩)] .z))) .z))) func203
def zId:FS:=⟨(.cons t101 .nil),(.cons t236 .nil),[some 241],fun x=>jI x.1⟩
theorem zBh:zId.ok prog 226:=fS ((((E0).S Qu).S EY).S KF) .z func226
def zIH:FS:=⟨(.cons t110 (.cons t110 .nil)),(.cons t3 .nil),[none],fun x=>y7 x.1 x.2.1⟩
theorem zBM:zIH.ok prog 248:=fS (E0) (sz (sz (sz (.s (sz (.b (.l ⟨[kv 7 t3],[5,6],[7]⟩ [(some 0,⟨[],[],[]⟩),(none,⟨[kv 4 t3],[],[4]⟩)] .z))) .z)))) func248
def zIc:FS:=⟨(.cons t101 (.cons t110 .nil)),(.cons t101 .nil),[none],fun x=>jQ x.1 x.2.1⟩
theorem zBg:zIc.ok prog 227:=fS ((E0).S zBM) (sz (sz (.s (.b (.l ⟨[kv 5 t3],[0,3],[5]⟩ [(some 0,⟨[kv 5 t3],[0,3],[5]⟩)] .z)) .z))) func227
def zIy:FS:=⟨(.cons t101 .nil),(.cons t101 .nil),[none],fun x=>zr x.1⟩
theorem EX:zIy.ok prog 204:=fS (((((E0).S zBg).S EU).S zBh).S qk) (sz (sz (sz (sz (.s (sz (.b (.l ⟨[kv 4 t101,kv 5 t3],[0,3],[4,5]⟩ [(some 0,⟨[kv 4 t101],[],[4]⟩)] (sz (.s (.b (sz (.s (sz (.b (.l ⟨[kv 6 t3,kv 7 t3],[0,3,4,5],[6,7]⟩ [(some 2,⟨[kv 6 t3],[0,3,4,5],[6]⟩)] (sz (.s (.b (sz (.j ⟨[kv 6 t3],[0,3,4,5,7],[6]⟩ .z .z))) .z))))) (sz (.j ⟨[kv 4 t101],[0,3,5],[4]⟩ .z .z))))) .z))))) .z))))) func204
def zIw:FS:=⟨(.cons t108 (.cons t108 .nil)),(.cons t108 .nil),[none],fun x=>YB x.1 x.2.1⟩
theorem zBs:zIw.ok prog 206:=fS (E0) .z func206
def zJQ:FS:=⟨(.cons t110 .nil),(.cons t110 .nil),[none],fun x=>vK x.1⟩
theorem Q1:zJQ.ok prog 180:=fS ((E0).S zBs) .z func180
def zIG:FS:=⟨(.cons t101 (.cons t110 .nil)),(.cons t101 .nil),[some 110],fun x=>yP x.1 x.2.1⟩
theorem zBL:zIG.ok prog 249:=fS (E0) (sz (.s (.xr [0,2,5] [1,3,4,0,2,5,6] [(1,[]),(3,[5]),(4,[5])]) .z)) func249
def zIb:FS:=⟨(.cons t101 (.cons t101 .nil)),(.cons t28 (.cons t41 .nil)),[some 101,none],fun x=>gV x.1 x.2.1⟩
theorem zBf:zIb.ok prog 228:=fS ((((E0).S EX).S zBL).S Q1) (sz (sz (sz (.s (sz (.b (.l ⟨[ko 6 t101 101,kv 7 t101,kv 8 t3],[1],[7,8]⟩ [(some 0,⟨[ko 6 t101 101],[],[]⟩),(none,⟨[ko 4 t101 101,kv 5 t41],[],[5]⟩)] (sz (.s (.b (sz (sz (.s (sz (.j ⟨[ko 6 t101 101],[1,7,8],[]⟩ .z .z)) .z)))) .z))))) .z)))) func228
def zIx:FS:=⟨(.cons t28 (.cons t101 .nil)),(.cons t28 (.cons t41 .nil)),[none,none],fun x=>y6 x.1 x.2.1⟩
theorem zBt:zIx.ok prog 205:=fS (((((E0).S zBf).S EX).S lI).S qk) (sz (sz (sz (.s (sz (.b (.l ⟨[ko 6 t101 101,kv 7 t3],[0,1],[7]⟩ [(some 0,⟨[ko 6 t101 101],[],[]⟩),(none,⟨[kv 4 t28,kv 5 t41],[],[4,5]⟩)] (sz (.s (.jb ⟨[ko 6 t101 101],[0,1,7],[]⟩ .z) .z))))) .z)))) func205
def zJR:FS:=⟨(.cons t101 (.cons t28 .nil)),(.cons t28 (.cons t41 .nil)),[none,none],fun x=>jj x.1 x.2.1⟩
theorem zCE:zJR.ok prog 179:=fS ((((((E0).S zBt).S EX).S qk).S zBu).S KF) (sz (sz (.s (sz (.j ⟨[kv 6 t41],[0,1],[6]⟩ .z .z)) (sz (sz (.s (sz (.j ⟨[kv 7 t28],[1],[7]⟩ .z .z)) (.s (.s (.f [26] .z) (.b (.l ⟨[kv 7 t28,kv 8 t3],[1],[7,8]⟩ [(some 0,⟨[kv 7 t28],[],[7]⟩),(none,⟨[kv 4 t28,kv 5 t41],[],[4,5]⟩)] .z))) .z))))))) func179
def zKB:FS:=⟨(.cons t28 (.cons t101 .nil)),(.cons t4 (.cons t41 .nil)),[none,none],fun x=>vF x.1 x.2.1⟩
theorem zCY:zKB.ok prog 118:=fS ((E0).S zCE) .z func118
def s53:FS:=⟨(.cons t30 (.cons t33 (.cons t28 (.cons t28 .nil)))),(.cons t33 (.cons t41 .nil)),[none,none],fun x=>yQ x.1 x.2.1 x.2.2.1 x.2.2.2.1⟩
theorem zAA:s53.ok prog 53:=fS ((((((((E0).S zCY).S zCX).S zFB).S zCZ).S Q9).S W4).S W7) (sz (sz (sz (sz (sz (.s (sz (.j ⟨[kv 10 t41],[2,3,4,5,8],[10]⟩ .z .z)) (sz (sz (sz (.s (sz (.b (.l ⟨[kv 12 t3,kw 8 t33,(true,11,(.ag (.pr (.o true t4 4) (.pr (.o true t4 4) (.pr (.v t28) .un)))))],[2,3,4,5,8,11],[12,8]⟩ [(some 0,⟨[kw 8 t33,(true,11,(.ag (.pr (.o true t4 4) (.pr (.o true t4 4) (.pr (.v t28) .un)))))],[8,11],[8]⟩),(none,⟨[kv 9 t41,kw 8 t33],[8],[9,8]⟩)] (sz (.s (.b (sz (sz (sz (.s (sz (.j ⟨[kv 14 t4,kw 8 t33],[2,3,4,5,8,11,12],[14,8]⟩ .z .z)) .z))))) .z))))) .z)))))))))) func53
def zJm:FS:=⟨(.cons t101 .nil),(.cons t4 .nil),[none],fun x=>gj x.1⟩
theorem zCP:zJm.ok prog 141:=fS ((E0).S KG) .z func141
def s69:FS:=⟨(.cons t30 (.cons t33 .nil)),(.cons t4 .nil),[none],fun x=>Xf x.1 x.2.1⟩
theorem zFC:s69.ok prog 69:=fS (((E0).S qj).S zCP) .z func69
def s70:FS:=⟨(.cons t31 .nil),(.cons t31 .nil),[some 4],fun x=>zp x.1⟩
theorem W6:s70.ok prog 70:=fS (E0) .z func70
def s23:FS:=⟨(.cons t30 (.cons t33 (.cons t23 .nil))),(.cons t33 (.cons t41 .nil)),[none,none],fun x=>yL x.1 x.2.1 x.2.2.1⟩
theorem zFN:s23.ok prog 23:=fS ((((((E0).S Ce).S W5).S W6).S zFC).S Hi) (sz (sz (sz (sz (.s (sz (.b (.l ⟨[kv 9 t3,kv 28 t3,kw 6 t33],[2,3,4,6,26,27],[9,28,6]⟩ [(some 0,⟨[kw 6 t33],[2,3,4,6],[6]⟩),(none,⟨[kv 7 t41,kw 6 t33],[6],[7,6]⟩)] .z))) (.s (.xr [2,5,8,10,11] [0,1,3,4,6,7,2,5,8,9,10,11] [(0,[]),(1,[]),(3,[]),(4,[]),(6,[]),(7,[]),(9,[])]) (.s (sz (.b (.l ⟨[kv 57 t3,kw 6 t33,(true,12,(.ag (.pr (.o true t4 4) (.pr (.o true t4 4) (.pr (.o true t101 101) .un)))))],[3,4,6,12,55,56],[57,6]⟩ [(some 2,⟨[kw 6 t33,(true,12,(.ag (.pr (.o true t4 4) (.pr (.o true t4 4) (.pr (.o true t101 101) .un)))))],[6,12],[6]⟩),(none,⟨[kv 7 t41,kw 6 t33],[6],[7,6]⟩)] .z))) .z))))))) func23
def s13:FS:=⟨.nil,(.cons t4 .nil),[none],fun x=>jJ ⟩
theorem zFR:s13.ok prog 13:=fS (((((((E0).S zFN).S zAA).S W9).S zFG).S zAD).J zFH) (sz (sz (sz (sz (sz (sz (sz (.s (.xg ⟨[kv 12 t4],[1,2,3,11],[12]⟩) (sz (.s (.xr [11] [0,1,2,3,4,5,6,7,8,9,10,11] [(9,[122,13])]) (.s (.xr [11] [0,1,2,3,4,5,6,7,8,9,10,11] [(9,[133,14])]) (.s (.xg ⟨[kv 15 t4],[1,2,3,11,12,13,14],[15]⟩) (sz (sz (sz (sz (sz (.s (.xg ⟨[kv 0 t4],[],[0]⟩) .z)))))))))))))))))) func13
def s22:FS:=⟨(.cons t3 (.cons t3 .nil)),(.cons t3 .nil),[none],fun x=>kV x.1 x.2.1⟩
theorem zFO:s22.ok prog 22:=fS (E0) .z func22
def zJy:FM:=⟨(.cons (.box t178) (.cons t3 .nil)),[some 178,none],(.cons t3 .nil),fun x=>zI x.1 x.2.1⟩
theorem lL:zJy.ok prog 121:=fM ((E0).S zFO) .z func121
def zJz:FS:=⟨(.cons t22 .nil),(.cons t30 .nil),[none],fun x=>kB x.1⟩
theorem zCW:zJz.ok prog 120:=fS (((((E0).S qk).S Q1).S Hj).M lL) (sz (sz (.s (sz (.b (.l ⟨[kv 4 t3,kw 3 t218],[0,2,3],[4,3]⟩ [(some 0,⟨[kw 3 t218],[2,3],[3]⟩)] .z))) (sz (sz (sz (.s (.xg ⟨[kv 8 t4,kw 5 t178],[2,3,5,6,7],[8,5]⟩) (sz (sz (.s (sz (.b (.l ⟨[kv 9 t3,kv 11 t3,(true,6,(.ag (.pr (.v t9) (.pr (.o true t101 101) (.pr (.o true t3 3) .un))))),kw 5 t178],[2,3,5,6,7,8,10],[9,11,5]⟩ [(some 2,⟨[(true,6,(.ag (.pr (.v t9) (.pr (.o true t101 101) (.pr (.o true t3 3) .un))))),kw 5 t178],[2,3,5,6],[5]⟩)] (sz (.s (.b (sz (sz (.s (sz (.j ⟨[(true,6,(.ag (.pr (.v t9) (.pr (.o true t101 101) (.pr (.o true t3 3) .un)))))],[2,3,5,6,7,8,9,10,11,12],[]⟩ .z .z)) .z)))) .z))))) (.s (.s (.xg ⟨[kv 102 t4,kw 5 t178],[2,3,5,6],[102,5]⟩) (.j ⟨[(true,6,(.ag (.pr (.v t9) (.pr (.o true t101 101) (.pr (.o true t3 3) .un)))))],[2,3,6],[]⟩ (sz (sz (.s (.xr [0,6,9] [1,2,3,4,5,7,8,0,6,9,10] [(1,[]),(2,[]),(3,[]),(4,[]),(5,[]),(7,[113]),(8,[113])]) (.s (.xr [0,6,10] [1,2,3,4,5,7,0,6,8,9,10,11] [(1,[]),(2,[]),(3,[]),(4,[]),(5,[]),(7,[123])]) (sz (.j ⟨[(true,6,(.ag (.pr (.v t9) (.pr (.o true t101 101) (.pr (.o true t3 3) .un)))))],[2,3,6],[]⟩ .z .z)))))) .z)) (sz (.s (sz (.b (.l ⟨[kv 18 t3,(true,6,(.ag (.pr (.v t9) (.pr (.o true t101 101) (.pr (.o true t3 3) .un))))),kw 17 t178],[2,6,17],[18,17]⟩ [(some 4,⟨[(true,6,(.ag (.pr (.v t9) (.pr (.o true t101 101) (.pr (.o true t3 3) .un)))))],[2,6],[]⟩)] (sz (.s (.b (.xr [4,8,10] [0,1,2,3,4,5,6,7,8,9,10] [(0,[165,17,154]),(1,[165,17,154]),(2,[165,17,154])])) .z))))) .z))))))))))))) func120
def zJx:FS:=⟨(.cons t22 (.cons t30 .nil)),(.cons t28 .nil),[some 101],fun x=>vH x.1 x.2.1⟩
theorem Q8:zJx.ok prog 122:=fS (((E0).S Hj).M lL) (sz (sz (.s (sz (.b (.l ⟨[ko 5 t101 101,kv 6 t3],[0,3],[6]⟩ [(some 0,⟨[ko 5 t101 101],[],[]⟩)] (sz (.s (.b (sz (sz (.s (.xr [7,10] [0,1,2,3,4,5,6,7,8,9,10,11] [(0,[33,7,27]),(1,[33,7,27]),(2,[33,7,27])]) (.s (sz (.j ⟨[kv 9 t101,kw 7 t178],[0,3,5,6,7,8],[9,7]⟩ (sz (.xr [5,10] [0,1,2,3,4,5,6,7,8,9,10,11] [(0,[52,7,27]),(1,[52,7,27]),(2,[52,7,27]),(3,[52,7,27])])) .z)) (.s (sz (.j ⟨[kv 9 t101],[0,3,5,6],[9]⟩ (sz (.xr [5,11,17,20] [0,1,2,3,4,7,8,9,10,13,14,15,16,5,6,11,12,17,18,19,20,21] [(0,[75,7,27,81,87]),(1,[75,7,27,81,87]),(2,[75,7,27,81,87]),(3,[75,7,27,81,87]),(6,[81,7,27,87]),(7,[75,7,27,81,87]),(8,[75,7,27,81,87]),(9,[75,7,27,81,87]),(10,[75,7,27]),(12,[87,7,27]),(13,[75,7,27,81,87]),(14,[75,7,27,81,87]),(15,[75,7,27,81,87]),(16,[75,7,27,81])])) .z)) .z)))))) .z))))) .z))) func122
def zJw:FS:=⟨(.cons t30 (.cons t23 (.cons t3 .nil))),(.cons t64 .nil),[none],fun x=>vE x.1 x.2.1 x.2.2.1⟩
theorem zCV:zJw.ok prog 123:=fS (((E0).S Q8).M lL) (sz (sz (sz (.s (.s (.xg ⟨[kv 25 t4,kw 7 t178],[1,2,3,6,7,8],[25,7]⟩) (.j ⟨[(true,8,(.ag (.pr (.o true t101 101) (.pr (.o true t101 101) (.pr (.v t3) (.pr (.o true t3 3) .un))))))],[1,3,6,7,8],[]⟩ .z .z)) (sz (.s (sz (.b (.l ⟨[kv 10 t3,(true,8,(.ag (.pr (.o true t101 101) (.pr (.o true t101 101) (.pr (.v t3) (.pr (.o true t3 3) .un)))))),kw 7 t178],[1,3,6,7,8,9],[10,7]⟩ [(some 0,⟨[(true,8,(.ag (.pr (.o true t101 101) (.pr (.o true t101 101) (.pr (.v t3) (.pr (.o true t3 3) .un))))))],[1,3,6,8,9],[]⟩)] (sz (.s (.b (sz (.s (sz (.j ⟨[kv 11 t4,kw 7 t178],[1,3,6,7,8,9,10],[11,7]⟩ (.xg ⟨[kv 11 t4,kw 7 t178],[1,3,6,7,8,9,10],[11,7]⟩) .z)) (sz (.j ⟨[(true,8,(.ag (.pr (.o true t101 101) (.pr (.o true t101 101) (.pr (.v t3) (.pr (.o true t3 3) .un))))))],[1,3,6,7,8,9,10],[]⟩ (.xr [2,8,9,10,12] [0,1,3,4,5,6,7,2,8,9,10,11,12] [(0,[58]),(1,[58]),(3,[]),(4,[]),(5,[]),(6,[]),(7,[])]) .z))))) .z))))) (.s (sz (.j ⟨[(true,8,(.ag (.pr (.o true t101 101) (.pr (.o true t101 101) (.pr (.v t3) (.pr (.o true t3 3) .un))))))],[1,3,6,8,9],[]⟩ .z .z)) (.s (sz (.j ⟨[(true,8,(.ag (.pr (.o true t101 101) (.pr (.o true t101 101) (.pr (.v t3) (.pr (.o true t3 3) .un))))))],[6,8],[]⟩ .z .z)) .z)))))))) func123
def zJI:FS:=⟨(.cons t23 .nil),(.cons t4 .nil),[none],fun x=>ja x.1⟩
theorem zCB:zJI.ok prog 189:=fS (E0) (sz (.s (sz (.b (.l ⟨[kv 3 t3],[0],[3]⟩ [(some 0,⟨[],[],[]⟩),(none,⟨[kv 2 t4],[],[2]⟩)] .z))) .z)) func189
def zJn:FS:=⟨(.cons t34 (.cons t3 .nil)),(.cons t41 .nil),[none],fun x=>gD x.1 x.2.1⟩
theorem zCQ:zJn.ok prog 134:=fS (((E0).S zCB).S KF) (sz (sz (.s (.xr [0,3,6] [1,2,4,5,0,3,6,7] [(1,[]),(2,[]),(4,[14]),(5,[14])]) (.s (sz (.b (.l ⟨[kv 7 t3],[0,1,5,6],[7]⟩ [(some 0,⟨[],[0,1,5],[]⟩),(none,⟨[kv 4 t41],[],[4]⟩)] .z))) (sz (.s (sz (.b (.l ⟨[kv 9 t3],[0,1,5],[9]⟩ [(some 2,⟨[],[5],[]⟩),(none,⟨[kv 4 t41],[],[4]⟩)] .z))) .z)))))) func134
def s65:FS:=⟨(.cons t36 .nil),(.cons t41 .nil),[none],fun x=>gR x.1⟩
theorem zFD:s65.ok prog 65:=fS ((((E0).S zCQ).S W4).S W7) (sz (sz (sz (sz (sz (sz (.s (sz (.b (.l ⟨[kv 4 t3,kv 5 t3],[1],[4,5]⟩ [(some 0,⟨[kv 4 t3],[],[4]⟩),(none,⟨[kv 2 t41],[],[2]⟩)] .z))) .z))))))) func65
def s55:FJ:=⟨(.cons t22 .nil),(.pr (.ag (.pr (.v t30) (.pr (.v t33) (.pr (.o true t64 64) .un)))) .un),fun x=>j9 x.1⟩
theorem zFF:s55.ok prog 55:=fJ ((((((((E0).S zFD).S zCV).S zAA).S Q8).M lL).S RB).S zCW) (sz (sz (.s (.xr [2,4,5] [0,1,2,3,4,5] [(0,[]),(1,[]),(3,[])]) (.s (sz (.j ⟨[(true,4,(.ag (.pr (.v t30) (.pr (.v t33) (.pr (.o true t64 64) .un)))))],[0,2,3,4],[]⟩ (sz (sz (.j ⟨[(true,4,(.ag (.pr (.v t30) (.pr (.v t33) (.pr (.o true t64 64) .un)))))],[0,2,3,4],[]⟩ (.s (.xr [19,20] [0,1,2,3,4,5,6,7,8,9,10,11,12,13,14,15,16,17,18,19,20,21] [(0,[]),(1,[]),(2,[]),(3,[]),(4,[]),(5,[]),(6,[]),(7,[]),(8,[]),(9,[]),(10,[]),(11,[]),(12,[]),(13,[]),(14,[]),(15,[]),(16,[]),(17,[]),(18,[6])]) (sz (.j ⟨[(true,4,(.ag (.pr (.v t30) (.pr (.v t33) (.pr (.o true t64 64) .un)))))],[0,2,3,4],[]⟩ .z .z))) .z))) .z)) (.s (sz (.b (.l ⟨[kv 8 t3,(true,4,(.ag (.pr (.v t30) (.pr (.v t33) (.pr (.o true t64 64) .un)))))],[0,2,3,4],[8]⟩ [(some 0,⟨[(true,4,(.ag (.pr (.v t30) (.pr (.v t33) (.pr (.o true t64 64) .un)))))],[2,3,4],[]⟩)] .z))) (.s (sz (.j ⟨[(true,4,(.ag (.pr (.v t30) (.pr (.v t33) (.pr (.o true t64 64) .un)))))],[2,4],[]⟩ .z .z)) (.s (.b (.l ⟨[(true,4,(.ag (.pr (.v t30) (.pr (.v t33) (.pr (.o true t64 64) .un)))))],[2,4],[]⟩ [(some 2,⟨[(true,4,(.ag (.pr (.v t30) (.pr (.v t33) (.pr (.o true t64 64) .un)))))],[2,4],[]⟩)] (sz (.b (.xg ⟨[(true,4,(.ag (.pr (.v t30) (.pr (.v t33) (.pr (.o true t64 64) .un)))))],[2,4],[]⟩))))) .z))))))) func55
def s56:FS:=⟨(.cons t30 (.cons t23 .nil)),(.cons t23 .nil),[some 3],fun x=>j8 x.1 x.2.1⟩
theorem zFE:s56.ok prog 56:=fS (E0) (sz (sz (.s (sz (.b (.l ⟨[ko 5 t3 3,kv 6 t3],[1,2],[6]⟩ [(some 0,⟨[ko 5 t3 3],[],[]⟩)] (sz (.s (.b (sz (.s (sz (.j ⟨[kv 7 t3],[1,2,5,6],[7]⟩ .z .z)) .z))) .z))))) .z))) func56
def s14:FS:=⟨(.cons t25 .nil),(.cons t36 (.cons t23 .nil)),[none,none],fun x=>gJ x.1⟩
theorem zFQ:s14.ok prog 14:=fS (((E0).S zFE).J zFF) (sz (sz (.s (sz (.b (.l ⟨[ko 4 t23 23,kv 5 t3],[1,2],[5]⟩ [(some 0,⟨[ko 4 t23 23],[1,2],[]⟩)] .z))) (sz (.s (.xr [10,11] [0,1,2,3,4,5,6,7,8,9,10,11,12] [(0,[])]) .z))))) func14
def zJe:FS:=⟨(.cons t28 .nil),(.cons t28 .nil),[some 101],fun x=>YH x.1⟩
theorem zCN:zJe.ok prog 150:=fS ((E0).S Eb) (sz (sz (.s (sz (.b (.l ⟨[ko 3 t101 101,kv 8 t3],[6,7],[8]⟩ [(some 0,⟨[ko 3 t101 101],[],[]⟩)] .z))) .z))) func150
def zJc:FS:=⟨(.cons t3 (.cons t101 (.cons (.box t101) .nil))),(.cons t4 .nil),[none],fun x=>vb x.1 x.2.1 x.2.2.1⟩
theorem zCL:zJc.ok prog 152:=fS ((E0).S lH) .z func152
def zJd:FS:=⟨(.cons t28 (.cons t199 .nil)),(.cons t28 .nil),[some 101],fun x=>ym x.1 x.2.1⟩
theorem zCM:zJd.ok prog 151:=fS (E0) (sz (sz (.s (sz (.b (.l ⟨[ko 5 t101 101,kv 10 t3],[1,8,9],[10]⟩ [(some 0,⟨[ko 5 t101 101],[],[]⟩)] (sz (sz (.s (.b (sz (sz (.j ⟨[ko 5 t101 101],[1,8,9,10],[]⟩ .z .z)))) .z)))))) .z))) func151
def s77:FS:=⟨(.cons t30 (.cons t33 (.cons t28 (.cons t28 .nil)))),(.cons t33 (.cons t41 .nil)),[none,none],fun x=>Yw x.1 x.2.1 x.2.2.1 x.2.2.2.1⟩
theorem zFA:s77.ok prog 77:=fS ((((((((((E0).S Q4).S zCM).S zCL).S Ce).S zCN).S W6).S Q6).S Q5).S W2) (sz (sz (sz (sz (.s (.xr [2,5,11,13,14] [0,1,3,4,6,7,8,9,2,5,10,11,12,13,14] [(0,[]),(1,[]),(3,[]),(4,[]),(6,[]),(7,[]),(8,[]),(9,[]),(10,[]),(12,[])]) (.s (sz (.b (.l ⟨[kv 58 t3,kw 8 t33,(true,12,(.ag (.pr (.o true t4 4) (.pr (.o true t4 4) (.pr (.v t28) .un)))))],[2,3,8,12,56,57],[58,8]⟩ [(some 0,⟨[kw 8 t33,(true,12,(.ag (.pr (.o true t4 4) (.pr (.o true t4 4) (.pr (.v t28) .un)))))],[8,12],[8]⟩),(none,⟨[kv 9 t41,kw 8 t33],[8],[9,8]⟩)] (sz (sz (.s (.jb ⟨[kw 8 t33,(true,12,(.ag (.pr (.o true t4 4) (.pr (.o true t4 4) (.pr (.v t28) .un)))))],[2,3,8,12,56,57,58],[8]⟩ (sz (sz (sz (.s (.f [14] .z) .z))))) .z)))))) .z)))))) func77
def s26:FS:=⟨(.cons t36 (.cons t30 (.cons t23 .nil))),(.cons t33 (.cons t41 .nil)),[none,none],fun x=>gv x.1 x.2.1 x.2.2.1⟩
theorem zFM:s26.ok prog 26:=fS ((E0).S zFA) (sz (sz (.s (sz (.b (.l ⟨[kv 17 t3,kw 6 t33,kw 8 t33],[3,4,6,8,15,16],[17,6,8]⟩ [(some 0,⟨[kw 6 t33,kw 8 t33],[6,8],[6,8]⟩),(none,⟨[kv 7 t41,kw 6 t33],[6],[7,6]⟩)] (sz (sz (.s (.b (sz (sz (.s (.xr [18,19] [0,1,2,3,4,5,6,7,8,9,10,11,12,13,14,15,16,17,18,19,20] [(0,[]),(1,[]),(2,[]),(3,[]),(4,[]),(5,[]),(6,[]),(7,[]),(8,[]),(9,[]),(10,[]),(11,[]),(12,[]),(13,[]),(14,[]),(15,[]),(16,[]),(17,[11])]) .z)))) .z)))))) .z))) func26
def s30(n:Nat):FS:=⟨(.cons t3 (.cons t3 .nil)),(.cons t22 .nil),[some 23],fun x=>gQ n x.1 x.2.1⟩
theorem zFL:∀n,(s30 n).ok prog 30:=zGi ⟨_,func30,rfl,by kernel_rfl⟩ (fun _=>rfl) fun n ih=>fS ((E0).S ih) (sz (sz (.s (sz (.b (.l ⟨[ko 5 t23 23,kv 6 t3],[1],[6]⟩ [(some 0,⟨[ko 5 t23 23],[],[]⟩)] (sz (.s (.b (sz (sz (.b (.l ⟨[ko 5 t23 23,kv 8 t3],[1,6,7],[8]⟩ [(some 2,⟨[ko 5 t23 23],[1,6],[]⟩)] .z))))) .z))))) .z))) func30
def s82:FS:=⟨(.cons t36 (.cons t23 .nil)),(.cons t131 (.cons t4 .nil)),[none,none],fun x=>Kr x.1 x.2.1⟩
theorem W1:s82.ok prog 82:=fS ((E0).S Q3) (sz (.s (sz (.b (.l ⟨[kv 10 t3,kw 4 t131],[1,2,4,8,9],[10,4]⟩ [(some 0,⟨[kw 4 t131],[1,4],[4]⟩),(none,⟨[kv 5 t4,kw 4 t131],[4],[5,4]⟩)] .z))) .z)) func82
def s31:FS:=⟨(.cons t36 (.cons t23 .nil)),(.cons t4 (.cons t41 .nil)),[none,none],fun x=>Y1 x.1 x.2.1⟩
theorem zFK:s31.ok prog 31:=fS ((((E0).S SQ).S W1).S Hh) .z func31
def s32:FS:=⟨(.cons t36 (.cons t23 .nil)),(.cons t4 .nil),[none],fun x=>ZF x.1 x.2.1⟩
theorem zFJ:s32.ok prog 32:=fS (((((E0).S Wz).S W0).S W1).S Hh) .z func32
def s6:FS:=⟨(.cons t25 .nil),(.cons t4 .nil),[none],fun x=>jc x.1⟩
theorem zKQ:s6.ok prog 6:=fS ((((((((((E0).S zFJ).S zFK).S (zFL 40)).S zAB).S zFM).S zAD).S zAC).S zFQ).S zFR) (sz (sz (sz (sz (sz (sz (.s (sz (.j ⟨[],[3,4,7,8,9],[]⟩ .z .z)) (sz (sz (.s (sz (.b (.l ⟨[kv 78 t3],[3,4,7,8,13,76,77],[78]⟩ [(some 0,⟨[],[3],[]⟩),(none,⟨[kv 2 t4],[],[2]⟩)] (sz (sz (.s (.jb ⟨[],[3,4,7,8,13,76,77,78],[]⟩ (sz (sz (sz (sz (.s (sz (.b (.l ⟨[kv 18 t3,kv 102 t3],[3,4,7,8,13,76,77,78,100,101],[18,102]⟩ [(some 2,⟨[kv 18 t3],[3,4,7,8,13,76,77,78],[18]⟩)] .z))) .z)))))) .z)))))) .z)))))))))) func6
end Go.Dn
end
section
namespace Go.Lift
open Go Go.RowKit Go.Eng Go.ChangeShapes Go.WideShapes Go.ChangeAt Go.Joins Go.Deep Go.WideElems
variable {H:Type} {enc:TypeId×Value→H} {P:Program} {w:World} {base:Nat} {sp:Nat→Bool} {held:Bool} {α β γ:Type}
abbrev O0:zR:=fun _=>0
structure Opens(enc:TypeId×Value→H)(P:Program)(w:World)(base:Nat)(sp:Nat→Bool)(held:Bool)(t:Nat)(r:GR α)(Q:α→Prop):Prop where
 size:P.cellsOf t=r.sz
 fits:r.fits
 op:∀fuel cs x,DataW.trod enc P w base sp held fuel t cs=some x→∃y,r.rel O0 w cs y∧Q y
theorem Ia{t:Nat}{k:IntKind}(ht:P.underlying t=some (.int k))(hs:P.cellsOf t=1):Opens enc P w base sp held t (WL k) fun n=>(Lit.int k n).wf=true :=
 ⟨hs,fun _=>rfl,fun fuel cs x h=>by obtain⟨n,h1,_,h2⟩:=DataW.trod_int ht h;exact⟨n,h1,h2⟩⟩
theorem GN{r:GR α}{O:zR}{Q:α→Prop}:∀ {vs:List Value},(∀v∈vs,∃y,r.v O w v y∧Q y)→∃ys,yr r O w vs ys∧∀y∈ys,Q y
 | [],_=>⟨[],trivial,by simp⟩
 |v::vs,h=>by
   obtain⟨y,h1,h2⟩:=h v (by simp)
   obtain⟨ys,h3,h4⟩:=GN (vs:=vs) fun u hu=>h u (zLN _ hu)
   exact⟨y::ys,⟨h1,h3⟩,fun z hz=>(zLH.1 hz).elim (fun e=>by rw[e];exact h2) (h4 z)⟩
theorem wg{t e:Nat}{r:GR α}{Q:α→Prop}(ht:P.underlying t=some (.slice e))(hs:P.cellsOf t=1)(hE:Opens enc P w base sp held e r Q)(hpos:0<r.sz):Opens enc P w base sp held t (rSl r) fun xs=>(∀x∈xs,Q x)∧xs.length≤maxLen:=by
 refine⟨hs,fun _=>rfl,fun fuel cs x h=>?_⟩
 rcases DataW.trod_slice ht h with ⟨rfl,_⟩|⟨a,len,cap,elems,rest,n,_,rfl,_,hb,hl,hm,hlen,hel,_,_⟩
 ·exact⟨[],⟨_,[],rfl,⟨none,0,rfl,by simp,by simp,.inl rfl⟩,trivial,fun h=>absurd rfl h⟩,by simp,by simp⟩
 ·have each:∀i,i<len→∃cs,w.cells? base (a.add (i * r.sz)) r.sz=some cs∧∃y,r.rel O0 w cs y∧Q y:=by
   intro i hi;have:=hel i hi
   rw[zLT (by omega),hE.size,Option.bind_eq_some_iff]at this
   obtain⟨cs,h1,h2⟩:=this;exact⟨cs,h1,hE.op n cs _ h2⟩
  let f:Nat→Value:=fun i=>yE r.agg ((w.cells? base (a.add (i * r.sz)) r.sz).getD [])
  have hf:∀i,i<len→∃y,r.v O0 w (f i) y∧Q y:=by
   intro i hi;obtain⟨cs,h1,y,h2,h3⟩:=each i hi;exact⟨y,⟨cs,h2,by show yE r.agg ((w.cells? base (a.add (i * r.sz)) r.sz).getD [])=_;rw[h1];rfl⟩,h3⟩
  have hfc:∀i,i<len→∀j,j<r.sz→w.cell? (a.add (i * r.sz+j))=(f i).cells[j]?:=by
   intro i hi j hj;obtain⟨cs,h1,y,h2,_⟩:=each i hi;have h4:=(World.cells?_some h1).2.2 j hj
   have h5:(f i).cells=cs.toArray:=by
    show (yE r.agg ((w.cells? base (a.add (i * r.sz)) r.sz).getD [])).cells=_
    rw[h1];exact j6 (fun ha=>by show cs.length=1;rw[r.len h2,hE.fits ha]) (r.one h2)
   rw[h5,List.getElem?_toArray,←h4];rw[_root_.Go.Addr.add_add]
  obtain⟨ys,h1,h2⟩:=GN (r:=r) (O:=O0) (w:=w) (Q:=Q) (vs:=(List.range len).map f) (by
   intro v hv;obtain⟨i,hi,rfl⟩:=List.mem_map.1 hv;exact hf i (List.mem_range.1 hi))
  have hyl:ys.length=len:=by have:=h1.len;simpa using this.symm
  refine⟨ys,⟨_,(List.range len).map f,rfl,⟨some a,cap,by simp,by simpa using hl,?_,?_⟩,h1,?_⟩,h2,by omega⟩
  ·intro v hv
   obtain⟨y,hy⟩:∃y,r.v O0 w v y:=by
    obtain⟨i,hi,rfl⟩:=List.mem_map.1 hv;obtain⟨y,hy,_⟩:=hf i (List.mem_range.1 hi);exact⟨y,hy⟩
   exact r.Zb hE.fits hy
  ·by_cases h0:len=0
   ·left;simp[h0]
   ·right
    obtain⟨b,off,spot⟩:=a;have hc0:(w.cell? (Addr.add ⟨b,off,spot⟩ (0 * r.sz+0))).isSome=true:=by
     rw[hfc 0 (by omega) 0 hpos]
     obtain⟨y,hy,_⟩:=hf 0 (by omega)
     have:=r.Zb hE.fits hy;rw[Array.getElem?_eq_getElem (by omega)];rfl
    obtain⟨v0,hv0⟩:=Option.isSome_iff_exists.1 hc0;have hspot:spot=none:=by simpa[Addr.add] using World.cell?_spot hv0
    subst hspot;refine⟨b,off,rfl,fun i x hx j hj=>?_⟩
    have hi:i<len:=by have:=(zLJ.1 hx).1;simpa using this
    have hx':x=f i:=by
     rw[List.getElem?_map,List.getElem?_range hi]at hx;simpa using hx.symm
    rw[hx',←hfc i hi j hj];unfold Addr.add;split
    ·rename_i h0;congr 1;simp[h0]
    ·rfl
  ·intro hne g hg
   have h0:0<len:=by
    rcases Nat.eq_zero_or_pos len with h0|h0
    ·subst h0;exact absurd rfl hne
    ·exact h0
   have hgb:g=a.block:=by
    have:(Value.slice (some a) len cap).ownBlock=some a.block:=rfl;rw[this]at hg;exact(Option.some.inj hg).symm
   subst hgb;refine⟨?_,rfl⟩;obtain⟨cs,h3,_⟩:=each 0 h0;have h4:=(World.cells?_some h3)
   have h5:=h4.2.2 0 hpos;rw[zLT (by omega)]at h5
   have he:(a.add (0 * r.sz)).add 0=a:=by simp[Addr.add]
   rw[he]at h5;exact World.block_lt_of_cell? _ _ h5
theorem NT{t:Nat}{r:GR α}{Q:α→Prop}{v:Value}{d:DataW H}{ps:List MemPlace}(hE:Opens enc P w base sp held t r Q)(hv:yE r.agg v.cells.toList=v)(h:DataW.Trod enc P w base sp held t v d ps):∃x,r.v O0 w v x∧Q x:=by
 obtain⟨fuel,hf⟩:=h;obtain⟨y,h1,h2⟩:=hE.op fuel _ _ hf;exact⟨y,⟨_,h1,hv.symm⟩,h2⟩
theorem zCs:OkO O0 w:=fun _ _=>rfl
theorem zHb(cs:List Value)(off s:Nat):cs.drop off=(cs.drop off).take s++cs.drop (off+s):=by
 rw[←List.drop_drop,List.take_append_drop]
theorem Opens.at_{t:Nat}{r:GR α}{Q:α→Prop}(hE:Opens enc P w base sp held t r Q){off n:Nat}{cs:List Value}{y}(h:DataW.trod enc P w base sp held n t ((cs.drop off).take (P.cellsOf t))=some y):∃a,r.rel O0 w ((cs.drop off).take r.sz) a∧Q a:=by
 rw[hE.size]at h;exact hE.op n _ _ h
theorem AA{t:Nat}{fs:Array Field}{r:GR α}{Q:α→Prop}{re:Reach}{b0:Nat}{v:Value}{d:DataW H}{ps:List MemPlace}(ht:P.underlying t=some (.struct fs))(hE:Opens enc P w base sp held t r Q)(ha:r.agg=true)(hval:Value.okWide P w re b0 t v)(h:DataW.Trod enc P w base sp held t v d ps):∃x,r.v O0 w v x∧Q x:=by
 obtain⟨cs,rfl,_⟩:=okWide_struct ht hval;exact NT hE (by simp[Value.cells,yE,ha]) h
end Go.Lift
end
section
namespace Go.Den
open Go Go.RowKit Go.Eng Go.Lift Go.ChangeShapes Go.WideShapes Go.ChangeAt Go.Joins Go.Deep Go.WideElems
variable {H:Type} {enc:TypeId×Value→H} {P:Program} {w:World} {base:Nat} {sp:Nat→Bool} {held:Bool} {α β γ:Type}
theorem DP{rs vs:List Value}{v v1:Value}(h3:kc rs v)(h4:rs=v1::vs)(h7:vs=[]):v=v1:=by
 subst h7 h4;rcases h3 with h|h
 ·cases h
 ·exact h
end Go.Den
end
