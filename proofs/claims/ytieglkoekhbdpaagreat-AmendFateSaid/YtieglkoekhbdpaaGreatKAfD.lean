/- Lemmas behind a claim. -/
import Derived.Test.YtieglkoekhbdpaaGreatKAfC
import Derived.Scope
import Derived.RecoverIn
set_option linter.unusedSimpArgs false
set_option linter.unusedVariables false
open Go.Lift.Comp (tW run_bind qL run_pure zA Xr zN vM)
section
namespace Go.Den
open Go Go.RowKit Go.Eng Go.Lift
variable {α β γ δ:Type}
def PL:Nat:=1000000007
theorem AK{ι:Nat→Nat}{fr:Nat}{M:MS}(hinj:∀k k' e e',look M k=some e→look M k'=some e'→e.2.own=true→e'.2.own=true→ι k=ι k'→k=k')(hfr:∀k e,look M k=some e→ι k≠fr){ks:List Nat}{qs:List (Option Nat)}(hn:(ks++yf qs).Nodup)(hq:qs.length≤1)
  (h1:∀k∈ks,∃e,look M k=some e∧e.2.own=true) (h2:∀j,some j∈qs→∃e,look M j=some e∧e.2.own=true) {X:Cx} (hX:X.ι=ι):(ks.map ι++qs.map (tgQ X fr)).Nodup:=by
 have hall:∀k∈ks++yf qs,∃e,look M k=some e∧e.2.own=true:=fun k hk=>by
  rcases zLM.1 hk with hk|hk
  ·exact h1 k hk
  ·exact h2 k (YY.1 hk)
 have hmap:∀ {l:List Nat},(∀k∈l,∃e,look M k=some e∧e.2.own=true)→l.Nodup→(l.map ι).Nodup:=by
  intro l
  induction l with
  |nil=>intro _ _;exact List.nodup_nil
  |cons k l ih =>
   intro hl hn;obtain⟨g1,g2⟩:=List.nodup_cons.1 hn;refine List.nodup_cons.2 ⟨fun hm=>?_,ih (fun j hj=>hl j (by simp[hj])) g2⟩
   obtain⟨j,hj,hjk⟩:=List.mem_map.1 hm;obtain⟨e,a1,a2⟩:=hl k (by simp)
   obtain⟨e',b1,b2⟩:=hl j (by simp[hj])
   exact g1 ((hinj j k e' e b1 a1 b2 a2 hjk) ▸ hj)
 cases qs with
 |nil=>simpa[yf] using hmap (fun k hk=>hall k (by simp[hk])) (by simpa[yf] using hn)
 |cons q qs =>
  have hqs:qs=[]:=by cases qs with|nil=>rfl|cons _ _=>simp at hq
  subst hqs
  cases q with
  |some j =>
   have:=hmap hall hn;simpa[yf,tgQ,hX] using this
  |none =>
   have hks:=hmap (l:=ks) (fun k hk=>hall k (by simp[hk])) (by simpa[yf] using hn)
   refine List.nodup_append.2 ⟨hks,List.nodup_cons.2 ⟨by simp,List.nodup_nil⟩,?_⟩
   intro x hx y hy;simp only[List.map_cons,List.map_nil,tgQ,List.mem_singleton]at hy;subst hy;obtain⟨k,hk,rfl⟩:=List.mem_map.1 hx;obtain⟨e,a1,_⟩:=h1 k hk;exact hfr k e a1
section
variable {F:Frm} {s:S} {a:Act} {w:World} {X:Cx} {E:VE}
variable {d:Option Tmp} {T Y:TypeId} {pos:String} {aft:Array Edge} {g:Option (Nat×Bool)} {k pn:S→Comp β}
theorem S9{f:FuncId}{x:Operand}{xs:Array Operand}{ts:Array TypeId}{fst cap:Array Value}{R:Ending→World→Prop}{K:Act→World→Prop}{Q:Exit→Act→World→Prop}{P:Program}(hf:FnOk P f)(hu:a.eval x=.func (.func f) fst cap)(h:Calls P f (fst++xs.map a.eval++cap) w R)
  (hK:∀e w',R e w'→(∃v,e=.returned v∧K (a.put d v) w')∨∃ch,e=.panicked ch∧Q (.panic ch) a w'):Oper.wp P ⟨d,.call ⟨.value x,xs,ts⟩,T,pos,aft,g⟩ a w K Q:=by
 obtain⟨fn,h1,h2,h3⟩:=hf.h;have hr:(execOp a.eval ⟨d,.call ⟨.value x,xs,ts⟩,T,pos,aft,g⟩).run P w=.ok (.enter f (fst++xs.map a.eval++cap)) w:=by
  simp only[execOp,resolve,hu,Deferred.ofValue,Sem.run_bind,Sem.run_pure,Result.andThen,invoke,callFunc,run_program,h1];simp[h2,h3]
 unfold Oper.wp;rw[hr];refine Calls.mono h fun e w' he=>?_
 rcases hK e w' he with ⟨v,rfl,hv⟩|⟨ch,rfl,hv⟩
 ·exact hv
 ·exact hv
def mB(E:VE)(s:S)(d:Option Tmp)(φ:Option AV)(l:Option (List AV))(k pn:S→Comp β):Comp β:=match φ,l with
 |some (.cl f ca cb),some l=>match E.K f with
  |none=>Comp.fail
  |some fs=>match WX ca && Nat.beq fs.zT E.Z,nT cb,Xp (l.map (fun φ=>φ.asT E.G s.M)) fs.ps with
   |true,some ks,some x=>match gL E.G f ks s.M fs.cs ks with
    |some p=>match qn (ks++yf p.2.2) && Nat.ble p.2.2.length 1 with
     |true=>(fs.sem x p.1 p.2.1).bind fun r=>match r with
      |.inl z=>pn (S.put { L:=s.L,M:=uN s.n (ks++yf p.2.2)++s.M,n:=s.n+1,ep:=s.n } (some 0) (.rd fs.zt z))
      |.inr y=>k (S.put { L:=s.L,M:=vR s.M s.n fs.cs ks p.2.2 y++s.M,n:=s.n+1,ep:=s.n } d .top)
     |false=>Comp.fail
    |none=>Comp.fail
   |_,_,_=>Comp.fail
 |_,_=>Comp.fail
theorem Inv.zGs(s:S){M:MS}(hn:∀k e,look M k=some e→e.1=s.n):Inv s { L:=s.L,M:=M++s.M,n:=s.n+1,ep:=s.n } where
 le:=zLO _
 l:=fun t e he _=>he
 m:=fun k e he hlt=>by
  rcases gE he with h1|⟨_,h2⟩
  ·rw[hn k e h1]at hlt;exact absurd hlt (Nat.lt_irrefl _)
  ·exact h2
theorem QH{M:MS}{n:Nat}:∀ {l:List CQ} {ks:List Nat} {qs:List (Option Nat)} {y:CB l} {k:Nat} {e:Nat×MV},(k,e)∈vR M n l ks qs y→e.1=n:=by
 intro l
 induction l with
 |nil=>intro ks qs y k e h;simp[vR]at h
 |cons q l ih =>
  intro ks qs y k e h
  cases q with
  |p t T =>
   cases ks with
   |nil=>simp[vR]at h
   |cons k0 ks =>
    simp only[vR]at h;rcases zLH.1 h with h|h
    ·cases h;rfl
    ·exact ih h
  |s T =>
   cases ks with
   |nil=>simp[vR]at h
   |cons k0 ks=>exact ih (y:=y) h
  |r t T =>
   cases ks with
   |nil=>simp[vR]at h
   |cons k0 ks=>exact ih (y:=y) h
  |o t T' T =>
   cases ks with
   |nil=>simp[vR]at h
   |cons k0 ks =>
    cases qs with
    |nil=>simp[vR]at h
    |cons q0 qs =>
     cases q0 with
     |some j =>
      simp only[vR]at h;rcases zLH.1 h with h|h
      ·cases h;rfl
      rcases zLH.1 h with h|h
      ·cases h;rfl
      rcases zLH.1 h with h|h
      ·cases h;rfl
      ·exact ih h
     |none =>
      simp only[vR]at h;rcases zLH.1 h with h|h
      ·cases h;rfl
      rcases zLH.1 h with h|h
      ·cases h;rfl
      ·exact ih h
theorem C8(hE:E.ok X.P)(h:RelX F s a w X)(hd:F.dst d)(h0:F.dst (some 0)){x:Operand}{xs:Array Operand}{ts:Array TypeId}{nf:Nat}{y:β}{K:Act→World→Prop}{Q:Exit→Act→World→Prop}(hr:(mB E s d (rdO s.ep s.L [] [] x) (jK (rdO s.ep s.L [] []) xs.toList) k pn).run nf=some y)
  (hK:∀s' v w',Rel F s' (a.put d v) w'→Inv s s'→(k s').run nf=some y→K (a.put d v) w')
  (hP:∀s' v w',Rel F s' (a.put (some 0) v) w'→Inv s s'→(pn s').run nf=some y→Q (.panic [{ v:=.iface E.Z v,recovered:=false }]) a w'):Oper.wp F.P ⟨d,.call ⟨.value x,xs,ts⟩,T,pos,aft,g⟩ a w K Q:=by
 rw[←h.P];rw[←h.ep]at hr;unfold mB at hr;split at hr
 ·rename_i f ca cb l hφ hl
  split at hr
  ·cases hr
  ·rename_i fs hs
   split at hr
   ·rename_i ks x0 hun hnums hx0
    rw[zLD]at hun;split at hr
    ·rename_i p hp
     split at hr
     ·rename_i hnd
      rw[zLD]at hnd;obtain⟨r,hr0,hr⟩:=run_bind hr;have H:=h.rd (Op.operands (.call ⟨.value x,xs,ts⟩))
      have k1:=H x _ (by simp[Op.operands,Call.operands]) hφ
      obtain⟨vs,us,e1,e2,e3⟩:=k1;have hca:=mQ hun.1
      subst hca;have hvs:vs=[]:=e1
      subst hvs;have hcb:=qT hnums
      subst hcb;obtain⟨eus,hall⟩:=lZ e2;subst eus;have hlen:=jg hl
      have hget:=Kl hE.G h.m (a:=a) hl fun z ψ hz hψ=>H z ψ (by have hz':z∈xs:=Array.mem_toList_iff.1 hz;simp[Op.operands,Call.operands,hz']) hψ
      have hargs:fs.ps.args X.P X.O w (xs.toList.map a.eval) x0:=kZ hx0 (by simp[hlen]) hget
      obtain⟨fr,hf0,hfr⟩:=ZL X.ι s.M F.x.st;obtain⟨i1,i2,bl,ss,i3,i4⟩:=Ki hE.G h.m (fr:=fr) hp;have hus:ks.map X.U=K2 bl:=by
       have:∀ {ks bl:List Nat},BKs X ks bl→ks.map X.U=K2 bl:=by
        intro ks
        induction ks with
        |nil=>intro bl hb;cases bl with|nil=>rfl|cons=>exact hb.elim
        |cons k ks ih =>
         intro bl hb
         cases bl with
         |nil=>exact hb.elim
         |cons b bl=>rw[List.map_cons,hb.1,ih hb.2];rfl
       exact this i3
      obtain⟨f1,f2⟩:=hE.K f fs hs;have hq1:=Nat.le_of_ble_eq_true hnd.2
      have o1:∀k∈ks,∃e,look s.M k=some e∧e.2.own=true:=fun k hk=>by obtain⟨_,_,_,_,q⟩:=i1 k hk;exact⟨_,q,rfl⟩
      have o2:∀j,some j∈p.2.2→∃e,look s.M j=some e∧e.2.own=true:=fun j hj=>by obtain⟨_,_,_,_,_,q⟩:=i2 j hj;exact⟨_,q,rfl⟩
      have hnodup:=AK (X:=X) h.inj hfr (wL hnd.1) hq1 o1 o2 rfl;have hzero:0 ∉ ks.map X.ι++p.2.2.map (tgQ X fr):=fun hm=>by
       rcases zLM.1 hm with hm|hm
       ·obtain⟨k,hk,e⟩:=List.mem_map.1 hm
        obtain⟨e',q1,q2⟩:=o1 k hk;exact(h.pos k e' q1 q2).1 e
       ·obtain⟨q,hq,e⟩:=List.mem_map.1 hm
        cases q with
        |none=>exact hf0.1 e
        |some j =>
         obtain⟨e',q1,q2⟩:=o2 j hq;exact(h.pos j e' q1 q2).1 e
      have hG:∀b,lA X p.2.2 b→b<w.heap.size∧X.O b∈p.2.2.map (tgQ X fr):=fun b hb=>by
       obtain⟨j,hj,hg⟩:=hb;obtain⟨st,nw,t,T',xs',hl'⟩:=i2 j hj;have hO:=h.m j _ hl'
       change zu (X.ι j) (t.gr X.P) T' (X.B nw) X.O w (X.U j) xs' at hO
       exact⟨(hO.ge b hg).2,List.mem_map.2 ⟨some j,hj,(hO.tagged b hg).symm⟩⟩
      have hCnt:=i4 (lA X p.2.2) fun g hg=>hg
      rw[hus]at hCnt;have hc:=f2 X.O w h.okO _ x0 p.1 p.2.1 bl (ks.map X.ι) (p.2.2.map (tgQ X fr)) ss (lA X p.2.2) hargs hCnt hnodup hzero hG (by simpa using hq1) nf r hr0
      have harr:(xs.toList.map a.eval++K2 bl).toArray=#[]++xs.map a.eval++(ks.map X.U).toArray:=by
       rw[hus,show xs.map a.eval=(xs.toList.map a.eval).toArray by rw[←Array.toList_map]];simp
      rw[harr]at hc;refine S9 f1 e3 hc fun e w' he=>?_
      obtain⟨O',hKK,he⟩:=he;have hinv1:Inv s { L:=s.L,M:=uN s.n (ks++yf p.2.2)++s.M,n:=s.n+1,ep:=s.n }:=Inv.zGs s fun k e hk=>by rw[(Yh hk).1]
      cases r with
      |inl z =>
       obtain⟨v,e4,e5⟩:=he;refine .inr ⟨_,e4,?_⟩;obtain⟨X',hX',hO',hP'⟩:=h.zGM hE.G hp i3 hKK;have hv:=hX'.val (Ext.refl w') h0 (v:=v) (φ:=.rd fs.zt z) (by show (fs.zt.gr X'.P).v X'.O w' v z;rw[hP',hO'];exact e5)
       rw[zLC hun.2];exact hP _ v w' ⟨_,hv⟩ (hinv1.trans (Inv.put _ _ _)) hr
      |inr y' =>
       obtain⟨⟨v,rfl⟩,ss',hC'⟩:=he;refine .inl ⟨v,rfl,?_⟩;rw[←hus]at hC';obtain⟨X',hX'⟩:=h.zKh (fr:=fr) hE.G hp hq1 ⟨hf0,hfr⟩ (fun k hk=>by have:=hall k hk;rw[h.n]at this;exact this) i3 hKK hC'
       have hv:=hX'.val (Ext.refl w') hd (v:=v) (φ:=.top) trivial;exact hK _ v w' ⟨_,hv⟩ ((Inv.zGs s fun k e hk=>QH (ZI hk)).trans (Inv.put _ _ _)) hr
     ·cases hr
    ·cases hr
   ·cases hr
 ·cases hr
def zGD:TypeDesc→Bool
 |.interface _=>true
 |_=>false
def SF(E:VE)(s:S)(o p:Oper)(pn:S→Comp β):Comp β:=match o.op,p.op with
 |.makeInterface Y x,.panic z=>match o.dst,z,look E.T Y,rdO s.ep s.L [] [] x with
  |some d,.tmp d',some i,some φ=>match Nat.beq d d' && (Nat.beq Y E.Z && !zGD i.dd) with
   |true=>pn ((s.put (some d) .top).put (some 0) φ)
   |false=>Comp.fail
  |_,_,_,_=>Comp.fail
 |_,_=>Comp.fail
theorem wN{W:OpW}{ops:Array Oper}{q:Act→World→Prop}:∀(l m:List Oper),vy W ops q (l++m)=vy W ops (vy W ops q m) l
 | [],m=>rfl
 |o::l,m=>by funext a w;simp only[List.cons_append,vy,wN l m]
theorem Mu(hE:E.ok X.P)(h:RelX F s a w X)(h0:F.dst (some 0)){o p:Oper}(hd:F.dst o.dst)(hg1:o.guard.isNone=true)(hg2:p.guard.isNone=true){nf:Nat}{y:β}{Q:Exit→Act→World→Prop}{q:Act→World→Prop}{all:Array Oper}(hr:(SF E s o p pn).run nf=some y)
  (hP:∀s' a' v w',Rel F s' (a'.put (some 0) v) w'→Inv s s'→(pn s').run nf=some y→Q (.panic [{ v:=.iface E.Z v,recovered:=false }]) a' w'):vy (F.W Q) all q [o,p] a w:=by
 obtain⟨d,op,T1,pos1,aft1,g1⟩:=o;obtain⟨d2,op2,T2,pos2,aft2,g2⟩:=p;have hg1:g1=none:=by cases g1 with|none=>rfl|some _=>cases hg1
 have hg2:g2=none:=by cases g2 with|none=>rfl|some _=>cases hg2
 subst hg1 hg2;unfold SF at hr;split at hr
 ·rename_i Y x z hop hop2
  dsimp only at hop hop2;subst hop hop2;split at hr
  ·rename_i d' d'' i φ hd' hi hφ
   subst hd';split at hr
   ·rename_i hc
    simp only[zLD,Bool.not_eq_true']at hc;obtain⟨c1,c2,c3⟩:=hc;have c1:=zLC c1
    have c2:=zLC c2;subst c1 c2;rw[←h.ep]at hφ;have hv:=h.rd #[x] x φ (by simp) hφ
    have hT:=(hE.T _ _ hi).ty;have hP':X.P=F.P:=h.P
    rw[hP']at hT;simp only[vy,Region.wanted,if_true];refine j4 (fun c e=>nomatch e) ?_
    have hu:(underlying E.Z).run F.P w=.ok i.dd w:=by simp[underlying,hT.u]
    have hr1:(execOp a.eval ⟨some d',.makeInterface E.Z x,T1,pos1,aft1,none⟩).run F.P w=.ok (.value (.iface E.Z (a.eval x))) w:=by
     cases hdd:i.dd<;>rw[hdd]at hu c3<;>first|(cases c3;done)|simp[execOp,Instr.makeInterface,hu]
    unfold Oper.wp;rw[hr1];show (F.W Q) _ _ _ _
    refine j4 (fun c e=>nomatch e) ?_
    have hget:(a.put (some d') (.iface E.Z (a.eval x))).eval (.tmp d')=.iface E.Z (a.eval x):=yg h.fit (hd d' rfl).1 _;have hr2:(execOp (a.put (some d') (.iface E.Z (a.eval x))).eval ⟨d2,.panic (.tmp d'),T2,pos2,aft2,none⟩).run F.P w=.halt (.panic (.iface E.Z (a.eval x))) w:=by
     simp[execOp,hget];rfl
    unfold Oper.wp;rw[hr2];have hX1:=h.val (Ext.refl w) (d:=some d') (fun t ht=>hd t ht) (v:=.iface E.Z (a.eval x)) (φ:=.top) trivial
    have hle:X.le w { X with n:=s.n+1 } w:=⟨rfl,zg.refl _ _ _,fun _ _=>rfl,by rw[h.n];exact zLO _,rfl⟩
    have hX2:=hX1.val (Ext.refl w) h0 ((φ.mono hle fun _=>Ext.refl _).1 _ hv)
    exact hP _ _ _ _ ⟨_,hX2⟩ ((Inv.put _ _ _).trans (Inv.put _ _ _)) hr
   ·cases hr
  ·cases hr
 ·cases hr
end
def zEB(E:VE)(ops:List Oper)(s:S)(k pn:S→Comp β):Comp β:=match ops.reverse with
 |o::rest=>match o.op with
  |.call c=>match c.callee with
   |.value x=>match o.guard.isNone with
    |true=>Z0 E (wrS ops) ops (fun s'=>mB E s' o.dst (rdO s'.ep s'.L [] [] x) (jK (rdO s'.ep s'.L [] []) c.args.toList) k pn) rest.reverse s
    |false=>Comp.fail
   |_=>Comp.fail
  |.panic _=>match rest with
   |q::rest=>match q.guard.isNone && o.guard.isNone with
    |true=>Z0 E (wrS ops) ops (fun s'=>SF E s' q o pn) rest.reverse s
    |false=>Comp.fail
   | []=>Comp.fail
  |_=>Comp.fail
 | []=>Comp.fail
theorem Act.put_defers(a:Act)(d:Option Tmp)(v:Value):(a.put d v).defers=a.defers:=by cases d<;>rfl
theorem wQ{a:Act}{N:Nat}{D:List Deferred}{d:Option Tmp}{v:Value}(h:(a.put d v).fitD N D):a.fitD N D:=⟨by have:=h.size;cases d<;>simpa[Act.put] using this,(Act.put_defers a d v).symm.trans h.defers⟩
theorem Uq{F:Frm}{E:VE}(hLh:∀t φ,¬F.Lh t φ)(hE:E.ok F.P)(hN:0<F.N){id:Nat}{ops:Array Oper}(hok:Xk F.N ops.toList=true){s0 s:S}{a:Act}{w:World}{k pn:S→Comp β}{nf:Nat}{y:β}{Q:Exit→Act→World→Prop}
  (hR:Rel F s a w) (hi:Inv s0 s) (hr:(zEB E ops.toList s k pn).run nf=some y) (hk:∀s' a' w',Rel F s' a' w'→Inv s0 s'→(k s').run nf=some y→Q .normal a' w')
  (hP:∀s' a' v w',Rel F s' (a'.put (some 0) v) w'→Inv s0 s'→(pn s').run nf=some y→Q (.panic [{ v:=.iface E.Z v,recovered:=false }]) a' w'):F.wp (Code.region id ops false) Q a w:=by
 have h0:F.dst (some 0):=fun t ht=>by cases ht;exact⟨hN,fun φ=>hLh _ φ⟩
 have hdst:∀o∈ops.toList,(∀c,o.op≠.defer c)∧F.dst o.dst:=fun o ho=>⟨Kt hok o ho,fun t ht=>by
  obtain⟨j,hj⟩:=List.mem_iff_getElem?.1 ho;exact⟨((zW (Xt hok) hj).2.1 t ht).1,fun φ=>hLh t φ⟩⟩
 refine Jn (fun h=>nomatch h) ?_
 show Y7 (F.W Q) ops (Q .normal) (List.range ops.size) a w
 rw[List.range_eq_range',←Array.length_toList,kQ ops.toList 0 (by simp)]
 unfold zEB at hr;split at hr
 ·rename_i o rest hrev
  have hl:ops.toList=rest.reverse++[o]:=by rw[←List.reverse_reverse ops.toList,hrev];simp
  have ho:o∈ops.toList:=by rw[hl];simp
  split at hr
  ·rename_i c hop
   split at hr
   ·rename_i x hcal
    split at hr
    ·rename_i hgd
     have hmain:vy (F.W Q) ops.toList.toArray (vy (F.W Q) ops.toList.toArray (Q .normal) [o]) rest.reverse a w:=by
      refine XR hE (wrS ops.toList) hR hi hr (fun o' ho'=>hdst o' (by rw[hl];simp only[zLM];exact .inl ho')) fun s' a' w' g1 g2 g3=>?_
      obtain⟨X',hX'⟩:=g1;obtain⟨dd,op,T1,pos1,aft1,gd⟩:=o;obtain⟨cal,args,tys⟩:=c;dsimp only at hop hcal hgd g3;have hgd:gd=none:=by cases gd with|none=>rfl|some _=>cases hgd
      subst hop hcal hgd;have hEX:E.ok X'.P:=by rw[hX'.P];exact hE
      simp only[vy,Region.wanted,if_true];refine j4 (fun c e=>nomatch e) ?_
      refine C8 hEX hX' (hdst _ ho).2 h0 g3 (fun s2 v w2 k1 k2 k3=>hk _ _ _ k1 (g2.trans k2) k3) fun s2 v w2 k1 k2 k3=>hP _ _ _ _ k1 (g2.trans k2) k3
     rw[←wN,←hl]at hmain;exact hmain
    ·cases hr
   ·cases hr
  ·rename_i z hop
   split at hr
   ·rename_i q rest'
    split at hr
    ·rename_i hgd
     rw[zLD]at hgd;have hl2:ops.toList=rest'.reverse++[q,o]:=by rw[hl];simp
     have hq:q∈ops.toList:=by rw[hl2];simp
     have hmain:vy (F.W Q) ops.toList.toArray (vy (F.W Q) ops.toList.toArray (Q .normal) [q,o]) rest'.reverse a w:=by
      refine XR hE (wrS ops.toList) hR hi hr (fun o' ho'=>hdst o' (by rw[hl2];simp only[zLM];exact .inl ho')) fun s' a' w' g1 g2 g3=>?_
      obtain⟨X',hX'⟩:=g1;have hEX:E.ok X'.P:=by rw[hX'.P];exact hE
      refine Mu hEX hX' h0 (hdst q hq).2 hgd.1 hgd.2 g3 fun s2 a2 v w2 k1 k2 k3=>hP _ _ _ _ k1 (g2.trans k2) k3
     rw[←wN,←hl2]at hmain;exact hmain
    ·cases hr
   ·cases hr
  ·cases hr
 ·cases hr
end Go.Den
end
noncomputable section
namespace Go.Den
open Go Go.RowKit Go.Eng Go.Lift
variable {α β γ δ:Type}
inductive H
 |z
 |s (a b:H)
 |b (a:H)
 |j (sh:Sh) (a b:H)
 |jb (sh:Sh) (a:H)
 |l (sh:Sh) (ex:List (Option Nat×Sh)) (a:H)
 |xr (ch can:List Nat) (kl:List (Nat×List Nat))
 |xg (sh:Sh)
 |f (l:List Nat) (a:H)
 |y
 |q
def H.l1:H→H
 |.s x _|.j _ x _|.b x|.jb _ x|.l _ _ x=>x
 |.z|.xr .. | .xg _|.f .. | .y|.q=>.z
def H.l2:H→H
 |.s _ x|.j _ _ x=>x
 |_=>.z
def jn(f:α→Comp β)(g:(α→Comp β)→Comp β):Comp β:=g f
def amb{β:Type}(e:Bool)(c1 c2:Comp β):Comp β:=match e with
 |false=>c2
 |true=>⟨fun n=>match c1.run n,c2.run n with
  |some x,some y=>match Classical.propDecidable (x=y) with
   |isTrue _=>some x
   |isFalse _=>none
  |_,_=>none,by
   intro n m a hnm h
   cases h1:c1.run n with
   |none=>rw[h1]at h;cases h
   |some x =>
    cases h2:c2.run n with
    |none=>rw[h1,h2]at h;cases h
    |some y=>rw[h1,h2]at h;rw[c1.mono hnm h1,c2.mono hnm h2];exact h⟩
theorem u7{β:Type}{e:Bool}{c1 c2:Comp β}{n:Nat}{y:β}(h:(amb e c1 c2).run n=some y):c2.run n=some y∧(e=true→c1.run n=some y):=by
 cases e with
 |false=>exact⟨h,fun h=>nomatch h⟩
 |true =>
  unfold amb at h;simp only at h
  cases h1:c1.run n with
  |none=>rw[h1]at h;cases h
  |some x =>
   cases h2:c2.run n with
   |none=>rw[h1,h2]at h;cases h
   |some z =>
    rw[h1,h2]at h;simp only at h;split at h
    ·rename_i heq _;cases h;subst heq;exact⟨rfl,fun _=>rfl⟩
    ·cases h
def AV.nb?:Option AV→Option (Bool×Bool)
 |some (.nb p e)=>some (p,e)
 |_=>none
theorem AV.zDB{o:Option AV}{q:Bool×Bool}(h:AV.nb? o=some q):o=some (.nb q.1 q.2):=by
 unfold AV.nb? at h;split at h
 ·cases h;rfl
 ·cases h
def zHg{β:Type}(p e:Bool)(c1 c2:Comp β):Comp β:=match p with
 |true=>amb e c1 c2
 |false=>amb e c2 c1
theorem QZ{β:Type}{p e b:Bool}{c1 c2:Comp β}{n:Nat}{y:β}(h:(zHg p e c1 c2).run n=some y)(hb:b=p→e=true):(b=true→c1.run n=some y)∧(b=false→c2.run n=some y):=by
 cases p with
 |true=>exact⟨fun h1=>(u7 h).2 (hb h1),fun _=>(u7 h).1⟩
 |false=>exact⟨fun _=>(u7 h).1,fun h1=>(u7 h).2 (hb h1)⟩
def goJ(G:FE)(sh:Sh)(s s':S)(j:sh.D→Comp β):Comp β:=match sh.get G s s' with
 |some x=>j x
 |none=>Comp.fail
def ED:List (Option Nat×Sh)→Type
 | []=>Empty
 | [e]=>e.2.D
 |e::e'::l=>Sum e.2.D (ED (e'::l))
def eqO:Option Nat→Option Nat→Bool
 |none,none=>true
 |some a,some b=>Nat.beq a b
 |_,_=>false
theorem Rh{a b:Option Nat}(h:eqO a b=true):a=b:=by
 cases a<;>cases b<;>simp_all [eqO]
def Sv(G:FE)(s:S)(o:Option Nat)(s':S):(l:List (Option Nat×Sh))→Option (ED l)
 | []=>none
 | [e]=>match eqO e.1 o with
  |true=>e.2.get G s s'
  |false=>none
 |e::e'::l=>match eqO e.1 o with
  |true=>match e.2.get G s s' with
   |some x=>some (Sum.inl x:Sum e.2.D (ED (e'::l)))
   |none=>none
  |false=>match Sv G s o s' (e'::l) with
   |some x=>some (Sum.inr x:Sum e.2.D (ED (e'::l)))
   |none=>none
def ZW{σ:Type}(G:FE)(s:S)(l:List (Option Nat×Sh))(o:Option Nat)(s':S):Comp (Comp.Step σ (ED l)):=match Sv G s o s' l with
 |some x=>Comp.pure (.done x)
 |none=>Comp.fail
def toE(s:S)(ex:Nat→S→Comp β)(rt:S→Comp β)(e:Option Nat×Sh)(x:e.2.D):Comp β:=match e.1 with
 |some i=>ex i (e.2.put s x)
 |none=>rt (e.2.put s x)
def HS(s:S)(ex:Nat→S→Comp β)(rt:S→Comp β):(l:List (Option Nat×Sh))→ED l→Comp β
 | [],x=>nomatch x
 | [e],x=>toE s ex rt e x
 |e::e'::l,x=>match (x:Sum e.2.D (ED (e'::l))) with
  |.inl x=>toE s ex rt e x
  |.inr x=>HS s ex rt (e'::l) x
def J9{ε:Type}(G:FE)(sh:Sh)(s s':S):Comp (Comp.Step sh.D ε):=match sh.get G s s' with
 |some x=>Comp.pure (.next x)
 |none=>Comp.fail
def q8(s:S):List Nat→List AV
 | []=>[]
 |t::l=>match look s.L t with
  |some e=>e.2::q8 s l
  |none=>q8 s l
def exF{β:Type}(ex:Nat→S→Comp β):Nat→S→Comp β:=fun i s=>match Nat.beq i PL with
 |true=>Comp.fail
 |false=>ex i s
def MI{β:Type}(E:VE)(ops:Array Oper)(draw:Bool)(h:H)(s:S)(k pn:S→Comp β):Comp β:=match h with
 |.xr ch can kl=>zET E ops.toList ch can kl s k
 |.xg sh=>match draw with
  |false=>jn (fun x=>k (sh.put s x)) fun j=>Z0 E (wrS ops.toList) ops.toList (fun s'=>goJ E.G sh s s' j) ops.toList s
  |true=>Comp.fail
 |.q=>match draw with
  |false=>zEB E ops.toList s k pn
  |true=>Comp.fail
 |.y=>Si 0 E draw ops.toList s k
 |_=>zKo E draw ops.toList s k
def den(E:VE):Code→(β:Type)→H→S→(S→Comp β)→(Nat→S→Comp β)→(S→Comp β)→Comp β
 |.skip,_,_,s,k,_,_=>k s
 |.label _,_,_,s,k,_,_=>k s
 |.region _ ops draw,_,h,s,k,ex,_=>match h with
  |.f l h'=>MI E ops draw h' (s.YA E (q8 s l)) k (ex PL)
  |h=>MI E ops draw h s k (ex PL)
 |.seq a b,β,h,s,k,ex,rt=>den E a β h.l1 s (fun s'=>den E b β h.l2 s' k ex rt) ex rt
 |.cond c t e,β,h,s,k,ex,rt=>match (rdO s.ep s.L [] [] c).bind AV.bool? with
  |none=>match AV.nb? (rdO s.ep s.L [] [] c) with
   |some q=>zHg q.1 q.2 (den E t β h.l1 s k ex rt) (den E e β h.l2 s k ex rt)
   |none=>Comp.fail
  |some b=>match h with
   |.j sh h1 h2=>jn (fun x=>k (sh.put s x)) fun j=>if b=true then den E t β h1 s (fun s'=>goJ E.G sh s s' j) ex rt else den E e β h2 s (fun s'=>goJ E.G sh s s' j) ex rt
   |h=>if b=true then den E t β h.l1 s k ex rt else den E e β h.l2 s k ex rt
 |.block id c,β,h,s,k,ex,rt=>match h with
  |.jb sh h1=>jn (fun x=>k (sh.put s x)) fun j=>den E c β h1 s (fun s'=>goJ E.G sh s s' j) (fun i s'=>match Nat.beq i id with|true=>goJ E.G sh s s' j|false=>ex i s') rt
  |h=>den E c β h.l1 s k (fun i s'=>match Nat.beq i id with|true=>k s'|false=>ex i s') rt
 |.loop c,β,h,s,k,ex,rt=>match h with
  |.l sh l h1=>match sh.get E.G s s with
   |none=>Comp.fail
   |some x0=>(Comp.loop (fun x=>den E c (Comp.Step sh.D (ED l)) h1 (sh.put s x) (J9 E.G sh s) (fun i s'=>ZW E.G s l (some i) s') (ZW E.G s l none)) x0).bind (HS s ex rt l)
  |_=>Comp.fail
 |.scope c,β,h,s,k,ex,rt=>den E c β h.l1 s k ex rt
 |.exit i,_,_,s,_,ex,_=>ex i s
 |.ret,_,_,s,_,_,rt=>rt s
 |.rangeFunc g ps asg bd,β,h,s,k,ex,rt=>match h with
  |.l sh l h1=>match zDy (rdO s.ep s.L [] [] g),sh.get E.G s.ZU s.ZU with
   |some q,some x0=>q.2.bind fun xs=>(wA (fun x d=>Cp ps.toList q.1 d (sh.put s.ZU x) fun s2=>den E asg (Comp.Step sh.D (ED l)) h1.l1 s2
     (fun s3=>den E bd (Comp.Step sh.D (ED l)) h1.l2 s3.tick (fun s'=>J9 E.G sh s.ZU (s'.back s.ZU.L).tick) (exF fun i s'=>ZW E.G s.ZU l (some i) (s'.back s.ZU.L).tick) (fun s'=>ZW E.G s.ZU l none (s'.back s.ZU.L).tick))
     (fun _ _=>Comp.fail) (fun _=>Comp.fail)) xs x0).bind fun r=>match r with
    |.next x=>k (sh.put s.ZU x).tick
    |.done e=>HS s.ZU (fun i s'=>ex i s'.tick) (fun s'=>rt s'.tick) l e
   |_,_=>Comp.fail
  |_=>Comp.fail
 |_,_,_,_,_,_,_=>Comp.fail
def okC(N:Nat):Code→Bool
 |.region _ ops _=>Xk N ops.toList && Nat.blt 0 N
 |.seq a b=>okC N a && okC N b
 |.cond _ a b=>okC N a && okC N b
 |.block id a=>okC N a && !(Nat.beq id PL)
 |.loop a|.scope a=>okC N a
 |.exit id=>!(Nat.beq id PL)
 |.rangeFunc _ ps a b=>okC N a && (okC N b && (kz a && (kz b && WM N ps.toList)))
 |_=>true
theorem rY{F:Fence}{n:Nat}{P:Program}{Q:Exit→Act→World→Prop}{c:Code}(I:Nat→Act→World→Prop)(round:∀m a w,I m a w→c.wpIn F n P (Exit.then (fun a' w'=>∃m',m'<m∧I m' a' w') Q) a w){m:Nat}{a:Act}{w:World}(h₀:I m a w):(Code.loop c).wpIn F n P Q a w:=by
 intro b k cs hro hb hr;have key:∀j a w,I j a w→∃e a' w',Q e a' w'∧ArrivesIn (Machine.fenced P F) P (lone (b.atR a (.code c::.inLoop c::k)) cs w) b k cs e a' w':=by
  intro j
  induction j using Nat.strongRecOn with
  |_ j ih =>
   intro a w hI;obtain⟨e,a₁,w₁,hq,harr⟩:=round j a w hI b (.inLoop c::k) cs hro hb hr
   cases e with
   |normal =>
    obtain⟨m',hlt,hI₁⟩:=hq;obtain⟨e₂,a₂,w₂,hq₂,harr₂⟩:=ih m' hlt a₁ w₁ hI₁;exact⟨e₂,a₂,w₂,hq₂,.of_steps (StepsIn.trans harr (.one (fenced_calm hb hr rfl) stepR_inLoop)) harr₂⟩
   |exit id=>exact⟨_,a₁,w₁,hq,.pass (x:=.inLoop c) rfl (fun _ _=>.inl (by simp)) harr⟩
   |goto l=>exact⟨_,a₁,w₁,hq,.pass (x:=.inLoop c) rfl (fun _ _=>.inl (by simp)) harr⟩
   |ret=>exact⟨_,a₁,w₁,hq,.pass (x:=.inLoop c) rfl (fun _ _=>.inl (by simp)) harr⟩
   |panic ch=>exact⟨_,a₁,w₁,hq,.pass (x:=.inLoop c) rfl (fun _ _=>.inl (by simp)) harr⟩
   |outgrown=>exact⟨_,a₁,w₁,hq,.pass (x:=.inLoop c) rfl (fun _ _=>.inl (by simp)) harr⟩
 obtain⟨e,a',w',hq,harr⟩:=key _ a w h₀;exact⟨e,a',w',hq,.of_steps (.one (fenced_calm hb hr rfl) stepR_loop) harr⟩
theorem tJ{F:Fence}{n:Nat}{P:Program}{Q:Exit→Act→World→Prop}{c:Code}{a:Act}{w:World}(h:c.wpIn F n P (Exit.noGoto Q) a w):(Code.scope c).wpIn F n P Q a w:=by
 intro b k cs hro hb hr;have h0:(lone (b.atR a (.code (.scope c)::k)) cs w).fenced P F:=fenced_calm hb hr rfl
 obtain⟨e,a₁,w₁,hq,harr⟩:=h b (.inScope c::k) cs hro hb hr
 cases e with
 |normal=>exact⟨.normal,a₁,w₁,hq,.head h0 kt (StepsIn.trans harr (.one (fenced_calm hb hr rfl) rK))⟩
 |exit id =>
  have hx:exitTo id (.inScope c::k)=exitTo id k:=by simp[exitTo]
  exact⟨.exit id,a₁,w₁,hq,fun k' hk=>.head h0 kt (harr.1 k' (by rw[hx];exact hk)),fun hr' hk=>let ⟨k₁,h1,h2⟩:=harr.2 hr' (by rw[hx];exact hk);⟨k₁,h1,.head h0 kt h2⟩⟩
 |goto l=>exact hq.elim
 |ret=>exact⟨_,a₁,w₁,hq,.of_steps (.one h0 kt) harr⟩
 |panic ch=>exact⟨_,a₁,w₁,hq,.of_steps (.one h0 kt) harr⟩
 |outgrown=>exact⟨_,a₁,w₁,hq,.of_steps (b:=b) (k:=k) (cs:=cs) (e:=.outgrown) (.one h0 kt) harr⟩
section
variable {F:Frm} {E:VE}
structure Ways(Z:TypeId)(F:Frm)(s0:S)(nf:Nat){β:Type}(y:β)(k:S→Comp β)(xe:Nat→S→Comp β)(rt:S→Comp β)(Q:Exit→Act→World→Prop):Prop where
 k:∀F' s' a' w',F.To F'→Rel F' s' a' w'→Inv s0 s'→(k s').run nf=some y→Q .normal a' w'
 ex:∀i,i≠PL→∀F' s' a' w',F.To F'→Rel F' s' a' w'→Inv s0 s'→(xe i s').run nf=some y→Q (.exit i) a' w'
 rt:∀F' s' a' w',F.To F'→Rel F' s' a' w'→Inv s0 s'→(rt s').run nf=some y→Q .ret a' w'
 pn:∀F' s' a' v w',F.To F'→Rel F' s' (a'.put (some 0) v) w'→Inv s0 s'→(xe PL s').run nf=some y→Q (.panic [{ v:=.iface Z v,recovered:=false }]) a' w'
theorem Ways.to{Z:TypeId}{F F':Frm}{s0:S}{nf:Nat}{β:Type}{y:β}{k:S→Comp β}{ex:Nat→S→Comp β}{rt:S→Comp β}{Q:Exit→Act→World→Prop}(h:Ways Z F s0 nf y k ex rt Q)(ht:F.To F'):Ways Z F' s0 nf y k ex rt Q :=
 ⟨fun F2 s' a' w' g=>h.k F2 s' a' w' (ht.trans g),fun i hi F2 s' a' w' g=>h.ex i hi F2 s' a' w' (ht.trans g),fun F2 s' a' w' g=>h.rt F2 s' a' w' (ht.trans g),fun F2 s' a' v w' g=>h.pn F2 s' a' v w' (ht.trans g)⟩
theorem qq(hLh:∀t φ,¬F.Lh t φ)(hE:E.ok F.P){s s1:S}{a0 a1:Act}{w0 w1:World}{F0:Frm}(hff:F.kin F0)(h0:Rel F0 s a0 w0)(h1:Rel F s1 a1 w1)(hi:Inv s s1){sh:Sh}{j:sh.D→Comp β}{nf:Nat}{y:β}(h:(goJ E.G sh s s1 j).run nf=some y) :
  ∃x,Rel F (sh.put s x) a1 w1∧Inv s (sh.put s x)∧(j x).run nf=some y:=by
 unfold goJ at h;split at h
 ·rename_i x hx
  obtain⟨g1,g2⟩:=YU hLh hE hff h0 h1 hi hx;exact⟨x,g1,g2,h⟩
 ·cases h
theorem uu(hLh:∀t φ,¬F.Lh t φ)(hE:E.ok F.P){s s1:S}{a0 a1:Act}{w0 w1:World}{F0:Frm}(hff:F.kin F0)(h0:Rel F0 s a0 w0)(h1:Rel F s1 a1 w1)(hi:Inv s s1){o:Option Nat}{ex:Nat→S→Comp β}{rt:S→Comp β}{nf:Nat}{y:β}:∀ {l:List (Option Nat×Sh)} {x:ED l},Sv E.G s o s1 l=some x→(HS s ex rt l x).run nf=some y →
  ∃s',Rel F s' a1 w1∧Inv s s'∧(match o with|some i=>ex i s'|none=>rt s').run nf=some y
 | [],x,h,_=>nomatch x
 | [e],x,h,hr=>by
  simp only[Sv]at h;split at h
  ·rename_i he
   obtain⟨g1,g2⟩:=YU hLh hE hff h0 h1 hi h;have:=Rh he
   subst this;refine⟨_,g1,g2,?_⟩;simp only[HS,toE]at hr;split at hr<;>rename_i he2<;>first|exact hr|(rw[he2];exact hr)
  ·cases h
 |e::e'::l,x,h,hr=>by
  simp only[Sv]at h;split at h
  ·rename_i he
   split at h
   ·rename_i x1 hx
    cases h
    obtain⟨g1,g2⟩:=YU hLh hE hff h0 h1 hi hx;have:=Rh he
    subst this;refine⟨_,g1,g2,?_⟩;simp only[HS,toE]at hr;split at hr<;>rename_i he2<;>first|exact hr|(rw[he2];exact hr)
   ·cases h
  ·split at h
   ·rename_i x1 hx
    cases h
    exact uu hLh hE hff h0 h1 hi hx hr
   ·cases h
theorem zAH{i:Nat}(h:(!(Nat.beq i PL))=true):i≠PL:=fun e=>by subst e;rw[Nat.beq_refl]at h;cases h
theorem u6{N:Nat}(h:Nat.blt 0 N=true):0<N:=by rw[za]at h;simpa using h
theorem Rc{β:Type}{e:Nat→S→Comp β}{s:S}{nf:Nat}{y:β}(h:(exF e PL s).run nf=some y):False:=by
 unfold exF at h;rw[Nat.beq_refl]at h;cases h
theorem Rb{β:Type}{e:Nat→S→Comp β}{i:Nat}(hi:i≠PL)(s:S):exF e i s=e i s:=by
 unfold exF;rw[show Nat.beq i PL=false by rw[zV];exact decide_eq_false hi]
theorem uf(hLh:∀t φ,¬F.Lh t φ)(hE:E.ok F.P)(hm:F.P.follows .mixedOrders=true)(hsb:F.x.sb≤F.w0.heap.size){id:Nat}{ops:Array Oper}{draw:Bool}(hN:0<F.N)(hok:Xk F.N ops.toList=true){β:Type}{h:H}{s0 s:S}{a:Act}{w:World}{k pn:S→Comp β}{nf:Nat}{y:β}{Q:Exit→Act→World→Prop}
  (hR:Rel F s a w) (hi:Inv s0 s) (hr:(MI E ops draw h s k pn).run nf=some y) (hk:∀s' a' w',Rel F s' a' w'→Inv s0 s'→(k s').run nf=some y→Q .normal a' w')
  (hP:∀s' a' v w',Rel F s' (a'.put (some 0) v) w'→Inv s0 s'→(pn s').run nf=some y→Q (.panic [{ v:=.iface E.Z v,recovered:=false }]) a' w'):F.wp (Code.region id ops draw) Q a w:=by
 unfold MI at hr;split at hr
 ·have:=Vh (id:=id) (draw:=draw) hLh hE hR hi hm hsb hok hr hk
  simpa using this
 ·rename_i sh
  split at hr
  ·dsimp only [jn]at hr
   have:=Vj (id:=id) hLh hE hR (Inv.refl s) hok hr (Q:=Q) fun s' a' w' g1 g2 g3=>by
    obtain⟨x,q1,q2,q3⟩:=qq hLh hE (Frm.Ka F) hR g1 g2 g3;exact hk _ _ _ q1 (hi.trans q2) q3
   simpa using this
  ·cases hr
 ·split at hr
  ·exact Uq hLh hE hN hok hR hi hr hk hP
  ·cases hr
 ·have:=Bt (id:=id) hLh hE hR hi hm hok hr hk
  simpa using this
 ·have:=Bt (id:=id) hLh hE hR hi hm hok hr hk
  simpa using this
theorem Yr:∀(c:Code),∀ {F:Frm},F.P.follows .mixedOrders=true→(∀t φ,¬F.Lh t φ)→E.ok F.P→okC F.N c=true→((F.x.rd=none∧F.x.nr=false)∨kz c=true)→F.x.sb=F.w0.heap.size→∀ {β:Type} {h:H} {s0 s:S} {a:Act} {w:World} {k:S→Comp β} {ex:Nat→S→Comp β} {rt:S→Comp β} {nf:Nat} {y:β} {Q:Exit→Act→World→Prop},
  Rel F s a w→Inv s0 s→(den E c β h s k ex rt).run nf=some y→Ways E.Z F s0 nf y k ex rt Q→F.wp c Q a w:=by
 intro c
 induction c with
 |skip=>intro F hm hLh hE _ hrd hsb β h s0 s a w k ex rt nf y Q hR hi hr hW;exact wpIn_skip (hW.k F s a w (.refl F) hR hi hr)
 |label l=>intro F hm hLh hE _ hrd hsb β h s0 s a w k ex rt nf y Q hR hi hr hW;exact wpIn_label (hW.k F s a w (.refl F) hR hi hr)
 |exit i=>intro F hm hLh hE hok hrd hsb β h s0 s a w k ex rt nf y Q hR hi hr hW;exact wpIn_exit (hW.ex i (zAH hok) F s a w (.refl F) hR hi hr)
 |ret=>intro F hm hLh hE _ hrd hsb β h s0 s a w k ex rt nf y Q hR hi hr hW;exact wpIn_ret (hW.rt F s a w (.refl F) hR hi hr)
 |region id ops draw =>
  intro F hm hLh hE hok hrd hsb β h s0 s a w k ex rt nf y Q hR hi hr hW;simp only[den]at hr;simp only[okC,zLD]at hok;have hN:=u6 hok.2
  split at hr
  ·rename_i l h'
   exact uf hLh hE hm (Nat.le_of_eq hsb) hN hok.1 (Rel.YA hE hR _) (hi.trans (Inv.YA _ _)) hr (fun s' a' w'=>hW.k F s' a' w' (.refl F)) fun s' a' v w'=>hW.pn F s' a' v w' (.refl F)
  ·exact uf hLh hE hm (Nat.le_of_eq hsb) hN hok.1 hR hi hr (fun s' a' w'=>hW.k F s' a' w' (.refl F)) fun s' a' v w'=>hW.pn F s' a' v w' (.refl F)
 |seq x z ihx ihz =>
  intro F hm hLh hE hok hrd hsb β h s0 s a w k ex rt nf y Q hR hi hr hW;simp only[okC,zLD]at hok;simp only[den]at hr;have hrd1:(F.x.rd=none∧F.x.nr=false)∨kz x=true:=hrd.imp id fun h=>by simp only[kz,zLD]at h;exact h.1
  have hrd2:(F.x.rd=none∧F.x.nr=false)∨kz z=true:=hrd.imp id fun h=>by simp only[kz,zLD]at h;exact h.2
  refine wpIn_seq (ihx hm hLh hE hok.1 hrd1 hsb hR hi hr ⟨fun F' s' a' w' h0 h1 h2 h3=>?_,hW.ex,hW.rt,hW.pn⟩)
  have hs:=h0.same;have:=ihz (F:=F') (by rw[hs.P];exact hm) (by rw[hs.Lh];exact hLh) (by rw[hs.P];exact hE) (by rw[hs.N];exact hok.2) (by rw[hs.rd,hs.nr];exact hrd2) (by rw[hs.sb,hs.w0];exact hsb) h1 h2 h3 (hW.to h0)
  unfold Frm.wp at this;rwa[hs.P,hs.rd]at this
 |scope x ih =>
  intro F hm hLh hE hok hrd hsb β h s0 s a w k ex rt nf y Q hR hi hr hW;simp only[den]at hr;exact tJ (ih hm hLh hE hok hrd hsb hR hi hr ⟨hW.k,hW.ex,hW.rt,hW.pn⟩)
 |cond c t e iht ihe =>
  intro F hm hLh hE hok hrd hsb β h s0 s a w k ex rt nf y Q hR hi hr hW;have hrd1:(F.x.rd=none∧F.x.nr=false)∨kz t=true:=hrd.imp id fun h=>by simp only[kz,zLD]at h;exact h.1
  have hrd2:(F.x.rd=none∧F.x.nr=false)∨kz e=true:=hrd.imp id fun h=>by simp only[kz,zLD]at h;exact h.2
  simp only[okC,zLD]at hok;simp only[den]at hr;split at hr
  ·split at hr
   ·rename_i q hq
    obtain⟨b,hc,hb⟩:∃b,a.eval c=.bool b∧(b=q.1→q.2=true):=by
     obtain⟨X,hX⟩:=hR;have hq:=AV.zDB hq
     rw[←hX.ep]at hq;exact hX.rd #[c] c _ (by simp) hq
    have hr:=QZ hr hb;exact wpIn_cond_split hc (fun hbt=>iht hm hLh hE hok.1 hrd1 hsb hR hi (hr.1 hbt) hW) (fun hbf=>ihe hm hLh hE hok.2 hrd2 hsb hR hi (hr.2 hbf) hW)
   ·cases hr
  ·rename_i b hb
   have hc:a.eval c=.bool b:=by
    obtain⟨X,hX⟩:=hR;rw[←hX.ep]at hb
    cases h1:rdO X.ep s.L [] [] c with
    |none=>rw[h1]at hb;cases hb
    |some φ=>rw[h1]at hb;exact XQ (hX.rd #[c] c φ (by simp) h1) hb
   split at hr
   ·rename_i sh h1 h2
    dsimp only [jn]at hr;have hW':Ways E.Z F s nf y (fun s'=>goJ E.G sh s s' (fun x=>k (sh.put s x))) ex rt Q:=by
     refine⟨fun F' s' a' w' g0 g1 g2 g3=>?_,fun i hne F' s' a' w' g0 g1 g2 g3=>hW.ex i hne F' s' a' w' g0 g1 (hi.trans g2) g3,fun F' s' a' w' g0 g1 g2 g3=>hW.rt F' s' a' w' g0 g1 (hi.trans g2) g3,fun F' s' a' v w' g0 g1 g2 g3=>hW.pn F' s' a' v w' g0 g1 (hi.trans g2) g3⟩
     have hs:=g0.same;obtain⟨x,q1,q2,q3⟩:=qq (F:=F') (by rw[hs.Lh];exact hLh) (by rw[hs.P];exact hE) hs.kin hR g1 g2 g3
     exact hW.k _ _ _ _ g0 q1 (hi.trans q2) q3
    refine wpIn_cond_split hc (fun hbt=>?_) (fun hbf=>?_)
    ·rw[if_pos hbt]at hr;exact iht hm hLh hE hok.1 hrd1 hsb hR (Inv.refl s) hr hW'
    ·rw[if_neg (by rw[hbf];simp)]at hr;exact ihe hm hLh hE hok.2 hrd2 hsb hR (Inv.refl s) hr hW'
   ·refine wpIn_cond_split hc (fun hbt=>?_) (fun hbf=>?_)
    ·rw[if_pos hbt]at hr;exact iht hm hLh hE hok.1 hrd1 hsb hR hi hr hW
    ·rw[if_neg (by rw[hbf];simp)]at hr;exact ihe hm hLh hE hok.2 hrd2 hsb hR hi hr hW
 |block id x ih =>
  intro F hm hLh hE hok hrd hsb β h s0 s a w k ex rt nf y Q hR hi hr hW;simp only[okC,zLD]at hok;have hid:=zAH hok.2
  have hbp:Nat.beq PL id=false:=by rw[zV];exact decide_eq_false fun e=>hid e.symm
  have hok:=hok.1;simp only[den]at hr;refine wpIn_block ?_;split at hr
  ·rename_i sh h1
   dsimp only [jn]at hr;have hk:∀F' s' a' w',F.To F'→Rel F' s' a' w'→Inv s s'→(goJ E.G sh s s' (fun x=>k (sh.put s x))).run nf=some y→Q .normal a' w':=by
    intro F' s' a' w' g0 g1 g2 g3;have hs:=g0.same
    obtain⟨x,q1,q2,q3⟩:=qq (F:=F') (by rw[hs.Lh];exact hLh) (by rw[hs.P];exact hE) hs.kin hR g1 g2 g3
    exact hW.k _ _ _ _ g0 q1 (hi.trans q2) q3
   refine ih hm hLh hE hok hrd hsb hR (Inv.refl s) hr ⟨fun F' s' a' w' g0 g1 g2 g3=>hk F' s' a' w' g0 g1 g2 g3,fun i hne F' s' a' w' g0 g1 g2 g3=>?_,fun F' s' a' w' g0 g1 g2 g3=>hW.rt F' s' a' w' g0 g1 (hi.trans g2) g3,fun F' s' a' v w' g0 g1 g2 g3=>hW.pn F' s' a' v w' g0 g1 (hi.trans g2) (by rwa[hbp]at g3)⟩
   show (if i=id then Q .normal a' w' else Q (.exit i) a' w')
   cases hb:Nat.beq i id with
   |true=>rw[hb]at g3;rw[if_pos (zLC hb)];exact hk F' s' a' w' g0 g1 g2 g3
   |false =>
    rw[hb]at g3;rw[zV]at hb;rw[if_neg (by simpa using hb)];exact hW.ex i hne F' s' a' w' g0 g1 (hi.trans g2) g3
  ·refine ih hm hLh hE hok hrd hsb hR hi hr ⟨fun F' s' a' w' g0 g1 g2 g3=>hW.k F' s' a' w' g0 g1 g2 g3,fun i hne F' s' a' w' g0 g1 g2 g3=>?_,fun F' s' a' w' g0 g1 g2 g3=>hW.rt F' s' a' w' g0 g1 g2 g3,fun F' s' a' v w' g0 g1 g2 g3=>hW.pn F' s' a' v w' g0 g1 g2 (by rwa[hbp]at g3)⟩
   show (if i=id then Q .normal a' w' else Q (.exit i) a' w')
   cases hb:Nat.beq i id with
   |true=>rw[hb]at g3;rw[if_pos (zLC hb)];exact hW.k F' s' a' w' g0 g1 g2 g3
   |false =>
    rw[hb]at g3;rw[zV]at hb;rw[if_neg (by simpa using hb)];exact hW.ex i hne F' s' a' w' g0 g1 g2 g3
 |loop x ih =>
  intro F hm hLh hE hok hrd hsb β h s0 s a w k ex rt nf y Q hR hi hr hW;simp only[den]at hr;split at hr
  ·rename_i sh l h1
   split at hr
   ·cases hr
   ·rename_i x0 hx0
    obtain⟨e,he,hr⟩:=run_bind hr;obtain⟨g1,g2⟩:=YU hLh hE (Frm.Ka F) hR hR (Inv.refl s) hx0;refine rY (fun m a' w'=>∃F' x,F.To F'∧Rel F' (sh.put s x) a' w'∧Inv s (sh.put s x)∧Comp.XI (fun x=>den E _ (Comp.Step sh.D (ED l)) h1 (sh.put s x) (J9 E.G sh s) (fun i s'=>ZW E.G s l (some i) s') (ZW E.G s l none)) nf m x=some e) (fun m a' w' hI=>?_) ⟨F,x0,.refl F,g1,g2,qL he⟩
    obtain⟨F',x,q0,q1,q2,q3⟩:=hI;have hs:=q0.same
    obtain⟨m',hlt,st,hst,hn,hd⟩:=tW q3;have hdone:∀(o:Option Nat) (F2:Frm) (s':S) (a2:Act) (w2:World),F'.To F2→Rel F2 s' a2 w2→Inv s s'→(ZW (σ:=sh.D) E.G s l o s').run nf=some st→∃s2,Rel F2 s2 a2 w2∧Inv s s2∧(match o with|some i=>ex i s2|none=>rt s2).run nf=some y:=by
     intro o F2 s' a2 w2 f0 f1 f2 f3;have hs2:=(q0.trans f0).same
     unfold ZW at f3;split at f3
     ·rename_i z hz
      have hst:=run_pure f3;have:=hd z hst.symm
      subst this;exact uu (F:=F2) (by rw[hs2.Lh];exact hLh) (by rw[hs2.P];exact hE) hs2.kin hR f1 f2 hz hr
     ·cases f3
    have hgoal:∀ {cc:Code} {R:Exit→Act→World→Prop},F'.wp cc R a' w'→cc.wpIn (fw F.x.rd) 0 F.P R a' w':=fun {cc R} h=>by
     unfold Frm.wp at h;rwa[hs.P,hs.rd]at h
    refine hgoal (ih (F:=F') (by rw[hs.P];exact hm) (by rw[hs.Lh];exact hLh) (by rw[hs.P];exact hE) (by rw[hs.N];exact hok) (by rw[hs.rd,hs.nr];exact hrd) (by rw[hs.sb,hs.w0];exact hsb) q1 q2 hst ⟨fun F2 s' a2 w2 f0 f1 f2 f3=>?_,fun i hne F2 s' a2 w2 f0 f1 f2 f3=>?_,fun F2 s' a2 w2 f0 f1 f2 f3=>?_,fun F2 s' a2 v2 w2 f0 f1 f2 f3=>?_⟩)
    ·have hs2:=(q0.trans f0).same
     unfold J9 at f3;split at f3
     ·rename_i z hz
      have hst:=run_pure f3;obtain⟨r1,r2⟩:=YU (F:=F2) (by rw[hs2.Lh];exact hLh) (by rw[hs2.P];exact hE) hs2.kin hR f1 f2 hz
      exact⟨m',hlt,F2,z,q0.trans f0,r1,r2,hn z hst.symm⟩
     ·cases f3
    ·obtain⟨s2,r1,r2,r3⟩:=hdone (some i) F2 s' a2 w2 f0 f1 f2 f3
     exact hW.ex i hne F2 s2 a2 w2 (q0.trans f0) r1 (hi.trans r2) r3
    ·obtain⟨s2,r1,r2,r3⟩:=hdone none F2 s' a2 w2 f0 f1 f2 f3
     exact hW.rt F2 s2 a2 w2 (q0.trans f0) r1 (hi.trans r2) r3
    ·obtain⟨s2,r1,r2,r3⟩:=hdone (some PL) F2 s' (a2.put (some 0) v2) w2 f0 f1 f2 f3
     exact hW.pn F2 s2 a2 v2 w2 (q0.trans f0) r1 (hi.trans r2) r3
  ·cases hr
 |goto l=>intro F hm hLh hE _ hrd hsb β h s0 s a w k ex rt nf y Q hR hi hr hW;cases hr
 |refuse l=>intro F hm hLh hE _ hrd hsb β h s0 s a w k ex rt nf y Q hR hi hr hW;cases hr
 |rangeFunc g ps asg bd iha ihb =>
  intro F hm hLh hE hok hrd hsb β h s0 s a w k ex rt nf y Q hR hi hr hW;obtain⟨hrd,hnr⟩:=hrd.resolve_right (by simp[kz])
  simp only[okC,zLD]at hok;obtain⟨hoka,hokb,hna,hnb,hps⟩:=hok;simp only[den]at hr;split at hr
  case h_2=>cases hr
  rename_i sh l h1;split at hr
  case h_2=>cases hr
  rename_i q x0 hq hx0;obtain⟨xs,hxs,hr⟩:=run_bind hr;obtain⟨r,hr1,hr2⟩:=run_bind hr;obtain⟨X,hX⟩:=hR
  -- the function
  have hq:=Ug hq;rw[←hX.ep]at hq;obtain⟨cs,⟨f,us,e1,hf,hC⟩,e2⟩:=hX.rd #[g] g _ (by simp) hq
  have hg:a.eval g=.func (.func f) #[] us.toArray:=by rw[e2,e1];rfl
  clear e1 e2 cs;have his:Inv s0 s.ZU:=hi.trans (Inv.ZU s)
  generalize hs1:s.ZU=s1 at *;have hX1:RelX F s1 a w { X with n:=s.n+1 }:=hs1 ▸ hX.ZU hLh
  have hnf:∀t e,look s1.L t=some e→e.2.zm=false:=fun t e he=>by rw[←hs1]at he;exact(gh he).1
  have hkv0:∀t e,look s1.L t=some e→e.2.holds { X with n:=s.n+1 } w (a.get t):=fun t e he=>hX1.l t e he (by simp[fresh,hnf t e he])
  unfold Frm.wp;rw[hrd];refine wpIn_rangeFunc (F:=fw none) fun fn _=>?_
  -- the machine's blocks
  let D:=w.heap.size
  let r0:Loop:={ state:=.ready,pending:=none,fn:=fn,tmps:=a.tmps,params:=ps,assign:=asg,body:=bd,defers:=D }
  let wE:=(w.alloc (.deferred (some []))).alloc (.loop r0)
  let qS:Loop→Nat→Obj→Prop:=fun r c o=>(F.x.sys c o∨(c=D∧o=.deferred (some [])))∨(c=D+1∧o=.loop r)
  let kv1:Value→AV→Prop:=fun v φ=>F.x.kv v φ∨∃t e,look s1.L t=some e∧v=a.get t∧φ=e.2
  let FJ:Loop→Frm:=fun r=>{ F with x:={ F.x with sys:=qS r,kv:=kv1,sO:=X.O,sw:=w } }
  have hsz:(w.alloc (.deferred (some []))).heap.size=D+1:=by simp[D]
  have hsysF:∀c o,F.x.sys c o→c<D:=fun c o hc=>(Array.getElem?_eq_some_iff.1 (hX.ex.sys c o hc).1.1).1
  have hX2:=(hX1.Qg hsb (.deferred (some []))).Qg hsb (.loop r0);rw[hsz]at hX2;have hExt:Ext w wE:=(Ext.alloc w _).trans (Ext.alloc _ _)
  let XE:Cx:={ X with n:=s.n+1,O:=tag (tag X.O (some D) F.x.st) (some (D+1)) F.x.st }
  have hX2:RelX { F with x:={ F.x with sys:=qS r0 } } s1 a wE XE:=hX2;have hKE:zg 0 X.O w XE.O wE:=by
   refine⟨hExt.size,fun b hb h0=>⟨?_,hExt.block b hb⟩⟩
   show tag (tag X.O (some D) F.x.st) (some (D+1)) F.x.st b=0
   rw[gC (by simp only[D];intro e;cases e;omega),gC (by simp only[D];intro e;cases e;omega)];exact h0
  have hleE:({ X with n:=s.n+1 }:Cx).le w XE wE:=⟨rfl,hKE,fun _ _=>rfl,zLF _,rfl⟩
  have hexJ:Exx (FJ r0).x XE wE:=by
   refine⟨hX2.ex.st,hX2.ex.sys,fun v φ hv=>?_,hKE,hX2.ex.L⟩
   rcases hv with hv|⟨t,e,he,rfl,rfl⟩
   ·exact hX2.ex.kv v φ hv
   ·exact⟨hnf t e he,e.2.le (hnf t e he) hleE (hkv0 t e he)⟩
  have hLhJ:∀r t φ,¬(FJ r).Lh t φ:=fun r=>hLh
  have hXJ:RelX (FJ r0) s1 a wE XE:=hX2.conv (F':=FJ r0) (L':=s1.L) rfl rfl rfl rfl hLh rfl rfl rfl hX2.fit hX2.l hX2.ln hexJ;obtain⟨j1,j2⟩:=YU (F:=FJ r0) hLh hE (Frm.Ka _) ⟨_,hXJ⟩ ⟨_,hXJ⟩ (Inv.refl s1) hx0
  -- what holds between the rounds
  generalize hB:(fun x d=>Cp ps.toList q.1 d (sh.put s1 x) fun s2=>den E asg (Comp.Step sh.D (ED l)) h1.l1 s2 (fun s3=>den E bd (Comp.Step sh.D (ED l)) h1.l2 s3.tick (fun s'=>J9 E.G sh s1 (s'.back s1.L).tick) (exF fun i s'=>ZW E.G s1 l (some i) (s'.back s1.L).tick) (fun s'=>ZW E.G s1 l none (s'.back s1.L).tick)) (fun _ _=>Comp.fail) (fun _=>Comp.fail))=B at *
  let J:List q.1.D→zR→World→Prop:=fun pre O W=>∃rest x Xc,xs=pre++rest∧(wA B rest x).run nf=some r∧RelX (FJ r0) (sh.put s1 x) a W Xc∧Xc.O=O∧Inv s1 (sh.put s1 x)
  let Jx:zR→World→Prop:=fun O W=>∃c s2 Xc,RelX (FJ { r0 with state:=.done,pending:=some c }) s2 a W Xc∧Xc.O=O∧Inv s1 s2∧((∃i,i≠PL∧c=.exit i∧(ex i s2.tick).run nf=some y)∨(c=.ret∧(rt s2.tick).run nf=some y))
  have hwE:∀b,b<wE.heap.size↔b<D+2:=fun b=>by simp[wE,D]
  -- at the end
  have hend:∀(r1:Loop) (s2:S) (W:World),r1.state≠.busy→Rel (FJ r1) s2 a W→∃W',(Instr.endLoop (D+1)).run F.P W=.ok r1.pending W'∧Rel (F.mark D) s2.tick { a with defers:=nU D::a.defers } W':=by
   intro r1 s2 W hb ⟨Xc,hXc⟩;obtain⟨⟨k1,k2⟩,k3⟩:=hXc.ex.sys (D+1) (.loop r1) (.inr ⟨rfl,rfl⟩);refine⟨_,run_endLoop k1 hb,{ Xc with n:=s2.n+1,ep:=s2.n },?_⟩
   have ht:=hXc.turn (o':=.loop { r1 with state:=.exhausted }) (q:=fun c o=>F.x.sys c o∨(c=D∧o=.deferred (some []))) k2 (by have:=hX.base.size;show F.w0.heap.size≤D+1;simp only[D];omega) (Array.getElem?_eq_some_iff.1 k1).1 fun c o hc=>.inl ⟨by rcases hc with hc|⟨hc,_⟩;have:=hsysF c o hc;omega;omega,.inl hc⟩
   refine ht.conv (F':=F.mark D) (L':=s2.L) rfl rfl rfl rfl hLh rfl rfl rfl ⟨hXc.fit.size,by show nU D::a.defers=_;rw[show a.defers=F.D from hXc.fit.defers];rfl⟩ (fun t e he hf=>ht.l t e he hf) ht.ln ⟨ht.ex.st,fun c o hc=>ht.ex.sys c o hc,fun v φ hv=>ht.ex.kv v φ (.inl hv),?_,ht.ex.L⟩
   have hsince:zg 0 X.O w Xc.O (W.putObj (D+1) (.loop { r1 with state:=.exhausted })):=ht.ex.since;exact hX.ex.since.trans hsince
  have hmk:F.To (F.mark D):=.mark (.refl F) D (fun o hc=>absurd (hsysF D o hc) (Nat.lt_irrefl _)) hnr
  refine⟨D+1,[nU D],wE,{ target:=.fn (.func f) us.toArray,args:=#[.func (.yield (D+1)) #[] #[]] },wE,f,#[.func (.yield (D+1)) #[] #[]]++us.toArray,wE,?_,?_,fun _ _=>trivial,?_,fun h=>by simp[Fence.wide]at h,?_⟩
  ·show (Instr.enterLoop fn a.tmps _ _ _ none).run F.P w=_
   rw[run_enterLoop_outer]
  ·have h2:∀v,a.eval (.const v)=v:=fun _=>rfl
   simp[resolve,hg,Deferred.ofValue,h2]
  ·obtain⟨fnc,hf1,hf2,hf3⟩:=hf.h
   have hP:X.P=F.P:=hX.P;rw[hP]at hf1;simp only[invoke,callFunc,run_program,Sem.run_bind,Sem.run_pure,Result.andThen,hf1];simp[hf2,hf3]
  ·have hP:X.P=F.P:=hX.P
   obtain⟨XJ,hXJ1⟩:=j1;have hz:J [] XJ.O wE:=⟨xs,x0,XJ,rfl,hr1,hXJ1,rfl,j2⟩
   have hcall:=hC XJ.O wE hXJ1.okO hXJ1.ex.since nf xs hxs (D+1) J Jx ?_
   ·rw[hP]at hcall
    rw[show #[Value.func (Fn.yield (D+1)) #[] #[]]++us.toArray=(Value.func (.yield (D+1)) #[] #[]::us).toArray by simp]
    refine tw (m:=0) (Calls.mono hcall fun e W he=>?_)
    obtain⟨rfl,⟨O',rest,x,Xc,g1,g2,g3,g4,g5⟩|⟨O',c,s2,Xc,g3,g4,g5,g6⟩⟩:=he
    ·have hrest:rest=[]:=by simpa using g1
     subst hrest;have:=run_pure g2
     subst this;obtain⟨W',k1,k2⟩:=hend r0 _ W (by simp[r0]) ⟨_,g3⟩
     exact⟨none,W',k1,hW.k _ _ _ _ hmk k2 (his.trans (g5.trans (Inv.tick _))) hr2⟩
    ·obtain⟨W',k1,k2⟩:=hend _ s2 W (by simp) ⟨_,g3⟩
     refine⟨some c,W',k1,?_⟩;rcases g6 with ⟨i,hne,rfl,g6⟩|⟨rfl,g6⟩
     ·exact wpIn_exit (hW.ex i hne _ _ _ _ hmk k2 (his.trans (g5.trans (Inv.tick _))) g6)
     ·exact wpIn_ret (hW.rt _ _ _ _ hmk k2 (his.trans (g5.trans (Inv.tick _))) g6)
   ·-- a round
    refine⟨fun pre O1 w1 w2 ⟨rest,x,Xc,g1,g2,g3,g4,g5⟩ hE1=>⟨rest,x,Xc,g1,g2,g3.ext hE1,g4,g5⟩,fun O1 w1 w2 ⟨c,s2,Xc,g1,g2,g3,g4⟩ hE1=>⟨c,s2,Xc,g1.ext hE1,g2,g3,g4⟩,
     fun pre O1 w1 ⟨rest,x,Xc,g1,g2,g3,g4,g5⟩=>g4 ▸ g3.okO,fun O1 w1 ⟨c,s2,Xc,g1,g2,g3,g4⟩=>g2 ▸ g1.okO,?_,hz⟩
    rintro pre d post O1 w1 vs hpre ⟨rest,x,Xc,g1,g2,g3,g4,g5⟩ hvs;subst g4;have hrest:rest=d::post:=by rw[g1]at hpre;simpa using hpre
    subst hrest;obtain⟨st1,hst1,hst2⟩:=run_bind g2;rw[←hB]at hst1;obtain⟨⟨k1,k2⟩,k3⟩:=g3.ex.sys (D+1) (.loop r0) (.inr ⟨rfl,rfl⟩)
    -- the round's own frame
    let FR:Loop→Frm:=fun r=>{ F with D:=[],x:={ F.x with sys:=qS r,kv:=kv1,sO:=Xc.O,sw:=w1,rd:=some (D+1) } }
    have hfit0:(⟨a.tmps,[]⟩:Act).fitD F.N []:=⟨g3.fit.size,rfl⟩;have hXR:RelX (FR r0) (sh.put s1 x) ⟨a.tmps,[]⟩ w1 Xc:=g3.conv (F':=FR r0) (L':=(sh.put s1 x).L) rfl rfl rfl rfl hLh rfl rfl rfl hfit0 g3.l g3.ln ⟨g3.ex.st,g3.ex.sys,g3.ex.kv,zg.refl _ _ _,g3.ex.L⟩
    have hPc:Xc.P=F.P:=g3.P;rw[hP]at hvs;obtain⟨s2,X2,p1,p2,p3,p4,p5⟩:=QS (F:=FR r0) hLh hXR (by rw[hPc];exact hvs) hps hst1
    have hsince0:∀ {O2:zR} {w2:World},zg 0 Xc.O w1 O2 w2→zg 0 X.O w O2 w2:=fun h=>g3.ex.since.trans h
    rw[hP];refine⟨fn,_,asg,bd,run_yield k1 (by simp[r0,←p5]),?_⟩
    have hact:({ tmps:=(r0.params.zip vs.toArray).foldl (fun tmps p=>tmps.setIfInBounds p.1 p.2) r0.tmps,defers:=[] }:Act)=Ys ps.toList vs ⟨a.tmps,[]⟩:=by
     rw[GO,←Array.foldl_toList];simp[r0,Array.toList_zip]
    refine roundIn_of_wpIn trivial ?_;show asg.wpIn (fw (some (D+1))) 0 F.P _ { tmps:=(r0.params.zip vs.toArray).foldl (fun tmps p=>tmps.setIfInBounds p.1 p.2) r0.tmps,defers:=[] } w1
    rw[hact];refine iha (F:=FR r0) hm hLh hE hoka (.inr hna) hsb ⟨_,p1⟩ (Inv.refl s2) p4 ⟨fun F' s3 a3 w3 f0 f1 f2 f3=>?_,fun i _ F' s3 a3 w3 _ _ _ f3=>(nomatch f3),fun F' s3 a3 w3 _ _ _ f3=>(nomatch f3),fun F' s3 a3 _ w3 _ _ _ f3=>(nomatch f3)⟩
    obtain⟨X3,hX3⟩:=f1;have hs3:=f0.same
    obtain⟨⟨m1,m2⟩,m3⟩:=hX3.ex.sys (D+1) (.loop r0) (f0.sys (.inr ⟨rfl,rfl⟩))
    let rb:Loop:={ r0 with state:=.busy }
    let q':Nat→Obj→Prop:=fun c o=>(c≠D+1∧F'.x.sys c o)∨(c=D+1∧o=.loop rb)
    have hwD:F.w0.heap.size≤D+1:=by have:=hX.base.size;simp only[D];omega
    have hX4:=hX3.turn (o':=.loop rb) (q:=q') m2 (by rw[hs3.w0];exact hwD) (Array.getElem?_eq_some_iff.1 m1).1 fun c o hc=>hc.imp (fun h=>h) fun h=>⟨h.1,h.2,m3⟩
    refine⟨w3.putObj (D+1) (.loop rb),run_beginRound m1 rfl,?_⟩;show bd.wpIn (fw (some (D+1))) 0 F.P _ a3 _
    have hgoal:∀ {cc:Code} {R:Exit→Act→World→Prop} {a':Act} {w':World},(F'.sys q').wp cc R a' w'→cc.wpIn (fw (some (D+1))) 0 F.P R a' w':=fun {cc R a' w'} h=>by
     unfold Frm.wp at h
     change cc.wpIn (fw F'.x.rd) 0 F'.P R a' w' at h
     rwa[hs3.P,hs3.rd]at h
    let FK:Loop→Frm:=fun r=>{ F with x:={ F.x with sys:=qS r,kv:=kv1,sO:=Xc.O,sw:=w1 } }
    -- the end of a round
    have hback:∀(F2:Frm) (s':S) (a2:Act) (W3:World) (r1:Loop),(F'.sys q').To F2→Rel F2 s' a2 W3→Inv s2 s'→(W3.heap[D+1]?=some (.loop rb))∧Rel (FK r1) (s'.back s1.L).tick a (W3.putObj (D+1) (.loop r1)):=by
     intro F2 s' a2 W3 r1 u0 ⟨X5,hX5⟩ u2;have hs5:(FR r0).Same F2:=hs3.Mm u0.same
     have hsys5:∀ {c o},c≠D+1→qS r0 c o→F2.x.sys c o:=fun {c o} hc hq=>u0.sys (.inl ⟨hc,f0.sys hq⟩)
     obtain⟨⟨n1,n2⟩,n3⟩:=hX5.ex.sys (D+1) (.loop rb) (u0.sys (.inr ⟨rfl,rfl⟩));refine⟨n1,?_⟩;have hk5:zg 0 Xc.O w1 X5.O W3:=by
      have:=hX5.ex.since;rwa[hs5.sO,hs5.sw]at this
     have hXb:RelX (FK rb) (s'.back s1.L) a W3 X5:=by
      refine hX5.conv (F':=FK rb) (L':=s1.L) (by rw[hs5.P]) (by rw[hs5.A]) (by rw[hs5.O0]) (by rw[hs5.w0]) hLh (by rw[hs5.fe]) (by rw[hs5.bl]) (by rw[hs5.st]) hX.fit (fun t e he _=>?_) (fun t e he=>zLQ (hX1.ln t e he) ?_) ⟨by have:=hX5.ex.st;rwa[hs5.st]at this,fun c o hc=>?_,fun v φ hv=>hX5.ex.kv v φ (by rw[hs5.kv];exact hv),hk5,by have:=hX5.ex.L;rwa[hs5.Lp]at this⟩
      ·exact(hX5.ex.kv _ _ (by rw[hs5.kv];exact .inr ⟨t,e,he,rfl,rfl⟩)).2
      ·exact((g5.trans p3).trans u2).le
      ·have hst5:F2.x.st=F.x.st:=hs5.st
       have hsb5:F2.x.sb=F.x.sb:=hs5.sb;rcases hc with hc|⟨rfl,rfl⟩
       ·have hne:c≠D+1:=by
         rcases hc with hc|⟨hc,_⟩
         ·have:=hsysF c o hc;omega
         ·omega
        have:=hX5.ex.sys c o (hsys5 hne (.inl hc));rw[hst5,hsb5]at this;exact this
       ·have:=hX5.ex.sys (D+1) (.loop rb) (u0.sys (.inr ⟨rfl,rfl⟩))
        rw[hst5,hsb5]at this;exact this
     have hbO:X5.O (D+1)=F.x.st:=(hXb.ex.sys (D+1) (.loop rb) (.inr ⟨rfl,rfl⟩)).1.2;have hsbD:F.x.sb≤D+1:=(hXb.ex.sys (D+1) (.loop rb) (.inr ⟨rfl,rfl⟩)).2
     have hlt5:=(Array.getElem?_eq_some_iff.1 n1).1;have ht:=hXb.turn (o':=.loop r1) (q:=qS r1) hbO hwD hlt5 fun c o hc=>by
      rcases hc with hc|⟨rfl,rfl⟩
      ·refine .inl ⟨?_,.inl hc⟩
       rcases hc with hc|⟨hc,_⟩
       ·have:=hsysF c o hc;omega
       ·omega
      ·exact .inr ⟨rfl,rfl,hsbD⟩
     exact⟨_,ht⟩
    have hInvB:∀ {s':S},Inv s2 s'→Inv s1 (s'.back s1.L).tick:=fun {s'} hi'=>(⟨((g5.trans p3).trans hi').le,fun t e he _=>he,fun k e he hl=>((g5.trans p3).trans hi').m k e he hl⟩:Inv s1 (s'.back s1.L)).trans (Inv.tick _)
    have hJkin:∀r1,(FK r1).kin (FJ r0):=fun r1=>⟨rfl,rfl,rfl⟩
    have hKJ:∀ {r1:Loop} {s':S} {W:World} {Xg:Cx},RelX (FK r1) s' a W Xg→RelX (FJ r1) s' a W Xg:=fun {r1 s' W Xg} h=>h.conv (F':=FJ r1) (L':=s'.L) rfl rfl rfl rfl hLh rfl rfl rfl h.fit h.l h.ln ⟨h.ex.st,h.ex.sys,h.ex.kv,hsince0 h.ex.since,h.ex.L⟩
    have hdone:∀(o:Option Nat) (c:Code) (F2:Frm) (s':S) (a2:Act) (W3:World),(∀i,o=some i→i≠PL∧c=.exit i)→(o=none→c=.ret)→(F'.sys q').To F2→Rel F2 s' a2 W3→Inv s2 s'→(ZW (σ:=sh.D) E.G s1 l o (s'.back s1.L).tick).run nf=some st1 →
      ∃v w',(Instr.endRound (D+1) (some c)).run F.P W3=.ok v w'∧(∃b,Ending.returned v=.returned (.bool b)∧∃O2,zg 0 Xc.O w1 O2 w'∧match b with|true=>J (pre++[d]) O2 w'|false=>Jx O2 w'):=by
     intro o c F2 s' a2 W3 hc1 hc2 u0 u1 u2 u3;obtain⟨n1,n2⟩:=hback F2 s' a2 W3 { r0 with state:=.done,pending:=some c } u0 u1 u2;refine⟨_,_,run_endRound (some c) n1,false,rfl,?_⟩;unfold ZW at u3;split at u3
     ·rename_i z hz
      have hst:=run_pure u3;rw[←hst]at hst2;have hr:=run_pure hst2
      rw[←hr]at hr2;obtain⟨s3',⟨Xg,v1⟩,v2,v3⟩:=uu (F:=FK { r0 with state:=.done,pending:=some c }) (o:=o) (ex:=fun i s'=>ex i s'.tick) (rt:=fun s'=>rt s'.tick) hLh hE (hJkin _) ⟨_,hXJ⟩ n2 (hInvB u2) hz hr2
      refine⟨Xg.O,v1.ex.since,c,s3',Xg,hKJ v1,rfl,v2,?_⟩
      cases o with
      |some i=>exact .inl ⟨i,(hc1 i rfl).1,(hc1 i rfl).2,v3⟩
      |none=>exact .inr ⟨hc2 rfl,v3⟩
     ·cases u3
    refine hgoal (ihb (F:=F'.sys q') (by rw[show (F'.sys q').P=F'.P from rfl,hs3.P];exact hm) (by rw[show (F'.sys q').Lh=F'.Lh from rfl,hs3.Lh];exact hLh) (by rw[show (F'.sys q').P=F'.P from rfl,hs3.P];exact hE) (by rw[show (F'.sys q').N=F'.N from rfl,hs3.N];exact hokb) (.inr hnb) (by rw[show (F'.sys q').x.sb=F'.x.sb from rfl,show (F'.sys q').w0=F'.w0 from rfl,hs3.sb,hs3.w0];exact hsb) ⟨_,hX4⟩ (f2.trans (Inv.tick _)) f3 ⟨fun F2 s' a2 W3 u0 u1 u2 u3=>?_,fun i hne F2 s' a2 W3 u0 u1 u2 u3=>?_,fun F2 s' a2 W3 u0 u1 u2 u3=>?_,fun F2 s' a2 _ W3 u0 u1 u2 u3=>(Rc u3).elim⟩)
    ·obtain⟨n1,n2⟩:=hback F2 s' a2 W3 r0 u0 u1 u2
     refine⟨_,_,run_endRound none n1,true,rfl,?_⟩;unfold J9 at u3;split at u3
     ·rename_i z hz
      have hst:=run_pure u3;rw[←hst]at hst2;obtain⟨⟨Xg,v1⟩,v2⟩:=YU (F:=FK r0) hLh hE (hJkin r0) ⟨_,hXJ⟩ n2 (hInvB u2) hz;exact⟨Xg.O,v1.ex.since,post,z,Xg,by rw[g1];simp,hst2,hKJ v1,rfl,v2⟩
     ·cases u3
    ·exact hdone (some i) (.exit i) F2 s' a2 W3 (fun _ h=>by cases h;exact⟨hne,rfl⟩) (fun h=>nomatch h) u0 u1 u2 (by rwa[Rb hne]at u3)
    ·exact hdone none .ret F2 s' a2 W3 (fun _ h=>nomatch h) (fun _=>rfl) u0 u1 u2 u3
end
end Go.Den
end
section
namespace Go.Den
open Go Go.RowKit Go.Eng Go.Lift
variable {α β γ δ:Type}
def YA:MV→MV
 |.sl true t T xs=>.fs t xs
 |.fs t xs=>.fs t xs
 |.fb t x=>.fb t x
 |.mp true a b xs=>.fm a b xs
 |.fm a b xs=>.fm a b xs
 |_=>.dead
def frz:MS→MS
 | []=>[]
 |e::M=>(e.1,e.2.1,YA e.2.2)::frz M
theorem JN:∀ {M:MS} {k:Nat} {e:Nat×MV},look (frz M) k=some e→∃m,look M k=some (e.1,m)∧e.2=YA m
 | [],k,e,h=>by cases h
 |f::M,k,e,h=>by
  obtain⟨k0,st,m⟩:=f;simp only[frz,look]at h ⊢
  cases hb:Nat.beq k0 k with
  |true=>rw[hb]at h;cases h;exact⟨m,rfl,rfl⟩
  |false=>rw[hb]at h;exact JN h
section
variable {F:Frm} {s:S} {a:Act} {w:World} {X:Cx} {E:VE}
def Cx.out(X:Cx)(F:Frm):Cx:={ X with O:=F.O0 }
theorem RelX.qo(h:RelX F s a w X):X.le w (X.out F) w:=⟨rfl,⟨zLF _,fun b hb hz=>⟨h.base.zero b hb hz,rfl⟩⟩,fun _ _=>rfl,zLF _,rfl⟩
theorem RelX.Hg(h:RelX F s a w X):yF (frz s.M) (X.out F) w:=by
 intro k e he;obtain⟨m,h1,h2⟩:=JN he;have hh:=h.m k _ h1
 have hk0:=h.qo.k;rw[h2]
 cases m with
 |sl nw t T xs =>
  cases nw with
  |false=>trivial
  |true =>
   obtain⟨vs,g1,g2,g3⟩:=hh;refine YE.2 ⟨vs,g1.slv,g2.mono hk0,fun _ g hg=>⟨g1.gM g hg,?_⟩⟩
   have:=(g3 g hg).2
   change X.F g at this
   rw[h.Fn]at this;exact h.ok0 g this
 |bx nw c T=>cases nw<;>trivial
 |fs t xs=>exact GR.vA _ hh hk0
 |fb t x=>exact GR.vA _ hh hk0
 |fg f=>trivial
 |mp nw a b xs =>
  cases nw with
  |false=>trivial
  |true =>
   obtain⟨c,es,clock,g1,g2,g3,g4,g5⟩:=hh;have hc:F.w0.heap.size≤c:=by
    have:X.F c:=g4;rw[h.Fn]at this;exact this
   exact⟨_,.inr ⟨c,es,clock,rfl,g2,g3.mono hk0,h.ok0 c hc⟩,g1⟩
 |fm a b xs=>exact GR.vA _ hh hk0
 |dead=>trivial
def nP(E:VE)(s:S):ResultVar→Option AV
 |.tmp t=>rdO s.ep s.L [] [] (.tmp t)
 |.cell t T=>match rdO s.ep s.L [] [] (.tmp t),look E.T T with
  |some (.bx k off),some i=>match S2 s.M k with
   |some c=>match c.at_ i.sz (vQ i.dd) true off with
    |some φ=>match φ.rB with
     |true=>some φ
     |false=>none
    |none=>none
   |none=>none
  |_,_=>none
def mq(E:VE)(s:S):List ResultVar→Option (List AV)
 | []=>some []
 |r::l=>match nP E s r,mq E s l with
  |some φ,some m=>some (φ::m)
  |_,_=>none
def MH(tmps:Array Value):ResultVar→Sem Value
 |.tmp t=>pure (tmps.getD t undef)
 |.cell a t=>do loadVar t (←asAddr (tmps.getD a undef))
theorem lz{P:Program}{Y:TypeId}{i:TI}(ht:Eng.Ty P Y i.dd i.z i.sz i.by_){b off:Nat}{c2:List Value}(hp:Y5 w (.pointer (some ⟨b,off,none⟩)) (yE (vQ i.dd) c2))(hl:c2.length=i.sz)(h1:vQ i.dd=false→c2.length=1)(ho:∀c∈c2,c.oneCell'=true):(loadVar Y ⟨b,off,none⟩).run P w=.ok (yE (vQ i.dd) c2) w:=by
 obtain⟨b',o',e1,e2⟩:=hp;cases e1;rw[j6 h1 ho]at e2
 cases hag:vQ i.dd with
 |true =>
  have hs:c2.toArray.size=i.sz:=by simpa using hl
  have:=Go.Eng.run_loadCells (P:=P) (w:=w) (b:=b) (off:=off) (cs:=c2.toArray) e2;rw[hs]at this;simp[loadVar,ht.YR,hag,ht.z6,this,yE]
 |false =>
  have hl1:=h1 hag
  match c2,hl1 with
  | [v0],_ =>
   have:=e2 0 (by simp)
   simp[loadVar,ht.YR,hag,yE,this]at this ⊢;simp[this]
theorem NG(hE:E.ok X.P)(h:RelX F s a w X){r:ResultVar}{φ:AV}(hr:nP E s r=some φ):∃v,(MH a.tmps r).run X.P w=.ok v w∧φ.holds X w v:=by
 cases r with
 |tmp t =>
  refine⟨a.get t,rfl,?_⟩;simp only[nP]at hr;rw[←h.ep]at hr;exact h.rd #[.tmp t] (.tmp t) φ (by simp) hr
 |cell t T =>
  simp only[nP]at hr;rw[←h.ep]at hr;split at hr
  ·rename_i k off i h1 h2
   split at hr
   ·rename_i c hc
    split at hr
    case h_2=>cases hr
    rename_i ψ hat
    split at hr
    case h_2=>cases hr
    rename_i hoo;cases hr;have k1:=h.rd #[.tmp t] (.tmp t) _ (by simp) h1
    obtain⟨T',nw,b,cs,e1,e2,e3⟩:=Er h.m hc;obtain⟨c1,c2,c3,f1,f2,f3,f4,f5,f6⟩:=(AV.Hw c hat e3).h;obtain⟨_,b',e4,e5⟩:=k1;rw[e1]at e4;cases e4;have hone:=AV.Qq φ hoo f4
    have hl:vQ i.dd=false→c2.length=1:=fun ha=>by rw[f3];exact f5 ha
    refine⟨_,?_,f6⟩;have hrun:=lz (hE.T T i h2).ty (qR e2.own f1 f2 hl hone) f3 hl hone
    have e6:a.tmps.getD t undef=.pointer (some ⟨b,off,none⟩):=e5;simp[MH,e6,asAddr,hrun]
   ·cases hr
  ·cases hr
theorem Xs(hE:E.ok X.P)(h:RelX F s a w X):∀ {l:List ResultVar} {m:List AV},mq E s l=some m→∃vs,(l.mapM (MH a.tmps)).run X.P w=.ok vs w∧vs.length=m.length∧∀(i:Nat) φ v,m[i]?=some φ→vs[i]?=some v→φ.holds X w v
 | [],m,hr=>by cases hr;exact⟨[],by simp,rfl,fun i φ v hi=>by simp at hi⟩
 |r::l,m,hr=>by
  simp only[mq]at hr;split at hr
  ·rename_i φ m' h1 h2
   cases hr
   obtain⟨v,e1,e2⟩:=NG hE h h1;obtain⟨vs,f1,f2,f3⟩:=Xs hE h h2;refine⟨v::vs,by simp[List.mapM_cons,e1,f1,Result.andThen],by simp[f2],fun i φ' v' hi hv=>?_⟩
   cases i with
   |zero=>simp at hi hv;subst hi hv;exact e2
   |succ i=>exact f3 i φ' v' (by simpa using hi) (by simpa using hv)
  ·cases hr
theorem ku{P:Program}{fn:Func}{tmps:Array Value}{w:World}{vs:List Value}(h:(fn.results.toList.mapM (MH tmps)).run P w=.ok vs w):∃v,(results fn tmps).run P w=.ok v w∧kc vs v:=by
 have e:(fn.results.mapM (MH tmps)).run P w=.ok vs.toArray w:=by
  rw[Array.mapM_eq_mapM_toList];rw[map_eq_pure_bind];simp[h,Result.andThen]
 have e4:results fn tmps=(do let vs ←fn.results.mapM (MH tmps);pure (if h:vs.size=1 then vs[0] else .tuple vs)):=by
  unfold results
  congr 2
 have e3:(results fn tmps).run P w=.ok (if h:vs.toArray.size=1 then vs.toArray[0] else .tuple vs.toArray) w:=by
  rw[e4];simp only[Sem.run_bind,e,Result.andThen,Sem.run_pure]
 refine⟨_,e3,?_⟩
 match vs with
 | []=>exact .inl rfl
 | [v]=>exact .inr rfl
 |v::u::vs=>exact .inr (by rw[dif_neg (by simp)];rfl)
def zDx{t:Ty}(xs:List t.D)(a:Ty):Option a.D:=(Ty.sl t).to a xs
def zGr:(a:Ty)→Option a.D
 |.sl e=>some ([]:List e.D)
 |_=>none
def q9(M:MS):List (Option TypeId)→List AV→List Nat
 |k::ks,φ::l=>match k,X4 M φ with
  |some _,some p=>p.1::q9 M ks l
  |_,_=>q9 M ks l
 |_,_=>[]
def WU(k:Nat):List Nat→Bool
 | []=>false
 |j::l=>Nat.beq k j || WU k l
theorem Gj{k:Nat}:∀ {l:List Nat},WU k l=false→k ∉ l
 | [],_=>by simp
 |j::l,h=>by
  simp only[WU,Bool.or_eq_false_iff]at h;have h1:=h.1
  rw[zV]at h1;have h2:=Gj h.2
  simp only[zLH,not_or];exact⟨by simpa using h1,h2⟩
def mm(G:FE)(M:MS):List (Option TypeId)→(rs:Ty)→List AV→Option rs.D
 | [],.nil,[]=>some ()
 |none::ks,.cons a b,φ::l=>match φ.asT G (frz M) a,mm G M ks b l with
  |some x,some y=>some (x,y)
  |_,_=>none
 |some T::ks,.cons a b,φ::l=>match X4 M φ with
  |some p=>match p.2.1 && (Nat.beq p.2.2.1 T && !WU p.1 (q9 M ks l)),zDx p.2.2.2.2 a,mm G M ks b l with
   |true,some x,some y=>some (x,y)
   |_,_,_=>none
  |none=>match Yq φ,zGr a,mm G M ks b l with
   |true,some x,some y=>some (x,y)
   |_,_,_=>none
 |_,_,_=>none
theorem qN(hG:FOk X.P E.G)(h:RelX F s a w X):∀ {ks:List (Option TypeId)} {rs:Ty} {l:List AV} {y:rs.D},mm E.G s.M ks rs l=some y→∀ {vs:List Value},vs.length=l.length→(∀(i:Nat) φ v,l[i]?=some φ→vs[i]?=some v→φ.holds X w v∧φ.zm=false) →
  Y6 X.P F.O0 F.w0.heap.size w ks rs vs y∧∀g∈K9 ks vs,∃k'∈q9 s.M ks l,∃e',look s.M k'=some e'∧e'.2.own=true∧X.O g=X.ι k'
 | [],.nil,[],y,hr,vs,hl,_=>⟨List.length_eq_zero_iff.1 hl,fun g hg=>by cases hg⟩
 |none::ks,.cons t b,φ::l,y,hr,vs,hl,hv=>by
  simp only[mm]at hr;split at hr
  ·rename_i x y' h1 h2
   cases hr
   match vs,hl with
   |v::vs,hl =>
    obtain⟨k1,k2⟩:=hv 0 φ v rfl rfl;have k3:=φ.le k2 h.qo k1
    obtain⟨r1,r2⟩:=qN hG h h2 (vs:=vs) (by simpa using hl) fun i ψ u hi hu=>hv (i+1) ψ u (by simpa using hi) (by simpa using hu)
    exact⟨⟨v,vs,rfl,AV.Z5 (X:=X.out F) hG h.Hg h1 k3,r1,fun g hg=>by cases hg⟩,fun g hg=>r2 g (by simpa[K9,nR] using hg)⟩
  ·cases hr
 |some T::ks,.cons t b,φ::l,y,hr,vs,hl,hv=>by
  simp only[mm]at hr
  match vs,hl with
  |v::vs,hl =>
   obtain⟨k1,k2⟩:=hv 0 φ v rfl rfl;have rest:=fun {y':b.D} (h2:mm E.G s.M ks b l=some y')=>qN hG h h2 (vs:=vs) (by simpa using hl) fun i ψ u hi hu=>hv (i+1) ψ u (by simpa using hi) (by simpa using hu)
   split at hr
   ·rename_i p hp
    split at hr
    ·rename_i x y' hb h1 h2
     cases hr
     simp only[zLD,Bool.not_eq_true']at hb;obtain⟨e,f1,f2,f3,f4⟩:=w8 h.m k1 hp;obtain⟨e1,e2⟩:=Ty.jS h1;obtain⟨r1,r2⟩:=rest h2;have hown:e.2.own=true:=by rw[f2];rfl
     have htg:∀g,v.ownBlock=some g→X.O g=X.ι p.1:=fun g hg=>f3.tagged g hg
     refine⟨⟨v,vs,rfl,?_,r1,fun g hg hg2=>?_⟩,fun g hg=>?_⟩
     rotate_left
     ·obtain⟨k',q1,e',q2,q3,q4⟩:=r2 g hg2
      have:=h.inj p.1 k' e e' f1 q2 hown q3 ((htg g hg).symm.trans q4);exact Gj hb.2.2 (this ▸ q1)
     ·simp only[K9,nR,zLM,Option.mem_toList]at hg
      rcases hg with hg|hg
      ·exact⟨p.1,by simp[q9,hp],e,f1,hown,htg g hg⟩
      ·obtain⟨k',q1,q2⟩:=r2 g hg
       exact⟨k',by simp[q9,hp,q1],q2⟩
     have hne:=h.pos p.1 e f1 hown;rw[hb.1,zLC hb.2.1]at f3
     change zu _ _ _ X.F _ _ _ _ at f3
     rw[h.Fn]at f3;have:=zu.res (O0:=F.O0) f3 hne.1 (fun b hb hz=>h.base.zero b hb hz)
     subst e1;have e2:p.2.2.2.2=_:=e2
     show Zj _ _ _ _ _ _ _
     rw[←e2];exact this
    ·cases hr
   ·rename_i hno
    split at hr
    ·rename_i x y' hb h1 h2
     cases hr
     obtain⟨r1,r2⟩:=rest h2;rw[jh hb]at k1;have hvn:v=.slice none 0 0:=k1
     refine⟨⟨v,vs,rfl,?_,r1,fun g hg=>by rw[hvn]at hg;cases hg⟩,fun g hg=>?_⟩
     rotate_left
     ·rw[hvn]at hg
      obtain⟨k',q1,q2⟩:=r2 g (by simpa[K9,nR,Value.ownBlock] using hg)
      exact⟨k',by simp[q9,hno,q1],q2⟩
     cases t<;>simp only[zGr]at h1<;>cases h1
     show Zj _ _ _ _ _ _ _
     rw[show v=_ from k1]
     exact Zj.nil _ _ _ _ _
    ·cases hr
 | [],.nil,_::_,_,h,_,_,_=>by cases h
 | [],.int _,_,_,h,_,_,_ | [],.bool,_,_,h,_,_,_ | [],.str,_,_,h,_,_,_ | [],.sl _,_,_,h,_,_,_ | [],.cons ..,_,_,h,_,_,_ | [],.arr ..,_,_,h,_,_,_ | [],.box ..,_,_,h,_,_,_ | [],.fn ..,_,_,h,_,_,_ | [],.seq ..,_,_,h,_,_,_ | [],.slo ..,_,_,h,_,_,_ | [],.mp ..,_,_,h,_,_,_=>by cases h
 |none::_,.int _,_,_,h,_,_,_|none::_,.bool,_,_,h,_,_,_|none::_,.str,_,_,h,_,_,_|none::_,.sl _,_,_,h,_,_,_|none::_,.nil,_,_,h,_,_,_|none::_,.arr ..,_,_,h,_,_,_|none::_,.box ..,_,_,h,_,_,_|none::_,.fn ..,_,_,h,_,_,_|none::_,.seq ..,_,_,h,_,_,_|none::_,.slo ..,_,_,h,_,_,_|none::_,.mp ..,_,_,h,_,_,_=>by cases h
 |some _::_,.int _,_,_,h,_,_,_|some _::_,.bool,_,_,h,_,_,_|some _::_,.str,_,_,h,_,_,_|some _::_,.sl _,_,_,h,_,_,_|some _::_,.nil,_,_,h,_,_,_|some _::_,.arr ..,_,_,h,_,_,_|some _::_,.box ..,_,_,h,_,_,_|some _::_,.fn ..,_,_,h,_,_,_|some _::_,.seq ..,_,_,h,_,_,_|some _::_,.slo ..,_,_,h,_,_,_|some _::_,.mp ..,_,_,h,_,_,_=>by cases h
 |none::_,.cons ..,[],_,h,_,_,_|some _::_,.cons ..,[],_,h,_,_,_=>by cases h
theorem ub(hG:FOk X.P E.G)(h:RelX F s a w X){ks:List (Option TypeId)}{rs:Ty}{l:List AV}{y:rs.D}(hr:mm E.G s.M ks rs l=some y){vs:List Value}(hl:vs.length=l.length)(hv:∀(i:Nat) φ v,l[i]?=some φ→vs[i]?=some v→φ.holds X w v∧φ.zm=false) :
  Y6 X.P F.O0 F.w0.heap.size w ks rs vs y:=(qN hG h hr hl hv).1
end
end Go.Den
end
noncomputable section
namespace Go.Den
open Go Go.RowKit Go.Eng Go.Lift
variable {α β γ δ:Type}
def Ym:(ps:Ty)→ps.D→Nat→LS
 |.cons p q,x,i=>(i,0,.rd p x.1)::Ym q x.2 (i+1)
 |_,_,_=>[]
def Zx:List AV→Bool
 | []=>true
 |φ::l=>!φ.zm && Zx l
def rtF(E:VE)(rk:List (Option TypeId))(rs:Ty)(l:List ResultVar)(s:S):Comp rs.D:=match mq E s l with
 |some m=>match Zx m,mm E.G s.M rk rs m with
  |true,some y=>Comp.pure y
  |_,_=>Comp.fail
 |none=>Comp.fail
def Sd(E:VE)(c:Code)(h:H)(l:List ResultVar)(ps rs:Ty)(rk:List (Option TypeId))(x:ps.D):Comp rs.D :=
 den E c rs.D h ⟨Ym ps x 0,[],1,0⟩ (rtF E rk rs l) (fun _ _=>Comp.fail) (rtF E rk rs l)
def Ty.len:Ty→Nat
 |.cons _ b=>b.len+1
 |_=>0
theorem Z6{P:Program}{O w}:∀ {t:Ty} {vs:List Value} {x:t.D},t.args P O w vs x→vs.length=t.len
 |.cons a b,vs,x,⟨v,vs',h,_,h2⟩=>by rw[h,zLL,Z6 h2];rfl
 |.nil,vs,x,h=>by rw[show vs=[] from h];rfl
 |.int _,_,_,h|.bool,_,_,h|.str,_,_,h|.sl _,_,_,h|.arr ..,_,_,h|.box ..,_,_,h|.fn ..,_,_,h|.seq ..,_,_,h|.slo ..,_,_,h|.mp ..,_,_,h=>h.elim
theorem Z3{P:Program}{O w}{X:Cx}(hP:X.P=P)(hO:X.O=O){a:Act}:∀ {t:Ty} {vs:List Value} {x:t.D} {i:Nat},t.args P O w vs x→(∀(j:Nat) v,vs[j]?=some v→a.get (i+j)=v)→∀ {u e},look (Ym t x i) u=some e→e.1=0∧e.2.holds X w (a.get u)
 |.cons p q,vs,x,i,⟨v,vs',h,h1,h2⟩,ha,u,e,he=>by
  rcases zD he with ⟨e1,e2⟩|⟨_,e2⟩
  ·subst e1 e2
   refine⟨rfl,?_⟩;have:=ha 0 v (by rw[h];rfl)
   rw[Nat.add_zero]at this;rw[this];show (p.gr X.P).v _ _ _ _
   rw[hP,hO];exact h1
  ·exact Z3 hP hO h2 (fun j v hj=>by have:=ha (j+1) v (by rw[h];simpa using hj);rw[←this];congr 1;omega) e2
 |.nil,_,_,_,_,_,_,_,he=>by cases he
 |.int _,_,_,_,h,_,_,_,_|.bool,_,_,_,h,_,_,_,_|.str,_,_,_,h,_,_,_,_|.sl _,_,_,_,h,_,_,_,_|.arr ..,_,_,_,h,_,_,_,_|.box ..,_,_,_,h,_,_,_,_|.fn ..,_,_,_,h,_,_,_,_|.seq ..,_,_,_,h,_,_,_,_|.slo ..,_,_,_,h,_,_,_,_|.mp ..,_,_,_,h,_,_,_,_=>h.elim
theorem Jl{E:VE}{s:S}{ep n:Nat}:∀ {l:List ResultVar} {m:List AV},mq E s l=some m→Zx m=true→mq E { s with ep:=ep,n:=n } l=some m
 | [],m,h,_=>h
 |r::l,m,h,hn=>by
  have rd:∀ {t:Nat} {φ:AV},rdO s.ep s.L [] [] (.tmp t)=some φ→φ.zm=false→rdO ep s.L [] [] (.tmp t)=some φ:=fun {t φ} h hf=>by
   simp only[rdO,Z2]at h ⊢
   cases he:look s.L t with
   |none=>rw[he]at h;cases h
   |some e =>
    rw[he]at h;simp only at h ⊢
    cases hfr:fresh s.ep e with
    |false=>rw[hfr]at h;cases h
    |true =>
     rw[hfr]at h;cases h;simp[fresh,hf]
  simp only[mq]at h ⊢;split at h
  ·rename_i φ m' h1 h2
   cases h
   simp only[Zx,zLD]at hn;rw[Jl h2 hn.2];have:nP E { s with ep:=ep,n:=n } r=some φ:=by
    cases r with
    |tmp t=>exact rd h1 (by simpa using hn.1)
    |cell t T =>
     simp only[nP]at h1 ⊢
     cases hr:rdO s.ep s.L [] [] (.tmp t) with
     |none=>rw[hr]at h1;cases h1
     |some ψ =>
      rw[hr]at h1;cases ψ<;>first|(rw[rd hr rfl];exact h1)|cases h1
   rw[this]
  ·cases h
theorem BV{P:Program}{fn:Func}{R:Ending→World→Prop}{F:Frm}(hsb:F.w0.heap.size≤F.x.sb){a:Act}{s:S}:∀(bs:List Nat) {q:Nat→Obj→Prop} {n ep:Nat} {w:World},Rel (F.sys q) { s with n:=n,ep:=ep } a w→bs.Nodup→(∀b∈bs,q b (.deferred (some []))) →
  (∀q' n' ep' w',Rel (F.sys q') { s with n:=n',ep:=ep' } a w'→∃v,(results fn a.tmps).run P w'=.ok v w'∧R (.returned v) w')→LeavesInM Fence.wide 0 P fn a.tmps R (bs.map nU) .returning w
 | [],q,n,ep,w,h,_,_,hK=>hK _ _ _ _ h
 |b::bs,q,n,ep,w,⟨X,h⟩,hn,hb,hK=>by
  obtain⟨hn1,hn2⟩:=List.nodup_cons.1 hn;obtain⟨⟨h1,h2⟩,h3⟩:=h.ex.sys b _ (hb b (by simp))
  refine⟨by simp,.inl ⟨b,_,rfl,run_takeDeferred h1,?_⟩⟩
  have:=h.turn (o':=.deferred none) (q:=fun c o=>q c o∧c≠b) h2 (zLK hsb h3) (Array.getElem?_eq_some_iff.1 h1).1 fun c o hc=>.inl ⟨hc.2,hc.1⟩
  exact BV hsb bs (q:=fun c o=>q c o∧c≠b) ⟨_,this⟩ hn2 (fun c hc=>⟨hb c (by simp[hc]),fun e=>hn1 (by rw[←e];exact hc)⟩) hK
theorem leaves{P:Program}{fn:Func}{R:Ending→World→Prop}{F F':Frm}(hT:F.To F')(hD:F.D=[])(hs:∀b o,¬F.x.sys b o)(hsb:F.w0.heap.size≤F.x.sb){a:Act}{s:S}{w:World}(h:Rel F' s a w)
  (hK:∀q' n' ep' w',Rel (F'.sys q') { s with n:=n',ep:=ep' } a w'→∃v,(results fn a.tmps).run P w'=.ok v w'∧R (.returned v) w'):LeavesInM Fence.wide 0 P fn a.tmps R a.defers .returning w:=by
 obtain⟨bs,h1,h2,h3⟩:=hT.marks hD hs;have hsm:=hT.same
 have hd:a.defers=bs.map nU:=by obtain⟨X,hX⟩:=h;rw[hX.fit.defers];exact h1
 rw[hd];exact BV (F:=F') (s:=s) (q:=F'.x.sys) (n:=s.n) (ep:=s.ep) (by rw[hsm.w0,hsm.sb];exact hsb) bs h h2 (fun b hb=>(h3 b _).2 ⟨hb,rfl⟩) hK
theorem kg:∀ {l:List AV},Zx l=true→∀φ∈l,φ.zm=false
 | [],_,φ,h=>by cases h
 |ψ::l,h,φ,hm=>by
  simp only[Zx,zLD]at h;rcases zLH.1 hm with rfl|hm
  ·simpa using h.1
  ·exact kg h.2 φ hm
theorem zAM{P:Program}{E:VE}(hE:E.ok P)(hm:P.follows .mixedOrders=true){f:FuncId}{fn:Func}{c:Code}{h:H}{fs:FS}(hF:FnOk P f)(hf:P.funcs[f]?=some fn)(hb:fn.body=some c)(hc:okC fn.ntmps c=true)(hl:Nat.ble fs.ps.len fn.ntmps=true)
  (hs:∀x,Sd E c h fn.results.toList fs.ps fs.rs fs.rk x=fs.sem x):fs.ok P f:=by
 refine⟨hF,fun O w hO vs x ha n y hy=>?_⟩
 rw[←hs x]at hy;have hfit:=ky vs.toArray fn.ntmps (by have:=Z6 ha;simp only[List.size_toArray];rw[this];exact Nat.le_of_ble_eq_true hl)
 have hget:∀(j:Nat) v,vs[j]?=some v→Act.get { tmps:=vs.toArray++Array.replicate (fn.ntmps-vs.toArray.size) undef,defers:=[] } j=v:=fun j v hj=>kx (by simpa using hj)
 refine callsIn_wide.1 (callsIn_of_wp_marks (n:=0) hf hb trivial ?_);generalize ({ tmps:=vs.toArray++Array.replicate (fn.ntmps-vs.toArray.size) undef,defers:=[] }:Act)=a at hfit hget ⊢
 let F:Frm:=⟨P,fn.ntmps,[],Go.Lift.Fr w,O,w,fun _ _=>False,0,[],FrX.no 1 O w⟩
 let X:Cx:=⟨P,O,fun _=>.nilIface,1,fun k=>k,Go.Lift.Fr w,Go.Lift.Fr w,0,0⟩
 have hR:Rel F ⟨Ym fs.ps x 0,[],1,0⟩ a w:=by
  have hin:=fun {u e}=>Z3 (X:=X) (a:=a) (i:=0) rfl rfl ha (fun j v hj=>by rw[Nat.zero_add];exact hget j v hj) (u:=u) (e:=e)
  refine⟨X,rfl,rfl,rfl,rfl,rfl,hO,hfit,Base.start hO,fun t e he _=>(hin he).2,fun k e he=>(nomatch he),fun t e he=>(by rw[(hin he).1];exact Nat.zero_lt_one),fun k e he=>(nomatch he),fun k k' e e' he=>(nomatch he),fun k e he=>(nomatch he),Nat.zero_le _,Nat.zero_lt_one,fun _ _ h=>h.elim,⟨Nat.zero_le _,fun j b hj=>(nomatch hj)⟩,Exx.no Nat.one_ne_zero rfl⟩
 have hrt:∀F' s' a' w',F.To F'→Rel F' s' a' w'→(rtF E fs.rk fs.rs fn.results.toList s').run n=some y→LeavesInM Fence.wide 0 P fn a'.tmps (fun e w'=>∃v,e=.returned v∧Ext w w'∧∃rs,kc rs v∧Y6 P O w.heap.size w' fs.rk fs.rs rs y) a'.defers .returning w':=by
  intro F' s' a' w' hT h' hr;refine leaves hT rfl (fun _ _ h=>h) (zLF _) h' fun q n' ep' w' hX'=>?_
  obtain⟨X',hX'⟩:=hX';have hs:=hT.same
  have hP:X'.P=P:=hX'.P.trans hs.P;have hE':E.ok X'.P:=by rw[hP];exact hE
  unfold rtF at hr;split at hr
  ·rename_i m hm'
   split at hr
   ·rename_i y' hnf hy'
    have e:=run_pure hr;subst e;obtain⟨vs',g1,g2,g3⟩:=Xs hE' hX' (Jl hm' hnf);obtain⟨v,g4,g5⟩:=ku g1;rw[hP]at g4;refine⟨v,g4,v,rfl,?_,vs',g5,?_⟩
    ·have:=hX'.base
     change Base F'.A F'.O0 F'.w0 _ _ at this
     rw[hs.A,hs.O0,hs.w0]at this;exact this.ext
    ·have:=ub hE'.G hX' hy' g2 fun i φ u hi hu=>⟨g3 i φ u hi hu,kg hnf φ (zLI hi)⟩
     change Y6 _ F'.O0 F'.w0.heap.size _ _ _ _ _ at this
     rwa[hP,hs.O0,hs.w0]at this
   ·cases hr
  ·cases hr
 exact Yr c (F:=F) hm (fun _ _ h=>h) hE hc (.inl ⟨rfl,rfl⟩) rfl hR (Inv.refl _) hy ⟨fun F' s' a' w' h0 h1 _ h2=>hrt F' s' a' w' h0 h1 h2,fun i _ F' s' a' w' _ _ _ h2=>(nomatch h2),fun F' s' a' w' h0 h1 _ h2=>hrt F' s' a' w' h0 h1 h2,fun F' s' a' _ w' _ _ _ h2=>(nomatch h2)⟩
def Jp:List (Option TypeId)→(ps:Ty)→ps.D→Nat→Nat→LS×MS
 |some T::io,.cons (.box e) q,x,i,j=>((i,0,.bx j 0)::(Jp io q x.2 (i+1) (j+1)).1,(j,0,.bx false (.rd e x.1) T)::(Jp io q x.2 (i+1) (j+1)).2)
 |none::io,.cons a q,x,i,j=>((i,0,.rd a x.1)::(Jp io q x.2 (i+1) j).1,(Jp io q x.2 (i+1) j).2)
 |_,_,_,_,_=>([],[])
def nbx:List (Option TypeId)→Nat
 | []=>0
 |some _::io=>nbx io+1
 |none::io=>nbx io
def uQ(G:FE)(M Mf:MS):(io:List (Option TypeId))→(ps:Ty)→Nat→Option (ioT io ps).D
 |some T::io,.cons (.box e) q,j=>match look M j with
  |some (_,.bx _ c T')=>match Nat.beq T T',c.asT G Mf e,uQ G M Mf io q (j+1) with
   |true,some x,some y=>some (x,y)
   |_,_,_=>none
  |_=>none
 |none::io,.cons _ q,j=>uQ G M Mf io q j
 | [],.nil,_=>some ()
 |_,_,_=>none
def zAF:Ty→List (Option TypeId)
 |.cons _ b=>none::zAF b
 |_=>[]
def rtM(E:VE)(io:List (Option TypeId))(ps rs:Ty)(l:List ResultVar)(s:S):Comp ((ioT io ps).D×rs.D):=match mq E s l with
 |some m=>match Zx m,mm E.G s.M (zAF rs) rs m,uQ E.G s.M (frz s.M) io ps 0 with
  |true,some y,some x=>Comp.pure (x,y)
  |_,_,_=>Comp.fail
 |none=>Comp.fail
def RY(E:VE)(c:Code)(h:H)(l:List ResultVar)(ps:Ty)(io:List (Option TypeId))(rs:Ty)(x:ps.D):Comp ((ioT io ps).D×rs.D) :=
 den E c ((ioT io ps).D×rs.D) h ⟨(Jp io ps x 0 0).1,(Jp io ps x 0 0).2,nbx io+1,0⟩ (rtM E io ps rs l) (fun _ _=>Comp.fail) (rtM E io ps rs l)
structure Start(P:Program)(O:zR)(w:World)(bl:List Nat)(X:Cx)(n:Nat):Prop where
 U:∀(j:Nat) b,bl[j]?=some b→X.U j=.pointer (some ⟨b,0,none⟩)∧X.ι j=O b
 A:∀b∈bl,X.A b
 n:X.n=n
 P:X.P=P
 O:X.O=O
theorem MIn.len{P:Program}{O:zR}{w:World}:∀ {io:List (Option TypeId)} {ps:Ty} {bl:List Nat} {vs:List Value} {x:ps.D},MIn P O w io ps bl vs x →
  bl.length=nbx io∧(∀b∈bl,O b≠0∧b<w.heap.size)∧vs.length=ps.len∧bl.Pairwise (fun b c=>O c≠O b):=by
 intro io
 induction io with
 |nil =>
  intro ps bl vs x h;cases ps<;>first|exact h.elim|skip
  obtain⟨rfl,rfl⟩:=h;exact⟨rfl,by simp,rfl,.nil⟩
 |cons o io ih =>
  intro ps bl vs x h
  cases ps with
  |cons p q =>
   cases o with
   |none =>
    obtain⟨v,vs',rfl,h1,h2⟩:=h;obtain⟨g1,g2,g3,g4⟩:=ih h2;exact⟨g1,g2,by simp[Ty.len,g3],g4⟩
   |some T =>
    cases p with
    |box e =>
     obtain⟨b,bl',vs',cs,rfl,rfl,h1,h2,h3,h4,h5⟩:=h;obtain⟨g1,g2,g3,g4⟩:=ih h5;refine⟨by simp[nbx,g1],fun c hc=>?_,by simp[Ty.len,g3],.cons h3 g4⟩
     rcases zLH.1 hc with rfl|hc
     ·obtain⟨fr,h6,_⟩:=h1
      exact⟨h2,(Array.getElem?_eq_some_iff.1 h6).1⟩
     ·exact g2 c hc
    |_=>exact h.elim
  |_=>cases o<;>exact h.elim
theorem Nx{P:Program}{O:zR}{w:World}{all:List Nat}{X:Cx}{n:Nat}(hs:Start P O w all X n)(hn:all.length≤n){a:Act}:∀ {io:List (Option TypeId)} {ps:Ty} {bl:List Nat} {vs:List Value} {x:ps.D} {i j:Nat},MIn P O w io ps bl vs x→(∀k,all[j+k]?=bl[k]?)→(∀(k:Nat) v,vs[k]?=some v→a.get (i+k)=v) →
  (∀ {t e},look (Jp io ps x i j).1 t=some e→e.1=0∧e.2.holds X w (a.get t))∧(∀ {k e},look (Jp io ps x i j).2 k=some e→e.1=0∧j≤k∧k<j+bl.length∧e.2.holds X w k):=by
 intro io
 induction io with
 |nil =>
  intro ps bl vs x i j h hb hv;cases ps<;>first|exact h.elim|skip
  obtain⟨rfl,rfl⟩:=h;exact⟨fun {t e} he=>(nomatch he),fun {k e} he=>(nomatch he)⟩
 |cons o io ih =>
  intro ps bl vs x i j h hb hv
  cases ps with
  |cons p q =>
   cases o with
   |none =>
    obtain⟨v,vs',rfl,h1,h2⟩:=h;obtain⟨g1,g2⟩:=ih (i:=i+1) h2 hb (fun k u hk=>by rw[show i+1+k=i+(k+1) by omega];exact hv (k+1) u (by simpa using hk))
    refine⟨fun {t e} he=>?_,fun {k e} he=>g2 he⟩
    rcases zD he with ⟨rfl,rfl⟩|⟨_,he⟩
    ·refine⟨rfl,?_⟩
     have:=hv 0 v rfl;rw[Nat.add_zero]at this;rw[this];show (p.gr X.P).v X.O w v x.1
     rw[hs.P,hs.O];exact h1
    ·exact g1 he
   |some T =>
    cases p with
    |box e =>
     obtain⟨b,bl',vs',cs,rfl,rfl,h1,h2,h3,h4,h5⟩:=h;obtain⟨g1,g2⟩:=ih (i:=i+1) (j:=j+1) h5 (fun k=>by rw[show j+1+k=j+(k+1) by omega,hb (k+1)];rfl) (fun k u hk=>by rw[show i+1+k=i+(k+1) by omega];exact hv (k+1) u (by simpa using hk))
     have hj:all[j]?=some b:=by have:=hb 0;simpa using this
     obtain⟨k1,k2⟩:=hs.U j b hj;have hjn:j<X.n:=by rw[hs.n];exact zLQ (zLJ.1 hj).1 hn
     refine⟨fun {t f} he=>?_,fun {k f} he=>?_⟩
     ·rcases zD he with ⟨rfl,rfl⟩|⟨_,he⟩
      ·refine⟨rfl,?_⟩
       have:=hv 0 _ rfl;rw[Nat.add_zero]at this;rw[this];exact⟨hjn,b,k1,rfl⟩
      ·exact g1 he
     ·rcases zD he with ⟨rfl,rfl⟩|⟨_,he⟩
      ·refine⟨rfl,zLF _,by simp,b,cs,k1,⟨h1,?_,?_⟩,?_,rfl⟩
       ·exact hs.A b (zLI hj)
       ·rw[hs.O];exact k2.symm
       ·show (e.gr X.P).rel X.O w cs.toList x.1
        rw[hs.P,hs.O];exact h4
      ·obtain⟨a1,a2,a3,a4⟩:=g2 he
       exact⟨a1,by omega,by simp;omega,a4⟩
    |_=>exact h.elim
  |_=>cases o<;>exact h.elim
theorem Uw{G:FE}{M Mf:MS}{T:TypeId}{io:List (Option TypeId)}{e q:Ty}{j:Nat}:uQ G M Mf (some T::io) (.cons (.box e) q) j=(match look M j with
  |some (_,.bx _ c T')=>match Nat.beq T T',c.asT G Mf e,uQ G M Mf io q (j+1) with
   |true,some x,some y=>some (x,y)
   |_,_,_=>none
  |_=>none):=rfl
theorem NS{G:FE}{M Mf:MS}{T:TypeId}{io:List (Option TypeId)}{e q:Ty}{j:Nat}{r:Option (ioT (some T::io) (.cons (.box e) q)).D}(h0:uQ G M Mf (some T::io) (.cons (.box e) q) j=r){y:e.D×(ioT io q).D}(hr:r=some y) :
  ∃st nw c,look M j=some (st,.bx nw c T)∧c.asT G Mf e=some y.1∧uQ G M Mf io q (j+1)=some y.2:=by
 rw[Uw]at h0;rw[hr]at h0;split at h0
 ·rename_i st nw c T' hk
  split at h0
  ·rename_i x1 y1 hT hc hq
   cases h0
   have hTT:T=T':=zLC hT;subst hTT;exact⟨st,nw,c,hk,hc,hq⟩
  ·cases h0
 ·cases h0
section
variable {F:Frm} {s:S} {a:Act} {w:World} {X:Cx} {E:VE}
theorem Uv(hG:FOk X.P E.G)(h:RelX F s a w X){all:List Nat}(hU:∀(j:Nat) b,all[j]?=some b→X.U j=.pointer (some ⟨b,0,none⟩)):∀ {io:List (Option TypeId)} {ps:Ty} {bl:List Nat} {w0:World} {vs:List Value} {x:ps.D} {j:Nat} {y:(ioT io ps).D},MIn X.P F.O0 w0 io ps bl vs x→(∀k,all[j+k]?=bl[k]?)→uQ E.G s.M (frz s.M) io ps j=some y→Dy X.P F.O0 w io ps bl y:=by
 intro io
 induction io with
 |nil =>
  intro ps bl w0 vs x j y h0 hb hy;cases ps<;>first|exact h0.elim|skip
  exact h0.1
 |cons o io ih =>
  intro ps bl w0 vs x j y h0 hb hy
  cases ps with
  |cons p q =>
   cases o with
   |none =>
    obtain⟨v,vs',rfl,h1,h2⟩:=h0;exact ih h2 hb hy
   |some T =>
    cases p with
    |box e =>
     obtain⟨b,bl',vs',cs,rfl,rfl,h1,h2,h3,h4,h5⟩:=h0;obtain⟨st,nw,c,hk,hc,hr⟩:=NS rfl hy;obtain⟨b',cs',k1,k2,k3,k4⟩:=h.m j _ hk;have hj:all[j]?=some b:=by have:=hb 0;simpa using this
     rw[hU j b hj]at k1;simp only[Value.pointer.injEq,Option.some.injEq,Addr.mk.injEq,and_true]at k1;subst k1;refine⟨b,bl',cs',rfl,k2.own,?_,ih h5 (fun k=>by rw[show j+1+k=j+(k+1) by omega,hb (k+1)];rfl) hr⟩
     have hc2:=(c.mono h.qo fun hf=>absurd hf (by rw[k4];decide)).2.2 _ k3
     exact(AV.jf (X:=X.out F) hG c h.Hg).vc hc hc2
    |_=>exact h0.elim
  |_=>cases o<;>exact h0.elim
end
theorem zDT{P:Program}{E:VE}(hE:E.ok P)(hm:P.follows .mixedOrders=true){f:FuncId}{fn:Func}{c:Code}{h:H}{fs:FM}(hF:FnOk P f)(hf:P.funcs[f]?=some fn)(hb:fn.body=some c)(hc:okC fn.ntmps c=true)(hl:Nat.ble fs.ps.len fn.ntmps=true)
  (hs:∀x,RY E c h fn.results.toList fs.ps fs.io fs.rs x=fs.sem x):fs.ok P f:=by
 refine⟨hF,fun O w hO bl vs x ha n y hy=>?_⟩
 rw[←hs x]at hy;refine callsIn_wide.1 (callsIn_of_wp_marks (n:=0) hf hb trivial ?_);obtain⟨st,hst0,hst1⟩:∃st,st≠0∧∀b∈bl,O b≠st:=⟨1+(bl.map O).sum,by omega,fun b hb=>by have:=uC (l:=bl.map O) (x:=O b) (List.mem_map.2 ⟨b,hb,rfl⟩);omega⟩
 let F:Frm:=⟨P,fn.ntmps,[],fun b=>w.heap.size≤b∨b∈bl,O,w,fun _ _=>False,0,bl,FrX.no st O w⟩
 let X:Cx:=⟨P,O,fun j=>match bl[j]? with|some b=>.pointer (some ⟨b,0,none⟩)|none=>.nilIface,nbx fs.io+1,fun j=>match bl[j]? with|some b=>O b|none=>0,fun b=>w.heap.size≤b∨b∈bl,Go.Lift.Fr w,0,0⟩
 have hst:Start P O w bl X (nbx fs.io+1):=⟨fun j b hj=>by simp[X,hj],fun b hb=>.inr hb,rfl,rfl,rfl⟩
 obtain⟨hbl,hblO,hvs,hpw⟩:=ha.len;have hfit:=ky vs.toArray fn.ntmps (by simp only[List.size_toArray];rw[hvs];exact Nat.le_of_ble_eq_true hl)
 have hget:∀(j:Nat) v,vs[j]?=some v→Act.get { tmps:=vs.toArray++Array.replicate (fn.ntmps-vs.toArray.size) undef,defers:=[] } j=v:=fun j v hj=>kx (by simpa using hj)
 generalize ({ tmps:=vs.toArray++Array.replicate (fn.ntmps-vs.toArray.size) undef,defers:=[] }:Act)=a at hfit hget ⊢;have hin:=Nx (a:=a) (i:=0) (j:=0) hst (by omega) ha (fun k=>by rw[Nat.zero_add]) (fun j v hj=>by rw[Nat.zero_add];exact hget j v hj)
 have hι:∀k e,look (Jp fs.io fs.ps x 0 0).2 k=some e→∃b,bl[k]?=some b∧X.ι k=O b:=fun k e he=>by
  obtain⟨_,_,h2,_⟩:=hin.2 he;have:k<bl.length:=by omega
  exact⟨bl[k],by simp[this],(hst.U k bl[k] (by simp[this])).2⟩
 have hR:Rel F ⟨(Jp fs.io fs.ps x 0 0).1,(Jp fs.io fs.ps x 0 0).2,nbx fs.io+1,0⟩ a w:=by
  refine⟨X,rfl,rfl,rfl,rfl,rfl,hO,hfit,⟨rfl,rfl,rfl,zLF _,fun _ _ _=>rfl,hO,fun _ _ _=>rfl,fun _ _ h=>h,fun b hb=>.inl hb⟩,fun t e he _=>(hin.1 he).2,fun k e he=>(hin.2 he).2.2.2,fun t e he=>(by rw[(hin.1 he).1];exact Nat.succ_pos _),fun k e he=>(by obtain⟨h1,_,h2,_⟩:=hin.2 he;exact⟨by rw[h1];exact Nat.succ_pos _,show k<nbx fs.io+1 by omega⟩),fun k k' e e' he he' _ _ heq=>?_,fun k e he _=>?_,Nat.zero_le _,Nat.succ_pos _,fun _ _ h=>h.elim,⟨show bl.length≤nbx fs.io+1 by omega,fun j b hj=>(hst.U j b hj).1⟩,Exx.no hst0 rfl⟩
  ·obtain⟨b,h1,h2⟩:=hι k e he
   obtain⟨b',h3,h4⟩:=hι k' e' he';rw[h2,h4]at heq;have hp:=List.pairwise_iff_getElem.1 hpw
   obtain⟨l1,h5⟩:=zLJ.1 h1;obtain⟨l2,h6⟩:=zLJ.1 h3;rcases Nat.lt_trichotomy k k' with hlt|heq'|hlt
   ·exact absurd heq.symm (by have:=hp k k' l1 l2 hlt;rwa[h5,h6]at this)
   ·exact heq'
   ·exact absurd heq (by have:=hp k' k l2 l1 hlt;rwa[h5,h6]at this)
  ·obtain⟨b,h1,h2⟩:=hι k e he
   rw[h2];exact⟨(hblO b (zLI h1)).1,hst1 b (zLI h1)⟩
 have hrt:∀F' s' a' w',F.To F'→Rel F' s' a' w'→(rtM E fs.io fs.ps fs.rs fn.results.toList s').run n=some y→LeavesInM Fence.wide 0 P fn a'.tmps (fun e w'=>∃v rs,e=.returned v∧kc rs v∧fs.rs.args P O w' rs y.2∧ButL bl w w'∧Dy P O w' fs.io fs.ps bl y.1) a'.defers .returning w':=by
  intro F' s' a' w' hT h' hr;refine leaves hT rfl (fun _ _ h=>h) (zLF _) h' fun q n' ep' w' hX'=>?_
  obtain⟨X',hX'⟩:=hX';have hs:=hT.same
  have hP:X'.P=P:=hX'.P.trans hs.P;have hE':E.ok X'.P:=by rw[hP];exact hE
  unfold rtM at hr;split at hr
  ·rename_i m hm'
   split at hr
   ·rename_i y' x' hnf hy' hx'
    have e:=run_pure hr;subst e;obtain⟨vs',g1,g2,g3⟩:=Xs hE' hX' (Jl hm' hnf);obtain⟨v,g4,g5⟩:=ku g1;rw[hP]at g4;have hB:=hX'.base
    change Base F'.A F'.O0 F'.w0 _ _ at hB
    rw[hs.A,hs.O0,hs.w0]at hB;have hres:=ub hE'.G hX' hy' g2 fun i φ u hi hu=>⟨g3 i φ u hi hu,kg hnf φ (zLI hi)⟩
    change Y6 _ F'.O0 F'.w0.heap.size _ _ _ _ _ at hres
    rw[hP,hs.O0,hs.w0]at hres;refine⟨v,g4,v,vs',rfl,g5,XM (O:=O) (B:=w.heap.size) (fun b hb=>hO b hb) hres,⟨hB.os,hB.tape,hB.output,hB.size,fun b hb hn=>hB.block b hb fun hA=>hA.elim (fun h=>absurd h (Nat.not_le.2 hb)) hn⟩,?_⟩
    have hU:∀(j:Nat) b,bl[j]?=some b→X'.U j=.pointer (some ⟨b,0,none⟩):=by
     have:=hX'.bl.2
     change ∀(j:Nat) b,F'.bl[j]?=some b→_ at this
     rw[hs.bl]at this;exact this
    have:=Uv (E:=E) hE'.G hX' hU (io:=fs.io) (ps:=fs.ps) (bl:=bl) (w0:=w) (vs:=vs) (x:=x) (j:=0) (by rw[hP];show MIn P F'.O0 w fs.io fs.ps bl vs x;rw[hs.O0];exact ha) (fun k=>by rw[Nat.zero_add]) hx'
    change Dy _ F'.O0 _ _ _ _ _ at this
    rwa[hP,hs.O0]at this
   ·cases hr
  ·cases hr
 exact Yr c (F:=F) hm (fun _ _ h=>h) hE hc (.inl ⟨rfl,rfl⟩) rfl hR (Inv.refl _) hy ⟨fun F' s' a' w' h0 h1 _ h2=>hrt F' s' a' w' h0 h1 h2,fun i _ F' s' a' w' _ _ _ h2=>(nomatch h2),fun F' s' a' w' h0 h1 _ h2=>hrt F' s' a' w' h0 h1 h2,fun F' s' a' _ w' _ _ _ h2=>(nomatch h2)⟩
def rtO(E:VE)(e:Ty)(T:TypeId)(l:List ResultVar)(s:S):Comp (List e.D):=match mq E s l with
 |some [φ]=>match X4 s.M φ with
  |some p=>match Nat.beq p.2.2.1 T,zDx p.2.2.2.2 (.sl e) with
   |true,some ys=>Comp.pure ys
   |_,_=>Comp.fail
  |none=>Comp.fail
 |_=>Comp.fail
def RW(E:VE)(c:Code)(h:H)(l:List ResultVar)(e:Ty)(T:TypeId)(ps:Ty)(xs:List e.D)(z:ps.D):Comp (List e.D) :=
 den E c (List e.D) h ⟨(0,0,.ob 0)::Ym ps z 1,[(0,0,.sl false e T xs)],1,0⟩ (rtO E e T l) (fun _ _=>Comp.fail) (rtO E e T l)
theorem zDR{P:Program}{E:VE}(hE:E.ok P)(hm:P.follows .mixedOrders=true){f:FuncId}{fn:Func}{c:Code}{h:H}{fs:FO}(hF:FnOk P f)(hf:P.funcs[f]?=some fn)(hb:fn.body=some c)(hc:okC fn.ntmps c=true)(hl:Nat.ble (fs.ps.len+1) fn.ntmps=true)(hret:fs.ret=true)
  (hs:∀xs z,RW E c h fn.results.toList fs.e fs.T fs.ps xs z=fs.sem xs z):fs.ok P f:=by
 refine⟨hF,fun O w hO u xs ha vs z hz n ys hy=>?_⟩
 rw[←hs xs z]at hy;obtain⟨O',hB,hOw,hk0⟩:=M7 hO ha;have hz':=fs.ps.wU P hk0 hz
 have hvs:=Z6 hz;refine callsIn_wide.1 (callsIn_of_wp_marks (n:=0) hf hb trivial ?_);have hfit:=ky (u::vs).toArray fn.ntmps (by simp only[List.size_toArray,zLL];rw[hvs];exact Nat.le_of_ble_eq_true hl)
 have hget:∀(j:Nat) v,(u::vs)[j]?=some v→Act.get { tmps:=(u::vs).toArray++Array.replicate (fn.ntmps-(u::vs).toArray.size) undef,defers:=[] } j=v:=fun j v hj=>kx (by simpa using hj)
 generalize ({ tmps:=(u::vs).toArray++Array.replicate (fn.ntmps-(u::vs).toArray.size) undef,defers:=[] }:Act)=a at hfit hget ⊢
 let F:Frm:=⟨P,fn.ntmps,[],FrS w u,O,w,fun _ _=>False,0,[],FrX.no 2 O' w⟩
 let X:Cx:=⟨P,O',fun _=>u,1,fun _=>1,FrS w u,Go.Lift.Fr w,0,0⟩
 have hin:=fun {t e}=>Z3 (X:=X) (a:=a) (i:=1) rfl rfl hz' (fun j v hj=>by rw[Nat.add_comm];exact hget (j+1) v (by simpa using hj)) (u:=t) (e:=e)
 have hR:Rel F ⟨(0,0,.ob 0)::Ym fs.ps z 1,[(0,0,.sl false fs.e fs.T xs)],1,0⟩ a w:=by
  refine⟨X,rfl,rfl,rfl,rfl,rfl,hO,hfit,hB,fun t e he _=>?_,fun k e he=>?_,fun t e he=>?_,fun k e he=>?_,fun k k' e e' he he' _ _ _=>?_,fun k e he _=>⟨Nat.one_ne_zero,show 1≠2 by decide⟩,Nat.zero_le _,Nat.zero_lt_one,fun _ _ h=>h.elim,⟨Nat.zero_le _,fun j b hj=>(nomatch hj)⟩,Exx.no (show 2≠0 by decide) rfl⟩
  ·rcases zD he with ⟨rfl,rfl⟩|⟨_,he⟩
   ·have hg:a.get 0=u:=hget 0 u rfl
    rw[hg];exact⟨rfl,Nat.zero_lt_one,ZN hOw⟩
   ·exact(hin he).2
  ·rcases zD he with ⟨rfl,rfl⟩|⟨_,he⟩
   ·exact hOw
   ·cases he
  ·rcases zD he with ⟨rfl,rfl⟩|⟨_,he⟩
   ·exact Nat.zero_lt_one
   ·rw[(hin he).1];exact Nat.zero_lt_one
  ·rcases zD he with ⟨rfl,rfl⟩|⟨_,he⟩
   ·exact⟨Nat.zero_lt_one,Nat.zero_lt_one⟩
   ·cases he
  ·rcases zD he with ⟨rfl,rfl⟩|⟨_,he⟩
   ·rcases zD he' with ⟨rfl,rfl⟩|⟨_,he'⟩
    ·rfl
    ·cases he'
   ·cases he
 have hrt:∀F' s' a' w',F.To F'→Rel F' s' a' w'→(rtO E fs.e fs.T fn.results.toList s').run n=some ys→LeavesInM Fence.wide 0 P fn a'.tmps (lq (fs.e.gr P) fs.T O w u ys (zDz fs.ret u)) a'.defers .returning w':=by
  intro F' s' a' w' hT h' hr;refine leaves hT rfl (fun _ _ h=>h) (zLF _) h' fun q n' ep' w' hX'=>?_
  obtain⟨X',hX'⟩:=hX';have hs:=hT.same
  have hP:X'.P=P:=hX'.P.trans hs.P;have hE':E.ok X'.P:=by rw[hP];exact hE
  unfold rtO at hr;split at hr
  ·rename_i φ hm'
   split at hr
   ·rename_i p hp
    split at hr
    ·rename_i ys' hT2 hys
     have e:=run_pure hr;subst e;have hnf:Zx [φ]=true:=by
      unfold X4 at hp;split at hp
      ·rfl
      ·cases hp
     obtain⟨vs',g1,g2,g3⟩:=Xs hE' hX' (Jl hm' hnf);obtain⟨v,g4,g5⟩:=ku g1;rw[hP]at g4;refine⟨v,g4,?_⟩
     match vs',g2 with
     | [v1],_ =>
      have hv:v=v1:=by
       rcases g5 with g5|g5
       ·cases g5
       ·exact g5
      subst hv;have k1:=g3 0 φ v rfl rfl
      obtain⟨e0,f1,f2,f3,f4⟩:=w8 hX'.m k1 hp;obtain⟨ee,ee2⟩:=Ty.jS hys;rw[zLC hT2]at f3;have f5:=BH ee ee2 f3
      rw[hP]at f5;have hne:=hX'.pos p.1 e0 f1 (by rw[f2];rfl)
      have hB:=hX'.base;have hAB:=(hX'.okB p.2.1).sub
      change Base F'.A F'.O0 F'.w0 _ _ at hB
      change ∀g,_→F'.A g at hAB
      rw[hs.A,hs.O0,hs.w0]at hB;rw[hs.A]at hAB;refine Uf hB (zu.zHe f5 fun g hg=>hAB g hg) hne.1 ?_
      rw[hret];exact rfl
    ·cases hr
   ·cases hr
  ·cases hr
 exact Yr c (F:=F) hm (fun _ _ h=>h) hE hc (.inl ⟨rfl,rfl⟩) rfl hR (Inv.refl _) hy ⟨fun F' s' a' w' h0 h1 _ h2=>hrt F' s' a' w' h0 h1 h2,fun i _ F' s' a' w' _ _ _ h2=>(nomatch h2),fun F' s' a' w' h0 h1 _ h2=>hrt F' s' a' w' h0 h1 h2,fun F' s' a' _ w' _ _ _ h2=>(nomatch h2)⟩
def RX(E:VE)(c:Code)(h:H)(l:List ResultVar)(ps rs:Ty)(rk:List (Option TypeId))(x:ps.D):Comp rs.D :=
 den E c rs.D h ⟨(0,0,.ex (.slice none 0 0))::Ym ps x 1,[],1,0⟩ (rtF E rk rs l) (fun _ _=>Comp.fail) (rtF E rk rs l)
theorem zDS{P:Program}{E:VE}(hE:E.ok P)(hm:P.follows .mixedOrders=true){f:FuncId}{fn:Func}{c:Code}{h:H}{fs:FS}(hF:FnOk P f)(hf:P.funcs[f]?=some fn)(hb:fn.body=some c)(hc:okC fn.ntmps c=true)(hl:Nat.ble (fs.ps.len+1) fn.ntmps=true)
  (hs:∀x,RX E c h fn.results.toList fs.ps fs.rs fs.rk x=fs.sem x):fs.okN P f:=by
 refine⟨hF,fun O w hO vs x ha n y hy=>?_⟩
 rw[←hs x]at hy;have hfit:=ky (.slice none 0 0::vs).toArray fn.ntmps (by have:=Z6 ha;simp only[List.size_toArray,zLL];rw[this];exact Nat.le_of_ble_eq_true hl)
 have hget:∀(j:Nat) v,(Value.slice none 0 0::vs)[j]?=some v→Act.get { tmps:=(Value.slice none 0 0::vs).toArray++Array.replicate (fn.ntmps-(Value.slice none 0 0::vs).toArray.size) undef,defers:=[] } j=v:=fun j v hj=>kx (by simpa using hj)
 refine callsIn_wide.1 (callsIn_of_wp_marks (n:=0) hf hb trivial ?_);generalize ({ tmps:=(Value.slice none 0 0::vs).toArray++Array.replicate (fn.ntmps-(Value.slice none 0 0::vs).toArray.size) undef,defers:=[] }:Act)=a at hfit hget ⊢
 let F:Frm:=⟨P,fn.ntmps,[],Go.Lift.Fr w,O,w,fun _ _=>False,0,[],FrX.no 1 O w⟩
 let X:Cx:=⟨P,O,fun _=>.nilIface,1,fun k=>k,Go.Lift.Fr w,Go.Lift.Fr w,0,0⟩
 have hR:Rel F ⟨(0,0,.ex (.slice none 0 0))::Ym fs.ps x 1,[],1,0⟩ a w:=by
  have hin:=fun {u e}=>Z3 (X:=X) (a:=a) (i:=1) rfl rfl ha (fun j v hj=>by rw[Nat.add_comm];exact hget (j+1) v (by simpa using hj)) (u:=u) (e:=e)
  refine⟨X,rfl,rfl,rfl,rfl,rfl,hO,hfit,Base.start hO,fun t e he _=>(by rcases zD he with ⟨rfl,rfl⟩|⟨_,he⟩;exact hget 0 _ (by simp);exact(hin he).2),fun k e he=>(nomatch he),fun t e he=>(by rcases zD he with ⟨rfl,rfl⟩|⟨_,he⟩;exact Nat.zero_lt_one;rw[(hin he).1];exact Nat.zero_lt_one),fun k e he=>(nomatch he),fun k k' e e' he=>(nomatch he),fun k e he=>(nomatch he),Nat.zero_le _,Nat.zero_lt_one,fun _ _ h=>h.elim,⟨Nat.zero_le _,fun j b hj=>(nomatch hj)⟩,Exx.no Nat.one_ne_zero rfl⟩
 have hrt:∀F' s' a' w',F.To F'→Rel F' s' a' w'→(rtF E fs.rk fs.rs fn.results.toList s').run n=some y→LeavesInM Fence.wide 0 P fn a'.tmps (fun e w'=>∃v,e=.returned v∧Ext w w'∧∃rs,kc rs v∧Y6 P O w.heap.size w' fs.rk fs.rs rs y) a'.defers .returning w':=by
  intro F' s' a' w' hT h' hr;refine leaves hT rfl (fun _ _ h=>h) (zLF _) h' fun q n' ep' w' hX'=>?_
  obtain⟨X',hX'⟩:=hX';have hs:=hT.same
  have hP:X'.P=P:=hX'.P.trans hs.P;have hE':E.ok X'.P:=by rw[hP];exact hE
  unfold rtF at hr;split at hr
  ·rename_i m hm'
   split at hr
   ·rename_i y' hnf hy'
    have e:=run_pure hr;subst e;obtain⟨vs',g1,g2,g3⟩:=Xs hE' hX' (Jl hm' hnf);obtain⟨v,g4,g5⟩:=ku g1;rw[hP]at g4;refine⟨v,g4,v,rfl,?_,vs',g5,?_⟩
    ·have:=hX'.base
     change Base F'.A F'.O0 F'.w0 _ _ at this
     rw[hs.A,hs.O0,hs.w0]at this;exact this.ext
    ·have:=ub hE'.G hX' hy' g2 fun i φ u hi hu=>⟨g3 i φ u hi hu,kg hnf φ (zLI hi)⟩
     change Y6 _ F'.O0 F'.w0.heap.size _ _ _ _ _ at this
     rwa[hP,hs.O0,hs.w0]at this
   ·cases hr
  ·cases hr
 exact Yr c (F:=F) hm (fun _ _ h=>h) hE hc (.inl ⟨rfl,rfl⟩) rfl hR (Inv.refl _) hy ⟨fun F' s' a' w' h0 h1 _ h2=>hrt F' s' a' w' h0 h1 h2,fun i _ F' s' a' w' _ _ _ h2=>(nomatch h2),fun F' s' a' w' h0 h1 _ h2=>hrt F' s' a' w' h0 h1 h2,fun F' s' a' _ w' _ _ _ h2=>(nomatch h2)⟩
end Go.Den
end
noncomputable section
namespace Go.Den
open Go Go.RowKit Go.Eng Go.Lift
variable {α β γ δ σ ε τ:Type}
def tell(ys:List τ)(c:Comp (List τ×β)):Comp (List τ×β):=c.bind fun p=>Comp.pure (ys++p.1,p.2)
theorem Ax{ys zs:List τ}{c:Comp (List τ×β)}{n:Nat}{y:β}(h:(tell ys c).run n=some (zs,y)):∃zs',c.run n=some (zs',y)∧zs=ys++zs':=by
 obtain⟨p,h1,h2⟩:=run_bind h;have:=run_pure h2
 cases this
 exact⟨p.1,h1,rfl⟩
def kW(body:σ→Comp (List τ×Comp.Step σ ε))(n:Nat):Nat→σ→Option (List τ×ε)
 |0,_=>none
 |k+1,s=>match (body s).run n with
  |none=>none
  |some (ys,.next s')=>match kW body n k s' with
   |some p=>some (ys++p.1,p.2)
   |none=>none
  |some (ys,.done e)=>some (ys,e)
theorem wm{body:σ→Comp (List τ×Comp.Step σ ε)}{n m:Nat}(hnm:n≤m):∀ {k l:Nat} {s:σ} {e:List τ×ε},k≤l→kW body n k s=some e→kW body m l s=some e:=by
 intro k
 induction k with
 |zero=>intro l s e _ h;cases h
 |succ k ih =>
  intro l s e hkl h;obtain⟨l,rfl⟩:∃l',l=l'+1:=⟨l-1,by omega⟩
  simp only[kW]at h ⊢
  cases hb:(body s).run n with
  |none=>rw[hb]at h;cases h
  |some x =>
   rw[(body s).mono hnm hb];rw[hb]at h;obtain⟨ys,st⟩:=x
   cases st with
   |next s' =>
    simp only at h ⊢
    cases hl:kW body n k s' with
    |none=>rw[hl]at h;cases h
    |some p=>rw[hl]at h;rw[ih (by omega) hl];exact h
   |done e'=>exact h
def YF(body:σ→Comp (List τ×Comp.Step σ ε))(s:σ):Comp (List τ×ε):=⟨fun n=>kW body n n s,fun hnm h=>wm hnm hnm h⟩
theorem AO{body:σ→Comp (List τ×Comp.Step σ ε)}{s:σ}{n m:Nat}{ys:List τ}{e:ε}(h:kW body n m s=some (ys,e)) :
  ∃m',m'<m∧∃zs st,(body s).run n=some (zs,st)∧(∀s',st=.next s'→∃zs',kW body n m' s'=some (zs',e)∧ys=zs++zs')∧(∀e',st=.done e'→e'=e∧ys=zs):=by
 cases m with
 |zero=>cases h
 |succ k =>
  simp only[kW]at h
  cases hb:(body s).run n with
  |none=>rw[hb]at h;cases h
  |some x =>
   rw[hb]at h;obtain⟨zs,st⟩:=x;refine⟨k,by omega,zs,st,rfl,fun s' hs=>?_,fun e' he=>?_⟩
   ·subst hs
    simp only at h
    cases hl:kW body n k s' with
    |none=>rw[hl]at h;cases h
    |some p=>rw[hl]at h;cases h;exact⟨p.1,rfl,rfl⟩
   ·subst he;cases h;exact⟨rfl,rfl⟩
def HU(n:Nat):MS→MS
 | []=>[]
 |e::M=>(match e.2.2 with
  |.sl true t T xs=>(e.1,n,.fs t xs)
  |.mp true a b xs=>(e.1,n,.fm a b xs)
  |.fs .. | .fb .. | .fm ..=>e
  |_=>(e.1,n,.dead))::HU n M
theorem YZ:∀ {n:Nat} {M:MS} {k:Nat} {e:Nat×MV},look (HU n M) k=some e→(look M k=some e∧e.2.own=false∧look (frz M) k=some e)∨(e.1=n∧e.2.own=false∧∃m,look (frz M) k=some (m,e.2))
 |n,[],k,e,h=>by cases h
 |n,f::M,k,e,h=>by
  obtain⟨k0,st,m⟩:=f;have rest:∀ {x:Nat×MV},look ((k0,x)::HU n M) k=some e→k0≠k→look (HU n M) k=some e:=fun {x} h hn=>by
   rcases zD h with ⟨h1,_⟩|⟨_,h2⟩
   ·exact absurd h1 hn
   ·exact h2
  by_cases hk:k0=k
  ·subst hk
   cases m with
   |sl nw t T xs =>
    cases nw with
    |true =>
     rcases zD h with ⟨_,h2⟩|⟨h1,_⟩
     ·subst h2;exact .inr ⟨rfl,rfl,st,by simp[frz,look,zV,YA]⟩
     ·exact absurd rfl h1
    |false =>
     rcases zD h with ⟨_,h2⟩|⟨h1,_⟩
     ·subst h2;exact .inr ⟨rfl,rfl,st,by simp[frz,look,zV,YA]⟩
     ·exact absurd rfl h1
   |fs t xs =>
    rcases zD h with ⟨_,h2⟩|⟨h1,_⟩
    ·subst h2;exact .inl ⟨by simp[look,zV],rfl,by simp[frz,look,zV,YA]⟩
    ·exact absurd rfl h1
   |fb t x =>
    rcases zD h with ⟨_,h2⟩|⟨h1,_⟩
    ·subst h2;exact .inl ⟨by simp[look,zV],rfl,by simp[frz,look,zV,YA]⟩
    ·exact absurd rfl h1
   |mp nw a b xs =>
    cases nw with
    |true =>
     rcases zD h with ⟨_,h2⟩|⟨h1,_⟩
     ·subst h2;exact .inr ⟨rfl,rfl,st,by simp[frz,look,zV,YA]⟩
     ·exact absurd rfl h1
    |false =>
     rcases zD h with ⟨_,h2⟩|⟨h1,_⟩
     ·subst h2;exact .inr ⟨rfl,rfl,st,by simp[frz,look,zV,YA]⟩
     ·exact absurd rfl h1
   |fm a b xs =>
    rcases zD h with ⟨_,h2⟩|⟨h1,_⟩
    ·subst h2;exact .inl ⟨by simp[look,zV],rfl,by simp[frz,look,zV,YA]⟩
    ·exact absurd rfl h1
   |bx nw c T =>
    rcases zD h with ⟨_,h2⟩|⟨h1,_⟩
    ·subst h2;exact .inr ⟨rfl,rfl,st,by simp[frz,look,zV,YA]⟩
    ·exact absurd rfl h1
   |fg f =>
    rcases zD h with ⟨_,h2⟩|⟨h1,_⟩
    ·subst h2;exact .inr ⟨rfl,rfl,st,by simp[frz,look,zV,YA]⟩
    ·exact absurd rfl h1
   |dead =>
    rcases zD h with ⟨_,h2⟩|⟨h1,_⟩
    ·subst h2;exact .inr ⟨rfl,rfl,st,by simp[frz,look,zV,YA]⟩
    ·exact absurd rfl h1
  ·have hb:Nat.beq k0 k=false:=by rw[zV];simpa using hk
   have h':look (HU n M) k=some e:=by
    simp only[HU]at h
    cases m with
    |sl nw t T xs=>cases nw<;>exact rest h hk
    |mp nw a b xs=>cases nw<;>exact rest h hk
    |_=>exact rest h hk
   rcases YZ h' with ⟨g1,g2,g3⟩|⟨g1,g2,m',g3⟩
   ·exact .inl ⟨by simp only[look,hb];exact g1,g2,by simp only[frz,look,hb];exact g3⟩
   ·exact .inr ⟨g1,g2,m',by simp only[frz,look,hb];exact g3⟩
theorem MV.zGo{X X':Cx}{w w':World}{k:Nat}(hX:X.le w X' w')(hk:k<X.n)(m:MV)(h1:m.own=false)(h:m.holds X w k):m.holds X' w' k:=by
 cases m with
 |sl nw t T xs=>cases h1
 |bx nw c T=>cases h1
 |fs t xs =>
  show (rSl _).v _ _ _ _
  rw[hX.U k hk,hX.P];exact GR.vA _ h hX.k
 |fb t x =>
  show (KR _).v _ _ _ _
  rw[hX.U k hk,hX.P];exact GR.vA _ h hX.k
 |fg f =>
  intro t x hx;rw[hX.U k hk,hX.P];exact GR.vA _ (h t x hx) hX.k
 |mp nw a b xs=>cases h1
 |fm a b xs =>
  show ((Ty.mp a b).gr X'.P).v _ _ _ _
  rw[hX.U k hk,hX.P];exact GR.vA _ h hX.k
 |dead=>trivial
def S.yl(s:S)(d:Option Tmp)(b:Bool):S:={ L:=(match d with|some d=>(d,s.n,.rd .bool b)::s.L|none=>s.L),M:=HU s.n s.M,n:=s.n+1,ep:=s.n }
theorem Inv.yl(s:S)(d:Option Tmp)(b:Bool):Inv s (s.yl d b):=by
 refine⟨zLO _,?_,fun k e he hl=>?_⟩
 ·cases d with
  |none=>exact ye
  |some d=>exact vi ye
 ·rcases YZ he with ⟨g1,_⟩|⟨g1,_⟩
  ·exact g1
  ·omega
abbrev Frm.reb(F:Frm)(O:zR)(w:World):Frm:={ F with O0:=O,w0:=w,A:=Go.Lift.Fr w,x:={ F.x with sO:=O,sw:=w,sb:=w.heap.size } }
structure GenI(P:Program)(L:Nat)(a:HZ α)(xs:List α)(J:List α→zR→World→Prop)(Jx:zR→World→Prop):Prop where
 ext:∀pre O1 w1 w2,J pre O1 w1→Ext w1 w2→J pre O1 w2
 extx:∀O1 w1 w2,Jx O1 w1→Ext w1 w2→Jx O1 w2
 ok:∀pre O1 w1,J pre O1 w1→OkO O1 w1
 okx:∀O1 w1,Jx O1 w1→OkO O1 w1
 y:∀pre d post O1 w1 vs,xs=pre++d::post→J pre O1 w1→a O1 w1 vs d→zHh P L vs.toArray w1 fun b w2=>∃O2,zg 0 O1 w1 O2 w2∧match b with
  |true=>J (pre++[d]) O2 w2
  |false=>Jx O2 w2
structure GenF(F:Frm):Prop where
 D:F.D=[]
 Lh:∀t φ,¬F.Lh t φ
 bl:F.bl=[]
 fe:F.fe=0
 st:F.x.st≠0
 sys:∀b o,¬F.x.sys b o
 kv:∀v φ,¬F.x.kv v φ
 rd:F.x.rd=none
 nr:F.x.nr=true
section
variable {F:Frm} {E:VE} {t:Ty} {xs:List t.D} {J:List t.D→zR→World→Prop} {Jx:zR→World→Prop}
theorem Qb(hF:GenF F){O1 O2:zR}{w1 w w2:World}{s:S}{a:Act}(h:Rel (F.reb O1 w1) s a w)(hk:zg 0 O1 w O2 w2)(hO2:OkO O2 w2){d:Option Tmp}(hd:F.dst d)(b:Bool):Rel (F.reb O2 w2) (s.yl d b) (a.put d (.bool b)) w2:=by
 obtain⟨X,hX⟩:=h;have hout:=hX.qo
 let X2:Cx:={ X with O:=O2,A:=Go.Lift.Fr w2,F:=Go.Lift.Fr w2,n:=s.n+1,ep:=s.n }
 have hle2:(X.out (F.reb O1 w1)).le w X2 w2:=⟨rfl,hk,fun _ _=>rfl,by show X.n≤s.n+1;rw[hX.n];exact zLO _,rfl⟩
 have old:∀t e,look s.L t=some e→e.2.zm=false→e.2.holds X2 w2 (a.get t):=fun t e he hf=>e.2.le hf hle2 (e.2.le hf hout (hX.l t e he (by simp[fresh,hf])))
 have hfr:∀ {e:Nat×AV},fresh s.n e=true→e.1<s.n→e.2.zm=false:=fun {e} hf hl=>by
  cases hfr:e.2.zm with
  |false=>rfl
  |true =>
   simp only[fresh,hfr,Bool.not_true,Bool.false_or]at hf;rw[jr]at hf;have hf':s.n≤e.1:=of_decide_eq_true hf
   omega
 have hMo:=hX.Hg;have hcase:∀t e,look (s.yl d b).L t=some e→(d=some t∧e=(s.n,.rd .bool b))∨(d≠some t∧look s.L t=some e):=fun t e he=>by
  cases d with
  |none=>exact .inr ⟨by simp,he⟩
  |some d =>
   rcases zD he with ⟨h1,h2⟩|⟨h1,h2⟩
   ·exact .inl ⟨by rw[h1],h2.symm⟩
   ·exact .inr ⟨by simpa using h1,h2⟩
 refine⟨X2,hX.P,rfl,rfl,rfl,rfl,hO2,ZO hX.fit _ _,Base.start hO2,fun t e he hf=>?_,fun k e he=>?_,fun t e he=>?_,fun k e he=>?_,fun k k' e e' he he' ho=>?_,fun k e he ho=>?_,zLO _,by show F.fe<s.n+1;rw[hF.fe];exact Nat.succ_pos _,fun t φ hp=>absurd hp (hF.Lh t φ),⟨by show F.bl.length≤_;rw[hF.bl];exact Nat.zero_le _,fun j b hj=>by rw[show (F.reb O2 w2).bl=[] from hF.bl]at hj;cases hj⟩,
  ⟨hF.st,fun b o hs=>absurd hs (hF.sys b o),fun v φ hv=>absurd hv (hF.kv v φ),zg.refl _ _ _,hX.ex.L⟩⟩
 ·rcases hcase t e he with ⟨h1,h2⟩|⟨h1,h2⟩
  ·subst h2
   subst h1;rw[yg hX.fit (hd t rfl).1];exact km.2 rfl
  ·rw[jW h1]
   exact old t e h2 (hfr hf (hX.ln t e h2))
 ·rcases YZ he with ⟨_,g2,g3⟩|⟨_,g2,m',g3⟩
  ·obtain⟨m,g4,_⟩:=JN g3
   exact MV.zGo hle2 (by show k<X.n;rw[hX.n];exact(hX.mn k _ g4).2) _ g2 (hMo k e g3)
  ·obtain⟨m,g4,_⟩:=JN g3
   exact MV.zGo hle2 (by show k<X.n;rw[hX.n];exact(hX.mn k _ g4).2) e.2 g2 (hMo k (m',e.2) g3)
 ·rcases hcase t e he with ⟨_,h2⟩|⟨_,h2⟩
  ·rw[h2];exact zLP _
  ·exact Nat.lt_succ_of_lt (hX.ln t e h2)
 ·rcases YZ he with ⟨g1,_⟩|⟨g1,_,m',g3⟩
  ·have:=hX.mn k e g1;exact⟨Nat.lt_succ_of_lt this.1,Nat.lt_succ_of_lt this.2⟩
  ·obtain⟨m,g4,_⟩:=JN g3
   exact⟨by rw[g1];exact zLP _,Nat.lt_succ_of_lt (hX.mn k _ g4).2⟩
 ·rcases YZ he with ⟨_,g2,_⟩|⟨_,g2,_⟩<;>(rw[ho]at g2;cases g2)
 ·rcases YZ he with ⟨_,g2,_⟩|⟨_,g2,_⟩<;>(rw[ho]at g2;cases g2)
def Qc(s:S)(o:Oper):Option (List AV):=match o.op with
 |.call c=>match c.callee with
  |.value x=>match rdO s.ep s.L [] [] x with
   |some .yl=>jK (rdO s.ep s.L [] []) c.args.toList
   |_=>none
  |_=>none
 |_=>none
def nL(E:VE)(t:Ty)(wr:List Nat)(s:S)(o:Oper)(z:S→Comp Unit)(k:S→Comp (List t.D×β)):Comp (List t.D×β):=match Qc s o with
 |some l=>match Zx l,Xp (l.map (fun φ=>φ.asT E.G (frz s.M))) t with
  |true,some x=>(z (s.yl o.dst false)).bind fun _=>tell [x] (k (s.yl o.dst true))
  |_,_=>Comp.fail
 |none=>step E wr s o k
def YL(E:VE)(t:Ty)(wr:List Nat)(all:List Oper)(z:S→Comp Unit)(k:S→Comp (List t.D×β)):List Oper→S→Comp (List t.D×β)
 | [],s=>k s
 |o::os,s=>match o.guard with
  |none=>nL E t wr s o (Z0 E wr all z os) (YL E t wr all z k os)
  |some g=>match nV all g.1 with
   |none=>Comp.fail
   |some u=>match rdO s.ep s.L [] [] (.tmp u) with
    |none=>Comp.fail
    |some φ=>match exG φ with
     |some b=>match nH b g.2 with
      |true=>nL E t wr s o (Z0 E wr all z os) (YL E t wr all z k os)
      |false=>YL E t wr all z k os (s.put o.dst (.ex undef))
     |none=>match φ.bool? with
      |none=>Comp.fail
      |some b=>if gB b g.2=true then nL E t wr (s.put (some u) (.ex (.bool g.2))) o (Z0 E wr all z os) (YL E t wr all z k os) else YL E t wr all z k os ((s.put (some u) (.ex (.bool (ntB g.2)))).put o.dst (.ex undef))
structure Stp where
 k:S→Comp Unit
 ex:Nat→S→Comp Unit
 rt:S→Comp Unit
def AV.cb:AV→Option Bool
 |.rd .bool b=>some b
 |.ex (.bool b)=>some b
 |_=>none
theorem Vs{X:Cx}{w:World}{v:Value}{o:Option AV}{b:Bool}(h:o.bind AV.cb=some b)(hv:∀φ,o=some φ→φ.holds X w v):v=.bool b:=by
 cases o with
 |none=>cases h
 |some φ =>
  have k:=hv φ rfl;simp only[zLB]at h;unfold AV.cb at h;split at h
  ·cases h;exact km.1 k
  ·cases h;exact k
  ·cases h
def JR(E:VE)(t:Ty):Code→(β:Type)→H→S→(S→Comp (List t.D×β))→(Nat→S→Comp (List t.D×β))→(S→Comp (List t.D×β))→Stp→Comp (List t.D×β)
 |.skip,_,_,s,k,_,_,_=>k s
 |.label _,_,_,s,k,_,_,_=>k s
 |.region _ ops draw,_,h,s,k,_,_,z=>match h with
  |.f l h'=>match h' with
   |.y=>match draw with
    |false=>YL E t (wrS ops.toList) ops.toList z.k k ops.toList (s.YA E (q8 s l))
    |true=>Comp.fail
   |h'=>MI E ops draw h' (s.YA E (q8 s l)) k fun _=>Comp.fail
  |.y=>match draw with
   |false=>YL E t (wrS ops.toList) ops.toList z.k k ops.toList s
   |true=>Comp.fail
  |h=>MI E ops draw h s k fun _=>Comp.fail
 |.seq a b,β,h,s,k,ex,rt,z=>JR E t a β h.l1 s (fun s'=>JR E t b β h.l2 s' k ex rt z) ex rt ⟨fun s'=>den E b Unit h.l2 s' z.k (exF z.ex) z.rt,z.ex,z.rt⟩
 |.cond c x y,β,h,s,k,ex,rt,z=>match (rdO s.ep s.L [] [] c).bind AV.cb with
  |none=>Comp.fail
  |some b=>match h with
   |.j sh h1 h2=>jn (fun x=>k (sh.put s x)) fun j=>if b=true then JR E t x β h1 s (fun s'=>goJ E.G sh s s' j) ex rt z else JR E t y β h2 s (fun s'=>goJ E.G sh s s' j) ex rt z
   |h=>if b=true then JR E t x β h.l1 s k ex rt z else JR E t y β h.l2 s k ex rt z
 |.block id c,β,h,s,k,ex,rt,z=>match h with
  |.jb sh h1=>jn (fun x=>k (sh.put s x)) fun j=>JR E t c β h1 s (fun s'=>goJ E.G sh s s' j) (fun i s'=>match Nat.beq i id with|true=>goJ E.G sh s s' j|false=>ex i s') rt ⟨z.k,fun i s'=>match Nat.beq i id with|true=>z.k s'|false=>z.ex i s',z.rt⟩
  |h=>JR E t c β h.l1 s k (fun i s'=>match Nat.beq i id with|true=>k s'|false=>ex i s') rt ⟨z.k,fun i s'=>match Nat.beq i id with|true=>z.k s'|false=>z.ex i s',z.rt⟩
 |.loop c,β,h,s,k,ex,rt,z=>match h with
  |.l sh l h1=>match sh.get E.G s s with
   |none=>Comp.fail
   |some x0=>(YF (fun x=>JR E t c (Comp.Step sh.D (ED l)) h1 (sh.put s x) (fun s'=>(J9 E.G sh s s').bind fun st=>Comp.pure ([],st)) (fun i s'=>(ZW E.G s l (some i) s').bind fun st=>Comp.pure ([],st)) (fun s'=>(ZW E.G s l none s').bind fun st=>Comp.pure ([],st)) ⟨fun _=>Comp.fail,z.ex,z.rt⟩) x0).bind fun p=>tell p.1 (HS s ex rt l p.2)
  |_=>Comp.fail
 |.scope c,β,h,s,k,ex,rt,z=>JR E t c β h.l1 s k ex rt z
 |.exit i,_,_,s,_,ex,_,_=>ex i s
 |.ret,_,_,s,_,_,rt,_=>rt s
 |_,_,_,_,_,_,_,_=>Comp.fail
structure WaysY(F:Frm)(J:List t.D→zR→World→Prop)(T:List t.D)(s0:S)(nf:Nat){β:Type}(y:β)(k:S→Comp (List t.D×β))(ex:Nat→S→Comp (List t.D×β))(rt:S→Comp (List t.D×β))(Q:Exit→Act→World→Prop):Prop where
 k:∀O1 w1 acc s' a' w' ys,J acc O1 w1→Rel (F.reb O1 w1) s' a' w'→Inv s0 s'→(k s').run nf=some (ys,y)→acc++ys=T→Q .normal a' w'
 ex:∀i O1 w1 acc s' a' w' ys,J acc O1 w1→Rel (F.reb O1 w1) s' a' w'→Inv s0 s'→(ex i s').run nf=some (ys,y)→acc++ys=T→Q (.exit i) a' w'
 rt:∀O1 w1 acc s' a' w' ys,J acc O1 w1→Rel (F.reb O1 w1) s' a' w'→Inv s0 s'→(rt s').run nf=some (ys,y)→acc++ys=T→Q .ret a' w'
structure WaysX(F:Frm)(Jx:zR→World→Prop)(s0:S)(nf:Nat)(z:Stp)(Q:Exit→Act→World→Prop):Prop where
 k:∀O1 w1 s' a' w',Jx O1 w1→Rel (F.reb O1 w1) s' a' w'→Inv s0 s'→(z.k s').run nf=some ()→Q .normal a' w'
 ex:∀i O1 w1 s' a' w',Jx O1 w1→Rel (F.reb O1 w1) s' a' w'→Inv s0 s'→(z.ex i s').run nf=some ()→Q (.exit i) a' w'
 rt:∀O1 w1 s' a' w',Jx O1 w1→Rel (F.reb O1 w1) s' a' w'→Inv s0 s'→(z.rt s').run nf=some ()→Q .ret a' w'
theorem WaysX.inv{F:Frm}{Jx:zR→World→Prop}{s0 s1:S}{nf:Nat}{z:Stp}{Q:Exit→Act→World→Prop}(h:WaysX F Jx s0 nf z Q)(hi:Inv s0 s1):WaysX F Jx s1 nf z Q :=
 ⟨fun O1 w1 s' a' w' h1 h2 h3=>h.k O1 w1 s' a' w' h1 h2 (hi.trans h3),fun i O1 w1 s' a' w' h1 h2 h3=>h.ex i O1 w1 s' a' w' h1 h2 (hi.trans h3),fun O1 w1 s' a' w' h1 h2 h3=>h.rt O1 w1 s' a' w' h1 h2 (hi.trans h3)⟩
theorem Mp(hF:GenF F)(hE:E.ok F.P)(hG:GenI F.P F.x.Lp (t.args F.P) xs J Jx)(wr:List Nat){o:Oper}(ho:(∀c,o.op≠.defer c)∧F.dst o.dst){nf:Nat}{y:β}{Q:Exit→Act→World→Prop}{s:S}{a:Act}{w:World}{O1:zR}{w1:World}{acc ys T rest:List t.D}(hT:T++rest=xs){z:S→Comp Unit}{k:S→Comp (List t.D×β)}{K:Act→World→Prop}
  (hJ:J acc O1 w1) (h:Rel (F.reb O1 w1) s a w) (hr:(nL E t wr s o z k).run nf=some (ys,y)) (hxs:acc++ys=T)
  (hK:∀O2 w2 acc' s' v w' ys',J acc' O2 w2→Rel (F.reb O2 w2) s' (a.put o.dst v) w'→Inv s s'→(k s').run nf=some (ys',y)→acc'++ys'=T→K (a.put o.dst v) w')
  (hZ:∀O2 w2 s' v w',Jx O2 w2→Rel (F.reb O2 w2) s' (a.put o.dst v) w'→Inv s s'→(z s').run nf=some ()→K (a.put o.dst v) w'):F.W Q o a w K:=by
 unfold nL at hr;split at hr
 ·rename_i l hl
  split at hr
  ·rename_i x hnf hx
   obtain⟨u,hu,hr⟩:=run_bind hr;obtain⟨ys',hr',hys⟩:=Ax hr;obtain⟨X,hX⟩:=h;obtain⟨d,op,T,pos,aft,g⟩:=o;unfold Qc at hl;split at hl
   case h_2=>cases hl
   rename_i c hop;simp only at hop;subst hop;obtain⟨cal,cx,ts⟩:=c;split at hl
   case h_2=>cases hl
   rename_i f hcal;simp only at hcal;subst hcal;split at hl
   case h_2=>cases hl
   rename_i hf;rw[←hX.ep]at hf hl;have hfv:a.eval f=.func (.yield F.x.Lp) #[] #[]:=by
    have:=hX.rd #[f] f _ (by simp) hf
    rw[show a.eval f=_ from this,hX.ex.L]
   have hlen:=jg hl;have hargs:t.args X.P O1 w (cx.toList.map a.eval) x:=by
    refine kZ (O:=(X.out (F.reb O1 w1)).O) hx (by simp[hlen]) fun i f v hf hv t y hy=>?_
    rw[List.getElem?_map,Option.map_eq_some_iff]at hf hv;obtain⟨ψ,g1,rfl⟩:=hf;obtain⟨q,g2,rfl⟩:=hv;obtain⟨q',g3,g4⟩:=Zd hl i ψ g1;rw[g2]at g3;cases g3;have hψ:=hX.rd #[q] q ψ (by simp) g4
    have hnfψ:=kg hnf ψ (zLI g1);exact AV.Z5 (X:=X.out (F.reb O1 w1)) (by show FOk X.P E.G;rw[hX.P];exact hE.G) hX.Hg hy (ψ.le hnfψ hX.qo hψ)
   have hP:X.P=F.P:=hX.P;rw[hP]at hargs;have hJw:=hG.ext acc O1 w1 w hJ hX.base.ext
   have hxs':xs=acc++x::(ys'++rest):=by rw[←hT,←hxs,hys];simp
   obtain⟨fn,tm,asg,bd,q1,q2⟩:=hG.y acc x _ O1 w _ hxs' hJw hargs;refine⟨fun _ _=>trivial,?_⟩
   rw[show (fw F.x.rd).round=none from hF.rd,Oper.semAt_none]
   have hrun:(execOp a.eval ⟨d,.call ⟨.value f,cx,ts⟩,T,pos,aft,g⟩).run F.P w=.ok (.round F.x.Lp fn tm asg bd) w:=by
    have e:(cx.map a.eval)=(cx.toList.map a.eval).toArray:=by rw[←Array.toList_map]
    simp[execOp,resolve,hfv,Deferred.ofValue,invoke,e,q1]
   rw[hrun];have hfw:fw F.x.rd=Fence.wide:=by rw[hF.rd];rfl
   rw[hfw];refine⟨fun h=>by simp[Fence.wide]at h,RoundIn.mono q2 fun e w2 he=>?_⟩
   obtain⟨b,rfl,O2,hk,hb⟩:=he
   cases b with
   |true =>
    exact hK O2 w2 _ _ _ w2 ys' hb (Qb hF ⟨X,hX⟩ hk (hG.ok _ _ _ hb) ho.2 true) (Inv.yl _ _ _) hr' (by rw[←hxs,hys];simp)
   |false =>
    exact hZ O2 w2 _ _ w2 hb (Qb hF ⟨X,hX⟩ hk (hG.okx _ _ hb) ho.2 false) (Inv.yl _ _ _) hu
  ·cases hr
 ·exact j4 ho.1 (Kp (F:=F.reb O1 w1) hE h wr o ho.2 nf _ hr K Q fun s' v w' g1 g2 g3=>hK O1 w1 acc s' v w' ys hJ g1 g2 g3 hxs)
theorem wB(hF:GenF F)(hE:E.ok F.P)(hG:GenI F.P F.x.Lp (t.args F.P) xs J Jx)(wr:List Nat){all:List Oper}{nf:Nat}{y:β}{T rest:List t.D}(hT:T++rest=xs){Q:Exit→Act→World→Prop}{s0:S}{z:S→Comp Unit}{k:S→Comp (List t.D×β)}
  (hK:∀O2 w2 acc s' a' w' ys,J acc O2 w2→Rel (F.reb O2 w2) s' a' w'→Inv s0 s'→(k s').run nf=some (ys,y)→acc++ys=T→Q .normal a' w')
  (hZ:∀O2 w2 s' a' w',Jx O2 w2→Rel (F.reb O2 w2) s' a' w'→Inv s0 s'→(z s').run nf=some ()→Q .normal a' w'):∀ {os:List Oper} {s:S} {a:Act} {w:World} {O1:zR} {w1:World} {acc ys:List t.D},
  J acc O1 w1→Rel (F.reb O1 w1) s a w→Inv s0 s→(YL E t wr all z k os s).run nf=some (ys,y)→acc++ys=T→(∀o∈os,(∀c,o.op≠.defer c)∧F.dst o.dst)→vy (F.W Q) all.toArray (Q .normal) os a w
 | [],s,a,w,O1,w1,acc,ys,hJ,h,hi,hr,hxs,_=>hK O1 w1 acc s a w ys hJ h hi hr hxs
 |o::os,s,a,w,O1,w1,acc,ys,hJ,h,hi,hr,hxs,ho=>by
  have h1:=ho o (by simp)
  have ho':∀o∈os,(∀c,o.op≠.defer c)∧F.dst o.dst:=fun o' ho'=>ho o' (by simp[ho'])
  have act:∀ {s:S},Rel (F.reb O1 w1) s a w→Inv s0 s→(nL E t wr s o (Z0 E wr all z os) (YL E t wr all z k os)).run nf=some (ys,y)→Region.wanted o (yielded all.toArray a.tmps)=true→vy (F.W Q) all.toArray (Q .normal) (o::os) a w:=fun {s} h hi hr hw=>by
   simp only[vy,hw,if_true];refine Mp hF hE hG wr h1 hT hJ h hr hxs (fun O2 w2 acc' s' v w' ys' g1 g2 g3 g4 g5=>?_) fun O2 w2 s' v w' g1 g2 g3 g4=>?_
   ·exact wB hF hE hG wr hT hK hZ g1 g2 (hi.trans g3) g4 g5 ho'
   ·exact XR (F:=F.reb O2 w2) hE wr g2 (hi.trans g3) g4 ho' fun s2 a2 w3 e1 e2 e3=>hZ O2 w2 s2 a2 w3 g1 e1 e2 e3
  have off:∀ {s:S},Rel (F.reb O1 w1) s a w→Inv s0 s→(YL E t wr all z k os (s.put o.dst (.ex undef))).run nf=some (ys,y)→Region.wanted o (yielded all.toArray a.tmps)=false→vy (F.W Q) all.toArray (Q .normal) (o::os) a w:=fun {s} h hi hr hw=>by
   simp only[vy,hw,Bool.false_eq_true,if_false];exact wB hF hE hG wr hT hK hZ hJ (h.skip h1.2) (hi.trans (Inv.put _ _ _)) hr hxs ho'
  simp only[YL]at hr;split at hr
  ·rename_i hg
   exact act h hi hr (by simp[Region.wanted,hg])
  ·rename_i g hg
   have hwant:Region.wanted o (yielded all.toArray a.tmps)=(yielded all.toArray a.tmps g.1 == some g.2):=by simp[Region.wanted,hg]
   split at hr
   ·cases hr
   ·rename_i u ht
    split at hr
    ·cases hr
    ·rename_i φ hφ
     obtain⟨X,hX⟩:=h;rw[←hX.ep]at hφ;have hv:φ.holds X w (a.get u):=hX.rd #[.tmp u] (.tmp u) φ (by simp) hφ
     split at hr
     ·rename_i b hb
      have hy:yielded all.toArray a.tmps g.1=b:=by
       cases b with
       |none=>rw[Bm hb]at hv;exact Js ht hv
       |some b=>rw[Bl hb]at hv;exact YG ht hv
      rw[hy]at hwant;split at hr
      ·rename_i hw
       refine act ⟨X,hX⟩ hi hr ?_;rw[hwant];unfold nH at hw;split at hw<;>first|simp_all|cases hw
      ·rename_i hw
       refine off ⟨X,hX⟩ hi hr ?_;rw[hwant]
       cases b with
       |none=>rfl
       |some b =>
        generalize g.2=v at hw;cases b<;>cases v<;>first|rfl|(simp[nH]at hw)
     ·split at hr
      ·cases hr
      ·rename_i b hb
       have hab:a.get u=.bool b:=by rw[AV.Yj hb]at hv;exact km.1 hv
       have hy:=YG ht hab;rw[hy]at hwant;split at hr
       ·rename_i hgb
        have e:=RP.1 hgb;refine act (Rel.Xx hX (φ:=.ex (.bool g.2)) fun X' _=>(by rw[hab,e];exact rfl)) (hi.trans (Inv.put _ _ _)) hr ?_
        rw[hwant,e];simp
       ·rename_i hgb
        have e:=RD hgb;refine off (Rel.Xx hX (φ:=.ex (.bool (ntB g.2))) fun X' _=>(by rw[hab,e];exact rfl)) (hi.trans (Inv.put _ _ _)) hr ?_
        rw[hwant,e];cases g.2<;>rfl
theorem Ay{c:Comp σ}{n:Nat}{ys:List τ}{y:σ}(h:(c.bind fun st=>Comp.pure (([]:List τ),st)).run n=some (ys,y)):ys=[]∧c.run n=some y:=by
 obtain⟨x,h1,h2⟩:=run_bind h;have:=run_pure h2
 cases this
 exact⟨rfl,h1⟩
theorem Vg(hF:GenF F)(hm:F.P.follows .mixedOrders=true)(hE:E.ok F.P)(hG:GenI F.P F.x.Lp (t.args F.P) xs J Jx):∀(c:Code),okC F.N c=true→kz c=true→∀ {β:Type} {h:H} {s0 s:S} {a:Act} {w:World} {k:S→Comp (List t.D×β)} {ex:Nat→S→Comp (List t.D×β)} {rt:S→Comp (List t.D×β)} {z:Stp} {nf:Nat} {y:β} {Q:Exit→Act→World→Prop} {O1:zR} {w1:World} {acc ys T rest:List t.D},T++rest=xs →
  J acc O1 w1→Rel (F.reb O1 w1) s a w→Inv s0 s→(JR E t c β h s k ex rt z).run nf=some (ys,y)→acc++ys=T→WaysY F J T s0 nf y k ex rt Q→WaysX F Jx s0 nf z Q→F.wp c Q a w:=by
 have hLh:∀(O1:zR) (w1:World) t φ,¬(F.reb O1 w1).Lh t φ:=fun _ _=>hF.Lh
 have hstop:∀ {c:Code},okC F.N c=true→kz c=true→∀ {h:H} {s0 s:S} {a:Act} {w:World} {z:Stp} {nf:Nat} {Q:Exit→Act→World→Prop} {O1:zR} {w1:World},Jx O1 w1→Rel (F.reb O1 w1) s a w→Inv s0 s→(den E c Unit h s z.k (exF z.ex) z.rt).run nf=some ()→WaysX F Jx s0 nf z Q→F.wp c Q a w:=by
  intro c hok hn h s0 s a w z nf Q O1 w1 hJ hR hi hr hW;have hnr:(F.reb O1 w1).x.nr=true:=hF.nr
  exact Yr c (F:=F.reb O1 w1) hm (hLh _ _) hE hok (.inr hn) rfl hR hi hr ⟨fun F' s' a' w' g0 g1 g2 g3=>(by rw[g0.nr hnr]at g1;exact hW.k O1 w1 s' a' w' hJ g1 g2 g3),fun i hne F' s' a' w' g0 g1 g2 g3=>(by rw[g0.nr hnr]at g1;exact hW.ex i O1 w1 s' a' w' hJ g1 g2 (by rwa[Rb hne]at g3)),fun F' s' a' w' g0 g1 g2 g3=>(by rw[g0.nr hnr]at g1;exact hW.rt O1 w1 s' a' w' hJ g1 g2 g3),fun F' s' a' _ w' _ _ _ g3=>(Rc g3).elim⟩
 have hregY:∀ {id:Nat} {ops:Array Oper},Xk F.N ops.toList=true→∀ {β:Type} {s0 s:S} {a:Act} {w:World} {k:S→Comp (List t.D×β)} {zk:S→Comp Unit} {nf:Nat} {y:β} {Q:Exit→Act→World→Prop} {O1:zR} {w1:World} {acc ys T rest:List t.D},T++rest=xs→J acc O1 w1→Rel (F.reb O1 w1) s a w→Inv s0 s→(YL E t (wrS ops.toList) ops.toList zk k ops.toList s).run nf=some (ys,y)→acc++ys=T →
   (∀O2 w2 acc s' a' w' ys,J acc O2 w2→Rel (F.reb O2 w2) s' a' w'→Inv s0 s'→(k s').run nf=some (ys,y)→acc++ys=T→Q .normal a' w')→(∀O2 w2 s' a' w',Jx O2 w2→Rel (F.reb O2 w2) s' a' w'→Inv s0 s'→(zk s').run nf=some ()→Q .normal a' w')→F.wp (.region id ops false) Q a w:=by
  intro id ops hok β s0 s a w k zk nf y Q O1 w1 acc ys T rest hT hJ hR hi hr hxs hK hZ;have key:vy (F.W Q) ops.toList.toArray (Q .normal) ops.toList a w:=wB hF hE hG (wrS ops.toList) hT hK hZ hJ hR hi hr hxs fun o ho=>⟨Kt hok o ho,fun t ht=>?_⟩
  ·refine Jn (fun h=>nomatch h) ?_
   show Y7 (F.W Q) ops (Q .normal) (List.range ops.size) a w
   rw[List.range_eq_range',←Array.length_toList,kQ ops.toList 0 (by simp)]
   simpa using key
  ·obtain⟨j,hj⟩:=List.mem_iff_getElem?.1 ho
   exact⟨((zW (Xt hok) hj).2.1 t ht).1,fun φ=>hF.Lh t φ⟩
 intro c
 induction c with
 |skip=>intro _ _ β h s0 s a w k ex rt z nf y Q O1 w1 acc ys T rest hT hJ hR hi hr hxs hW hX;exact wpIn_skip (hW.k O1 w1 acc s a w ys hJ hR hi hr hxs)
 |label l=>intro _ _ β h s0 s a w k ex rt z nf y Q O1 w1 acc ys T rest hT hJ hR hi hr hxs hW hX;exact wpIn_label (hW.k O1 w1 acc s a w ys hJ hR hi hr hxs)
 |exit i=>intro _ _ β h s0 s a w k ex rt z nf y Q O1 w1 acc ys T rest hT hJ hR hi hr hxs hW hX;exact wpIn_exit (hW.ex i O1 w1 acc s a w ys hJ hR hi hr hxs)
 |ret=>intro _ _ β h s0 s a w k ex rt z nf y Q O1 w1 acc ys T rest hT hJ hR hi hr hxs hW hX;exact wpIn_ret (hW.rt O1 w1 acc s a w ys hJ hR hi hr hxs)
 |region id ops draw =>
  intro hok _ β h s0 s a w k ex rt z nf y Q O1 w1 acc ys T rest hT hJ hR hi hr hxs hW hX;simp only[JR]at hr;simp only[okC,zLD]at hok;have hN:=u6 hok.2
  have hok:=hok.1;split at hr
  ·rename_i l h'
   have hR':=Rel.YA (F:=F.reb O1 w1) (E:=E) hE hR (q8 s l);have hi':=hi.trans (Inv.YA (E:=E) s (q8 s l))
   split at hr
   ·split at hr
    ·exact hregY hok hT hJ hR' hi' hr hxs hW.k hX.k
    ·cases hr
   ·exact uf (F:=F.reb O1 w1) (hLh _ _) hE hm (zLF _) hN hok hR' hi' hr (fun s' a' w' g1 g2 g3=>hW.k O1 w1 acc s' a' w' ys hJ g1 g2 g3 hxs) fun s' a' _ w' _ _ g3=>(nomatch g3)
  ·split at hr
   ·exact hregY hok hT hJ hR hi hr hxs hW.k hX.k
   ·cases hr
  ·exact uf (F:=F.reb O1 w1) (hLh _ _) hE hm (zLF _) hN hok hR hi hr (fun s' a' w' g1 g2 g3=>hW.k O1 w1 acc s' a' w' ys hJ g1 g2 g3 hxs) fun s' a' _ w' _ _ g3=>(nomatch g3)
 |seq x v ihx ihv =>
  intro hok hn β h s0 s a w k ex rt z nf y Q O1 w1 acc ys T rest hT hJ hR hi hr hxs hW hX;simp only[okC,zLD]at hok;simp only[kz,zLD]at hn;simp only[JR]at hr;refine wpIn_seq (ihx hok.1 hn.1 hT hJ hR hi hr hxs ⟨fun O2 w2 acc' s' a' w' ys' g0 g1 g2 g3 g4=>?_,hW.ex,hW.rt⟩ ⟨fun O2 w2 s' a' w' g0 g1 g2 g3=>?_,hX.ex,hX.rt⟩)
  ·exact ihv hok.2 hn.2 hT g0 g1 g2 g3 g4 hW hX
  ·exact hstop hok.2 hn.2 g0 g1 g2 g3 hX
 |scope x ih =>
  intro hok hn β h s0 s a w k ex rt z nf y Q O1 w1 acc ys T rest hT hJ hR hi hr hxs hW hX;simp only[JR]at hr;exact tJ (ih hok hn hT hJ hR hi hr hxs ⟨hW.k,hW.ex,hW.rt⟩ ⟨hX.k,hX.ex,hX.rt⟩)
 |cond c x e ihx ihe =>
  intro hok hn β h s0 s a w k ex rt z nf y Q O1 w1 acc ys T rest hT hJ hR hi hr hxs hW hX;simp only[okC,zLD]at hok;simp only[kz,zLD]at hn;simp only[JR]at hr;split at hr
  ·cases hr
  ·rename_i b hb
   have hc:a.eval c=.bool b:=by
    obtain⟨X,hX⟩:=hR;rw[←hX.ep]at hb;exact Vs hb fun φ h1=>hX.rd #[c] c φ (by simp) h1
   split at hr
   ·rename_i sh h1 h2
    dsimp only [jn]at hr;have hW':WaysY F J T s nf y (fun s'=>goJ E.G sh s s' (fun x=>k (sh.put s x))) ex rt Q:=by
     refine⟨fun O2 w2 acc' s' a' w' ys' g0 g1 g2 g3 g4=>?_,fun i O2 w2 acc' s' a' w' ys' g0 g1 g2 g3 g4=>hW.ex i O2 w2 acc' s' a' w' ys' g0 g1 (hi.trans g2) g3 g4,fun O2 w2 acc' s' a' w' ys' g0 g1 g2 g3 g4=>hW.rt O2 w2 acc' s' a' w' ys' g0 g1 (hi.trans g2) g3 g4⟩
     obtain⟨x,q1,q2,q3⟩:=qq (F:=F.reb O2 w2) (F0:=F.reb O1 w1) (hLh _ _) hE ⟨rfl,rfl,rfl⟩ hR g1 g2 g3;exact hW.k O2 w2 acc' _ _ _ ys' g0 q1 (hi.trans q2) q3 g4
    refine wpIn_cond_split hc (fun hbt=>?_) (fun hbf=>?_)
    ·rw[if_pos hbt]at hr;exact ihx hok.1 hn.1 hT hJ hR (Inv.refl s) hr hxs hW' (hX.inv hi)
    ·rw[if_neg (by rw[hbf];simp)]at hr;exact ihe hok.2 hn.2 hT hJ hR (Inv.refl s) hr hxs hW' (hX.inv hi)
   ·refine wpIn_cond_split hc (fun hbt=>?_) (fun hbf=>?_)
    ·rw[if_pos hbt]at hr;exact ihx hok.1 hn.1 hT hJ hR hi hr hxs hW hX
    ·rw[if_neg (by rw[hbf];simp)]at hr;exact ihe hok.2 hn.2 hT hJ hR hi hr hxs hW hX
 |block id x ih =>
  intro hok hn β h s0 s a w k ex rt z nf y Q O1 w1 acc ys T rest hT hJ hR hi hr hxs hW hX;simp only[JR]at hr;refine wpIn_block ?_;have hX':WaysX F Jx s0 nf ⟨z.k,fun i s'=>match Nat.beq i id with|true=>z.k s'|false=>z.ex i s',z.rt⟩ (Exit.inBlock id Q):=by
   refine⟨hX.k,fun i O2 w2 s' a' w' g0 g1 g2 g3=>?_,hX.rt⟩
   show (if i=id then Q .normal a' w' else Q (.exit i) a' w')
   cases hb:Nat.beq i id with
   |true=>simp only[hb]at g3;rw[if_pos (zLC hb)];exact hX.k O2 w2 s' a' w' g0 g1 g2 g3
   |false =>
    simp only[hb]at g3;rw[zV]at hb;rw[if_neg (by simpa using hb)];exact hX.ex i O2 w2 s' a' w' g0 g1 g2 g3
  have hok:=(show okC F.N x=true by simp only[okC,zLD]at hok;exact hok.1)
  split at hr
  ·rename_i sh h1
   dsimp only [jn]at hr;have hk:∀O2 w2 acc' s' a' w' ys',J acc' O2 w2→Rel (F.reb O2 w2) s' a' w'→Inv s s'→(goJ E.G sh s s' (fun x=>k (sh.put s x))).run nf=some (ys',y)→acc'++ys'=T→Q .normal a' w':=by
    intro O2 w2 acc' s' a' w' ys' g0 g1 g2 g3 g4;obtain⟨x,q1,q2,q3⟩:=qq (F:=F.reb O2 w2) (F0:=F.reb O1 w1) (hLh _ _) hE ⟨rfl,rfl,rfl⟩ hR g1 g2 g3;exact hW.k O2 w2 acc' _ _ _ ys' g0 q1 (hi.trans q2) q3 g4
   refine ih hok hn hT hJ hR (Inv.refl s) hr hxs ⟨hk,fun i O2 w2 acc' s' a' w' ys' g0 g1 g2 g3 g4=>?_,fun O2 w2 acc' s' a' w' ys' g0 g1 g2 g3 g4=>hW.rt O2 w2 acc' s' a' w' ys' g0 g1 (hi.trans g2) g3 g4⟩ (hX'.inv hi)
   show (if i=id then Q .normal a' w' else Q (.exit i) a' w')
   cases hb:Nat.beq i id with
   |true=>rw[hb]at g3;rw[if_pos (zLC hb)];exact hk O2 w2 acc' s' a' w' ys' g0 g1 g2 g3 g4
   |false =>
    rw[hb]at g3;rw[zV]at hb;rw[if_neg (by simpa using hb)];exact hW.ex i O2 w2 acc' s' a' w' ys' g0 g1 (hi.trans g2) g3 g4
  ·refine ih hok hn hT hJ hR hi hr hxs ⟨hW.k,fun i O2 w2 acc' s' a' w' ys' g0 g1 g2 g3 g4=>?_,hW.rt⟩ hX'
   show (if i=id then Q .normal a' w' else Q (.exit i) a' w')
   cases hb:Nat.beq i id with
   |true=>rw[hb]at g3;rw[if_pos (zLC hb)];exact hW.k O2 w2 acc' s' a' w' ys' g0 g1 g2 g3 g4
   |false =>
    rw[hb]at g3;rw[zV]at hb;rw[if_neg (by simpa using hb)];exact hW.ex i O2 w2 acc' s' a' w' ys' g0 g1 g2 g3 g4
 |loop c ih =>
  intro hok hn β h s0 s a w k ex rt z nf y Q O1 w1 acc ys T rest hT hJ hR hi hr hxs hW hX;simp only[JR]at hr;split at hr
  ·rename_i sh l h1
   split at hr
   ·cases hr
   ·rename_i x0 hx0
    obtain⟨p,hp,hr⟩:=run_bind hr;obtain⟨ys0,e⟩:=p;obtain⟨zs,hr,hys⟩:=Ax hr;simp only at hr hys;obtain⟨g1,g2⟩:=YU (F:=F.reb O1 w1) (hLh _ _) hE (Frm.Ka _) hR hR (Inv.refl s) hx0
    generalize hB:(fun x=>JR E t c (Comp.Step sh.D (ED l)) h1 (sh.put s x) (fun s'=>(J9 E.G sh s s').bind fun st=>Comp.pure ([],st)) (fun i s'=>(ZW E.G s l (some i) s').bind fun st=>Comp.pure ([],st)) (fun s'=>(ZW E.G s l none s').bind fun st=>Comp.pure ([],st)) ⟨fun _=>Comp.fail,z.ex,z.rt⟩)=B at *
    refine rY (fun m a' w'=>∃O2 w2 acc' x ys',J acc' O2 w2∧Rel (F.reb O2 w2) (sh.put s x) a' w'∧Inv s (sh.put s x)∧kW B nf m x=some (ys',e)∧acc'++(ys'++zs)=T) (fun m a' w' hI=>?_) ⟨O1,w1,acc,x0,ys0,hJ,g1,g2,hp,by rw[←hxs,hys]⟩
    obtain⟨O2,w2,acc',x,ys',q0,q1,q2,q3,q4⟩:=hI;obtain⟨m',hlt,us,st,hst,hnx,hdn⟩:=AO q3;rw[←hB]at hst
    have hend:∀(o:Option Nat) O3 w3 acc3 s' a3 w' vs,J acc3 O3 w3→Rel (F.reb O3 w3) s' a3 w'→Inv s s'→((ZW (σ:=sh.D) E.G s l o s').bind fun st=>Comp.pure (([]:List t.D),st)).run nf=some (vs,st)→acc3++vs=acc'++us→∃s2,Rel (F.reb O3 w3) s2 a3 w'∧Inv s s2∧(match o with|some i=>ex i s2|none=>rt s2).run nf=some (zs,y)∧acc3++zs=T:=by
     intro o O3 w3 acc3 s' a3 w' vs f0 f1 f2 f3 f4;obtain⟨rfl,f5⟩:=Ay (c:=ZW (σ:=sh.D) E.G s l o s') f3;unfold ZW at f5;split at f5
     ·rename_i v hv
      have hst:=run_pure f5;obtain⟨he,hus⟩:=hdn v hst.symm;subst he;obtain⟨s2,r1,r2,r3⟩:=uu (F:=F.reb O3 w3) (F0:=F.reb O1 w1) (hLh _ _) hE ⟨rfl,rfl,rfl⟩ hR f1 f2 hv hr;refine⟨s2,r1,r2,r3,?_⟩;rw[List.append_nil]at f4;rw[f4,←q4,hus,List.append_assoc]
     ·cases f5
    have hT':∃rest',(acc'++us)++rest'=xs:=by
     cases st with
     |next s' =>
      obtain⟨zs',_,h2⟩:=hnx s' rfl;exact⟨zs'++zs++rest,by rw[←hT,←q4,h2];simp⟩
     |done e' =>
      obtain⟨_,h2⟩:=hdn e' rfl;exact⟨zs++rest,by rw[←hT,←q4,h2];simp⟩
    obtain⟨rest',hT'⟩:=hT';refine ih hok hn hT' q0 q1 q2 hst rfl ⟨fun O3 w3 acc3 s' a3 w' vs f0 f1 f2 f3 f4=>?_,fun i O3 w3 acc3 s' a3 w' vs f0 f1 f2 f3 f4=>?_,fun O3 w3 acc3 s' a3 w' vs f0 f1 f2 f3 f4=>?_⟩ ⟨fun _ _ _ _ _ _ _ _ f=>(nomatch f),(hX.inv hi).ex,(hX.inv hi).rt⟩
    ·obtain⟨rfl,f5⟩:=Ay (c:=J9 E.G sh s s') f3
     unfold J9 at f5;split at f5
     ·rename_i v hv
      have hst:=run_pure f5;obtain⟨zs',k1,k2⟩:=hnx v hst.symm;obtain⟨r1,r2⟩:=YU (F:=F.reb O3 w3) (F0:=F.reb O1 w1) (hLh _ _) hE ⟨rfl,rfl,rfl⟩ hR f1 f2 hv;refine⟨m',hlt,O3,w3,acc3,v,zs',f0,r1,r2,k1,?_⟩;rw[List.append_nil]at f4;rw[f4,←q4,k2];simp
     ·cases f5
    ·obtain⟨s2,r1,r2,r3,r4⟩:=hend (some i) O3 w3 acc3 s' a3 w' vs f0 f1 f2 f3 f4
     exact hW.ex i O3 w3 acc3 s2 a3 w' zs f0 r1 (hi.trans r2) r3 r4
    ·obtain⟨s2,r1,r2,r3,r4⟩:=hend none O3 w3 acc3 s' a3 w' vs f0 f1 f2 f3 f4
     exact hW.rt O3 w3 acc3 s2 a3 w' zs f0 r1 (hi.trans r2) r3 r4
  ·cases hr
 |goto l=>intro _ _ β h s0 s a w k ex rt z nf y Q O1 w1 acc ys T rest hT hJ hR hi hr;cases hr
 |refuse l=>intro _ _ β h s0 s a w k ex rt z nf y Q O1 w1 acc ys T rest hT hJ hR hi hr;cases hr
 |rangeFunc f ps pa bd _ _=>intro _ hn;cases hn
end
def RV(E:VE)(c:Code)(h:H)(ps t:Ty)(x:ps.D):Comp (List t.D) :=
 (JR E t c Unit h ⟨(0,0,.yl)::Ym ps x 1,[],1,0⟩ (fun _=>Comp.pure ([],())) (fun _ _=>Comp.fail) (fun _=>Comp.pure ([],())) ⟨fun _=>Comp.pure (),fun _ _=>Comp.fail,fun _=>Comp.pure ()⟩).bind fun p=>Comp.pure p.1
theorem zDQ{P:Program}{E:VE}(hE:E.ok P)(hm:P.follows .mixedOrders=true){f:FuncId}{fn:Func}{c:Code}{h:H}{fs:GS}(hF:FnOk P f)(hf:P.funcs[f]?=some fn)(hb:fn.body=some c)(hc:(okC fn.ntmps c && kz c)=true)(hres:fn.results.size=0)(hl:Nat.ble (fs.ps.len+1) fn.ntmps=true)
  (hs:∀x,RV E c h fs.ps fs.t x=fs.sem x):fs.ok P f:=by
 rw[zLD]at hc;refine⟨hF,fun O w hO us x ha n xs hy L J Jx hR=>?_⟩
 rw[←hs x]at hy;obtain⟨⟨ys,u⟩,hy2,hp⟩:=run_bind hy;have:=run_pure hp
 simp only at this;subst this;have hvs:=Z6 ha
 refine calls_of_wp hf hb ?_;have hfit:=ky (Value.func (.yield L) #[] #[]::us).toArray fn.ntmps (by simp only[List.size_toArray,zLL];rw[hvs];exact Nat.le_of_ble_eq_true hl)
 have hget:∀(j:Nat) v,(Value.func (.yield L) #[] #[]::us)[j]?=some v→Act.get { tmps:=(Value.func (.yield L) #[] #[]::us).toArray++Array.replicate (fn.ntmps-(Value.func (.yield L) #[] #[]::us).toArray.size) undef,defers:=[] } j=v:=fun j v hj=>kx (by simpa using hj)
 generalize ({ tmps:=(Value.func (.yield L) #[] #[]::us).toArray++Array.replicate (fn.ntmps-(Value.func (.yield L) #[] #[]::us).toArray.size) undef,defers:=[] }:Act)=a at hfit hget ⊢
 let F:Frm:=⟨P,fn.ntmps,[],Go.Lift.Fr w,O,w,fun _ _=>False,0,[],{ FrX.no 1 O w with Lp:=L,nr:=true }⟩
 let X:Cx:=⟨P,O,fun _=>.nilIface,1,fun k=>k,Go.Lift.Fr w,Go.Lift.Fr w,0,L⟩
 have hGF:GenF F:=⟨rfl,fun _ _ h=>h,rfl,rfl,Nat.one_ne_zero,fun _ _ h=>h,fun _ _ h=>h,rfl,rfl⟩
 have hG:GenI P L (fs.t.args P) ys J Jx:=⟨hR.ext,hR.extx,hR.ok,hR.okx,hR.y⟩;have hRel:Rel (F.reb O w) ⟨(0,0,.yl)::Ym fs.ps x 1,[],1,0⟩ a w:=by
  have hin:=fun {t e}=>Z3 (X:=X) (a:=a) (i:=1) rfl rfl ha (fun j v hj=>by rw[Nat.add_comm];exact hget (j+1) v (by simpa using hj)) (u:=t) (e:=e)
  refine⟨X,rfl,rfl,rfl,rfl,rfl,hO,hfit,Base.start hO,fun t e he _=>(by
   rcases zD he with ⟨rfl,rfl⟩|⟨_,he⟩
   ·exact hget 0 _ rfl
   ·exact(hin he).2),fun k e he=>(nomatch he),fun t e he=>(by
   rcases zD he with ⟨rfl,rfl⟩|⟨_,he⟩
   ·exact Nat.zero_lt_one
   ·rw[(hin he).1];exact Nat.zero_lt_one),fun k e he=>(nomatch he),fun k k' e e' he=>(nomatch he),fun k e he=>(nomatch he),Nat.zero_le _,Nat.zero_lt_one,fun _ _ h=>h.elim,⟨Nat.zero_le _,fun j b hj=>(nomatch hj)⟩,⟨Nat.one_ne_zero,fun _ _ h=>h.elim,fun _ _ h=>h.elim,zg.refl _ _ _,rfl⟩⟩
 have hret:∀(a':Act) (w':World),a'.defers=[]→((∃O'',J ys O'' w')∨∃O'',Jx O'' w')→bodyPost P fn (fun e w''=>e=.returned (.tuple #[])∧((∃O'',J ys O'' w'')∨∃O'',Jx O'' w'')) .normal a' w':=fun a' w' hd h=>by
  have hr:fn.results=#[]:=Array.eq_empty_of_size_eq_zero hres;exact⟨hd,.tuple #[],by simp[results,hr],rfl,h⟩
 refine(wpIn_wide (n:=0)).1 ?_
 refine Vg (F:=F) (xs:=ys) (T:=ys) (rest:=[]) (acc:=[]) hGF hm hE hG c hc.1 hc.2 (by simp) hR.z hRel (Inv.refl _) hy2 rfl ⟨fun O1 w1 acc s' a' w' zs h1 h2 h3 h4 h5=>?_,fun i O1 w1 acc s' a' w' zs h1 h2 h3 h4=>(nomatch h4),fun O1 w1 acc s' a' w' zs h1 h2 h3 h4 h5=>?_⟩ ⟨fun O1 w1 s' a' w' h1 h2 h3 h4=>?_,fun i O1 w1 s' a' w' h1 h2 h3 h4=>(nomatch h4),fun O1 w1 s' a' w' h1 h2 h3 h4=>?_⟩
 ·have:=run_pure h4
  cases this
  obtain⟨X',hX'⟩:=h2;rw[List.append_nil]at h5;subst h5;exact hret a' w' hX'.fit.defers (.inl ⟨O1,hR.ext _ _ _ _ h1 hX'.base.ext⟩)
 ·have:=run_pure h4
  cases this
  obtain⟨X',hX'⟩:=h2;rw[List.append_nil]at h5;subst h5;exact hret a' w' hX'.fit.defers (.inl ⟨O1,hR.ext _ _ _ _ h1 hX'.base.ext⟩)
 ·obtain⟨X',hX'⟩:=h2
  exact hret a' w' hX'.fit.defers (.inr ⟨O1,hR.extx _ _ _ h1 hX'.base.ext⟩)
 ·obtain⟨X',hX'⟩:=h2
  exact hret a' w' hX'.fit.defers (.inr ⟨O1,hR.extx _ _ _ h1 hX'.base.ext⟩)
end Go.Den
end
noncomputable section
namespace Go.Den
open Go Go.RowKit Go.Eng Go.Lift
variable {α β γ δ:Type}
def rng:Nat→Nat→List Nat
 |0,_=>[]
 |m+1,j=>j::rng m (j+1)
def initK(f:FuncId)(all:List Nat)(q:Nat):(cs:List CQ)→CR cs→CB cs→Nat→Nat→LS×MS
 | [],_,_,_,_=>([],[])
 |.r t T::l,x,y,i,j=>((i,0,.bx j 0)::(initK f all q l x.2 y (i+1) (j+1)).1,(j,0,.bx false (.rd t x.1) T)::(initK f all q l x.2 y (i+1) (j+1)).2)
 |.p t T::l,x,y,i,j=>((i,0,.bx j 0)::(initK f all q l x y.2 (i+1) (j+1)).1,(j,0,.bx false (.rd t y.1) T)::(initK f all q l x y.2 (i+1) (j+1)).2)
 |.o t T' T::l,x,y,i,j=>((i,0,.bx j 0)::(initK f all q l x y.2 (i+1) (j+1)).1,(j,0,.bx false (.ob q) T)::(q,0,.sl false t T' y.1)::(initK f all q l x y.2 (i+1) (j+1)).2)
 |.s T::l,x,y,i,j=>((i,0,.bx j 0)::(initK f all q l x y (i+1) (j+1)).1,(j,0,.bx false (.cl f .un (qx all)) T)::(initK f all q l x y (i+1) (j+1)).2)
def Jh:List CQ→List Nat→MS→Nat→Bool
 |.r _ _::l,k::ks,M,n=>(match look M k with
  |some e=>Nat.blt e.1 n
  |none=>false) && Jh l ks M n
 |_::l,_::ks,M,n=>Jh l ks M n
 |_,_,_,_=>true
def rtK(E:VE)(f:FuncId)(fs:FK)(s:S):Comp (Sum fs.zt.D (CB fs.cs)):=match gL E.G f (rng fs.cs.length 0) s.M fs.cs (rng fs.cs.length 0) with
 |some p=>match Nat.ble p.2.2.length 1 && Jh fs.cs (rng fs.cs.length 0) s.M (fs.cs.length+2) with
  |true=>Comp.pure (.inr p.2.1)
  |false=>Comp.fail
 |none=>Comp.fail
def pnK(E:VE)(fs:FK)(s:S):Comp (Sum fs.zt.D (CB fs.cs)):=match rdO s.ep s.L [] [] (.tmp 0) with
 |some φ=>match φ.asT E.G [] fs.zt with
  |some z=>Comp.pure (.inl z)
  |none=>Comp.fail
 |none=>Comp.fail
def RZ(E:VE)(f:FuncId)(c:Code)(h:H)(fs:FK)(x:fs.ps.D)(r:CR fs.cs)(y:CB fs.cs):Comp (Sum fs.zt.D (CB fs.cs)) :=
 den E c (Sum fs.zt.D (CB fs.cs)) h ⟨Ym fs.ps x 0++(initK f (rng fs.cs.length 0) fs.cs.length fs.cs r y fs.ps.len 0).1,(initK f (rng fs.cs.length 0) fs.cs.length fs.cs r y fs.ps.len 0).2,fs.cs.length+2,0⟩ (rtK E f fs)
  (fun i s=>match Nat.beq i PL with|true=>pnK E fs s|false=>Comp.fail) (rtK E f fs)
theorem Cnt.len{P:Program}{f:FuncId}{us:List Value}{O:zR}{w:World}{G:Nat→Prop}:∀ {l:List CQ} {x:CR l} {y:CB l} {bl ts σs:List Nat} {vs:List Value},Cnt P f us O w G l x y bl ts σs vs→bl.length=l.length∧ts.length=l.length∧vs.length=σs.length
 | [],x,y,bl,ts,σs,vs,h=>by obtain⟨rfl,rfl,rfl,rfl⟩:=h;exact⟨rfl,rfl,rfl⟩
 |.r t T::l,x,y,bl,ts,σs,vs,h=>by
  obtain⟨b,bl',τ,ts',cs,rfl,rfl,_,_,_,h⟩:=h;obtain⟨h1,h2,h3⟩:=h.len;exact⟨by simp[h1],by simp[h2],h3⟩
 |.p t T::l,x,y,bl,ts,σs,vs,h=>by
  obtain⟨b,bl',τ,ts',cs,rfl,rfl,_,_,_,h⟩:=h;obtain⟨h1,h2,h3⟩:=h.len;exact⟨by simp[h1],by simp[h2],h3⟩
 |.o t T' T::l,x,y,bl,ts,σs,vs,h=>by
  obtain⟨b,bl',τ,ts',σ,σs',u,vs',rfl,rfl,rfl,rfl,_,_,_,_,h⟩:=h;obtain⟨h1,h2,h3⟩:=h.len;exact⟨by simp[h1],by simp[h2],by simp[h3]⟩
 |.s T::l,x,y,bl,ts,σs,vs,h=>by
  obtain⟨b,bl',τ,ts',rfl,rfl,_,_,h⟩:=h;obtain⟨h1,h2,h3⟩:=h.len;exact⟨by simp[h1],by simp[h2],h3⟩
theorem Cnt.mem{P:Program}{f:FuncId}{us:List Value}{O:zR}{w:World}{G:Nat→Prop}:∀ {l:List CQ} {x:CR l} {y:CB l} {bl ts σs:List Nat} {vs:List Value},Cnt P f us O w G l x y bl ts σs vs→(∀b∈bl,b<w.heap.size)∧ts=bl.map O
 | [],x,y,bl,ts,σs,vs,h=>by obtain⟨rfl,rfl,rfl,rfl⟩:=h;exact⟨by simp,rfl⟩
 |.r t T::l,x,y,bl,ts,σs,vs,h=>by
  obtain⟨b,bl',τ,ts',cs,rfl,rfl,h1,h2,_,h⟩:=h;obtain⟨h3,h4⟩:=h.mem;refine⟨fun c hc=>?_,by simp[h2,h4]⟩
  rcases zLH.1 hc with rfl|hc
  ·exact h1.lt
  ·exact h3 c hc
 |.p t T::l,x,y,bl,ts,σs,vs,h=>by
  obtain⟨b,bl',τ,ts',cs,rfl,rfl,h1,h2,_,h⟩:=h;obtain⟨h3,h4⟩:=h.mem;refine⟨fun c hc=>?_,by simp[h2,h4]⟩
  rcases zLH.1 hc with rfl|hc
  ·exact h1.lt
  ·exact h3 c hc
 |.o t T' T::l,x,y,bl,ts,σs,vs,h=>by
  obtain⟨b,bl',τ,ts',σ,σs',u,vs',rfl,rfl,rfl,rfl,_,h1,h2,_,h⟩:=h;obtain⟨h3,h4⟩:=h.mem;refine⟨fun c hc=>?_,by simp[h2,h4]⟩
  rcases zLH.1 hc with rfl|hc
  ·exact h1.lt
  ·exact h3 c hc
 |.s T::l,x,y,bl,ts,σs,vs,h=>by
  obtain⟨b,bl',τ,ts',rfl,rfl,h1,h2,h⟩:=h;obtain⟨h3,h4⟩:=h.mem;refine⟨fun c hc=>?_,by simp[h2,h4]⟩
  rcases zLH.1 hc with rfl|hc
  ·exact h1.lt
  ·exact h3 c hc
theorem Cnt.CV{P:Program}{f:FuncId}{us:List Value}{O O':zR}{w:World}{G G':Nat→Prop}(hk:zg 0 O w O' w):∀ {l:List CQ} {x:CR l} {y:CB l} {bl ts σs ts' σs':List Nat} {vs:List Value},Cnt P f us O w G l x y bl ts σs vs→ts'=bl.map O'→σs'.length=σs.length →
  (∀(i:Nat) u σ',vs[i]?=some u→σs'[i]?=some σ'→∀g,u.ownBlock=some g→G g→O' g=σ'∧G' g)→Cnt P f us O' w G' l x y bl ts' σs' vs
 | [],x,y,bl,ts,σs,ts',σs',vs,h,h1,h2,h3=>by
  obtain⟨rfl,rfl,rfl,rfl⟩:=h;exact⟨rfl,h1,List.length_eq_zero_iff.1 h2,rfl⟩
 |.r t T::l,x,y,bl,ts,σs,ts',σs',vs,h,h1,h2,h3=>by
  obtain⟨b,bl',τ,ts0,cs,rfl,rfl,g1,g2,g3,h⟩:=h;subst h1;exact⟨b,bl',O' b,_,cs,rfl,rfl,g1,rfl,GR.mono _ hk g3,Cnt.CV hk h rfl h2 h3⟩
 |.p t T::l,x,y,bl,ts,σs,ts',σs',vs,h,h1,h2,h3=>by
  obtain⟨b,bl',τ,ts0,cs,rfl,rfl,g1,g2,g3,h⟩:=h;subst h1;exact⟨b,bl',O' b,_,cs,rfl,rfl,g1,rfl,GR.mono _ hk g3,Cnt.CV hk h rfl h2 h3⟩
 |.o t T' T::l,x,y,bl,ts,σs,ts',σs',vs,h,h1,h2,h3=>by
  obtain⟨b,bl',τ,ts0,σ,σs0,u,vs',rfl,rfl,rfl,rfl,g0,g1,g2,g3,h⟩:=h;subst h1
  cases σs' with
  |nil=>simp at h2
  |cons σ' σs' =>
   refine⟨b,bl',O' b,_,σ',σs',u,vs',rfl,rfl,rfl,rfl,g0,g1,rfl,?_,Cnt.CV hk h rfl (by simpa using h2) fun i u' σ2 hu hσ=>h3 (i+1) u' σ2 (by simpa using hu) (by simpa using hσ)⟩
   obtain⟨ws,k1,k2,k3⟩:=g3;have hkk:=fun g hg=>h3 0 u σ' rfl rfl g hg (k3 g hg).2
   exact⟨ws,k1,k2.mono hk,hkk⟩
 |.s T::l,x,y,bl,ts,σs,ts',σs',vs,h,h1,h2,h3=>by
  obtain⟨b,bl',τ,ts0,rfl,rfl,g1,g2,h⟩:=h;subst h1;exact⟨b,bl',O' b,_,rfl,rfl,g1,rfl,Cnt.CV hk h rfl h2 h3⟩
def nO:List CQ→Nat
 | []=>0
 |.o ..::l=>nO l+1
 |_::l=>nO l
theorem Cnt.nO{P:Program}{f:FuncId}{us:List Value}{O:zR}{w:World}{G:Nat→Prop}:∀ {l:List CQ} {x:CR l} {y:CB l} {bl ts σs:List Nat} {vs:List Value},Cnt P f us O w G l x y bl ts σs vs→σs.length=nO l∧∀u∈vs,∀g,u.ownBlock=some g→(O g∈σs∧G g)∧g<w.heap.size
 | [],x,y,bl,ts,σs,vs,h=>by obtain⟨rfl,rfl,rfl,rfl⟩:=h;exact⟨rfl,by simp⟩
 |.r t T::l,x,y,bl,ts,σs,vs,h=>by
  obtain⟨b,bl',τ,ts',cs,rfl,rfl,h1,h2,_,h⟩:=h;exact h.nO
 |.p t T::l,x,y,bl,ts,σs,vs,h=>by
  obtain⟨b,bl',τ,ts',cs,rfl,rfl,h1,h2,_,h⟩:=h;exact h.nO
 |.o t T' T::l,x,y,bl,ts,σs,vs,h=>by
  obtain⟨b,bl',τ,ts',σ,σs',u,vs',rfl,rfl,rfl,rfl,_,h1,h2,hO,h⟩:=h;obtain⟨h3,h4⟩:=h.nO;refine⟨by simp[Den.nO,h3],fun v hv g hg=>?_⟩
  rcases zLH.1 hv with rfl|hv
  ·exact⟨⟨by rw[hO.tagged g hg];simp,(hO.ge g hg).1⟩,(hO.ge g hg).2⟩
  ·exact⟨⟨by simp[(h4 v hv g hg).1.1],(h4 v hv g hg).1.2⟩,(h4 v hv g hg).2⟩
 |.s T::l,x,y,bl,ts,σs,vs,h=>by
  obtain⟨b,bl',τ,ts',rfl,rfl,h1,h2,h⟩:=h;exact h.nO
theorem Gg:∀ {m j k:Nat},k∈rng m j↔j≤k∧k<j+m
 |0,j,k=>by simp[rng]
 |m+1,j,k=>by simp only[rng,zLH,Gg (m:=m)];omega
theorem HG{X:Cx}:∀ {m j:Nat} {bl:List Nat},BKs X (rng m j) bl→bl.length=m∧∀(r:Nat) b,bl[r]?=some b→X.U (j+r)=.pointer (some ⟨b,0,none⟩)
 |0,j,[],_=>⟨rfl,fun r b h=>by simp at h⟩
 |0,j,_::_,h=>h.elim
 |m+1,j,[],h=>h.elim
 |m+1,j,c::bl,h=>by
  obtain⟨h1,h2⟩:=HG h.2;refine⟨by simp[h1],fun r b hr=>?_⟩
  cases r with
  |zero=>simp at hr;subst hr;exact h.1
  |succ r=>rw[show j+(r+1)=j+1+r by omega];exact h2 r b (by simpa using hr)
theorem mE{α:Type}{g:Nat→α}:∀ {m j:Nat} {l:List α},l.length=m→(∀(r:Nat) v,l[r]?=some v→g (j+r)=v)→(rng m j).map g=l
 |0,j,[],_,_=>rfl
 |m+1,j,v::l,hl,h=>by
  rw[rng,List.map_cons,show g j=v from h 0 v rfl,mE (l:=l) (by simpa using hl) fun r u hr=>by rw[show j+1+r=j+(r+1) by omega];exact h (r+1) u (by simpa using hr)]
theorem Kv{f:FuncId}{all:List Nat}{q:Nat}:∀ {l:List CQ} {x:CR l} {y:CB l} {i j t:Nat} {e:Nat×AV},look (initK f all q l x y i j).1 t=some e→∃r,r<l.length∧t=i+r∧e=(0,.bx (j+r) 0)
 | [],x,y,i,j,t,e,h=>nomatch h
 |.r T t'::l,x,y,i,j,t,e,h=>by
  rcases zD h with ⟨h1,h2⟩|⟨_,h2⟩
  ·exact⟨0,by simp,h1.symm,h2.symm⟩
  ·obtain⟨r,g1,g2,g3⟩:=Kv h2;exact⟨r+1,by simp[g1],by omega,by rw[g3,show j+1+r=j+(r+1) by omega]⟩
 |.p T t'::l,x,y,i,j,t,e,h=>by
  rcases zD h with ⟨h1,h2⟩|⟨_,h2⟩
  ·exact⟨0,by simp,h1.symm,h2.symm⟩
  ·obtain⟨r,g1,g2,g3⟩:=Kv h2;exact⟨r+1,by simp[g1],by omega,by rw[g3,show j+1+r=j+(r+1) by omega]⟩
 |.o T t' t2::l,x,y,i,j,t,e,h=>by
  rcases zD h with ⟨h1,h2⟩|⟨_,h2⟩
  ·exact⟨0,by simp,h1.symm,h2.symm⟩
  ·obtain⟨r,g1,g2,g3⟩:=Kv h2;exact⟨r+1,by simp[g1],by omega,by rw[g3,show j+1+r=j+(r+1) by omega]⟩
 |.s T::l,x,y,i,j,t,e,h=>by
  rcases zD h with ⟨h1,h2⟩|⟨_,h2⟩
  ·exact⟨0,by simp,h1.symm,h2.symm⟩
  ·obtain⟨r,g1,g2,g3⟩:=Kv h2;exact⟨r+1,by simp[g1],by omega,by rw[g3,show j+1+r=j+(r+1) by omega]⟩
theorem Ku{P:Program}{f:FuncId}{us:List Value}{all:List Nat}{q:Nat}{O:zR}{w:World}{G:Nat→Prop}{X:Cx}(hP:X.P=P)(hO:X.O=O)(hq:q<X.n)(hcap:((qx all).sem X w).l us)(hG:∀g,G g→X.A g):∀ {l:List CQ} {x:CR l} {y:CB l} {i j:Nat} {bl ts σs:List Nat} {vs:List Value},Cnt P f us O w G l x y bl ts σs vs→σs.length≤1 →
  (∀(r:Nat) b,bl[r]?=some b→X.U (j+r)=.pointer (some ⟨b,0,none⟩))→(∀(r:Nat) τ,ts[r]?=some τ→X.ι (j+r)=τ)→(∀u,vs.head?=some u→X.U q=u)→(∀σ,σs.head?=some σ→X.ι q=σ)→(∀b∈bl,X.A b) →
  ∀ {k:Nat} {e:Nat×MV},look (initK f all q l x y i j).2 k=some e→(e.1=0∧e.2.own=true)∧e.2.holds X w k∧((∃r,r<l.length∧k=j+r)∨(k=q∧σs≠[]))
 | [],x,y,i,j,bl,ts,σs,vs,h,h1,h2,h3,h4,h5,h6,k,e,he=>nomatch he
 |.r t T::l,x,y,i,j,bl,ts,σs,vs,h,h1,h2,h3,h4,h5,h6,k,e,he=>by
  obtain⟨b,bl',τ,ts0,cs,rfl,rfl,g1,g2,g3,h⟩:=h;rcases zD he with ⟨e1,e2⟩|⟨_,e2⟩
  ·subst e1 e2
   refine⟨⟨rfl,rfl⟩,⟨b,cs,h2 0 b rfl,⟨g1,h6 b (by simp),by rw[hO,g2];exact(h3 0 τ rfl).symm⟩,?_,rfl⟩,.inl ⟨0,by simp,rfl⟩⟩
   show (t.gr X.P).rel X.O w _ _
   rw[hP,hO];exact g3
  ·obtain⟨k1,k2,k3⟩:=Ku hP hO hq hcap hG h h1 (fun r b hr=>by rw[show j+1+r=j+(r+1) by omega];exact h2 (r+1) b (by simpa using hr)) (fun r b hr=>by rw[show j+1+r=j+(r+1) by omega];exact h3 (r+1) b (by simpa using hr)) h4 h5 (fun b hb=>h6 b (by simp[hb])) e2
   exact⟨k1,k2,k3.imp (fun ⟨r,a1,a2⟩=>⟨r+1,by simp[a1],by omega⟩) id⟩
 |.p t T::l,x,y,i,j,bl,ts,σs,vs,h,h1,h2,h3,h4,h5,h6,k,e,he=>by
  obtain⟨b,bl',τ,ts0,cs,rfl,rfl,g1,g2,g3,h⟩:=h;rcases zD he with ⟨e1,e2⟩|⟨_,e2⟩
  ·subst e1 e2
   refine⟨⟨rfl,rfl⟩,⟨b,cs,h2 0 b rfl,⟨g1,h6 b (by simp),by rw[hO,g2];exact(h3 0 τ rfl).symm⟩,?_,rfl⟩,.inl ⟨0,by simp,rfl⟩⟩
   show (t.gr X.P).rel X.O w _ _
   rw[hP,hO];exact g3
  ·obtain⟨k1,k2,k3⟩:=Ku hP hO hq hcap hG h h1 (fun r b hr=>by rw[show j+1+r=j+(r+1) by omega];exact h2 (r+1) b (by simpa using hr)) (fun r b hr=>by rw[show j+1+r=j+(r+1) by omega];exact h3 (r+1) b (by simpa using hr)) h4 h5 (fun b hb=>h6 b (by simp[hb])) e2
   exact⟨k1,k2,k3.imp (fun ⟨r,a1,a2⟩=>⟨r+1,by simp[a1],by omega⟩) id⟩
 |.o t T' T::l,x,y,i,j,bl,ts,σs,vs,h,h1,h2,h3,h4,h5,h6,k,e,he=>by
  obtain⟨b,bl',τ,ts0,σ,σs0,u,vs',rfl,rfl,rfl,rfl,g0,g1,g2,g3,h⟩:=h;have hs0:σs0=[]:=by cases σs0 with|nil=>rfl|cons _ _=>simp at h1
  subst hs0;have hUq:=h4 u rfl
  rcases zD he with ⟨e1,e2⟩|⟨_,e2⟩
  ·subst e1 e2
   refine⟨⟨rfl,rfl⟩,⟨b,#[u],h2 0 b rfl,⟨g1,h6 b (by simp),by rw[hO,g2];exact(h3 0 τ rfl).symm⟩,⟨u,rfl,g0,hUq.symm,hq,g0⟩,rfl⟩,.inl ⟨0,by simp,rfl⟩⟩
  ·rcases zD e2 with ⟨e3,e4⟩|⟨_,e4⟩
   ·subst e3 e4
    refine⟨⟨rfl,rfl⟩,?_,.inr ⟨rfl,by simp⟩⟩
    show zu _ _ _ _ _ _ _ _
    rw[hUq,h5 σ rfl,hP,hO];exact zu.zHe g3 fun g hg=>hG g hg
   ·have hvs:vs'=[]:=by have:=h.len.2.2;simpa using this
    subst hvs;obtain⟨k1,k2,k3⟩:=Ku hP hO hq hcap hG h (by simp) (fun r b hr=>by rw[show j+1+r=j+(r+1) by omega];exact h2 (r+1) b (by simpa using hr)) (fun r b hr=>by rw[show j+1+r=j+(r+1) by omega];exact h3 (r+1) b (by simpa using hr)) (fun u hu=>by simp at hu) (fun u hu=>by simp at hu) (fun b hb=>h6 b (by simp[hb])) e4
    exact⟨k1,k2,k3.imp (fun ⟨r,a1,a2⟩=>⟨r+1,by simp[a1],by omega⟩) fun h=>absurd rfl h.2⟩
 |.s T::l,x,y,i,j,bl,ts,σs,vs,h,h1,h2,h3,h4,h5,h6,k,e,he=>by
  obtain⟨b,bl',τ,ts0,rfl,rfl,g1,g2,h⟩:=h;rcases zD he with ⟨e1,e2⟩|⟨_,e2⟩
  ·subst e1 e2
   refine⟨⟨rfl,rfl⟩,⟨b,_,h2 0 b rfl,⟨g1,h6 b (by simp),by rw[hO,g2];exact(h3 0 τ rfl).symm⟩,⟨_,rfl,rfl,[],_,rfl,hcap,rfl⟩,?_⟩,.inl ⟨0,by simp,rfl⟩⟩
   show (false || (qx all).zm)=false;rw[tv];rfl
  ·obtain⟨k1,k2,k3⟩:=Ku hP hO hq hcap hG h h1 (fun r b hr=>by rw[show j+1+r=j+(r+1) by omega];exact h2 (r+1) b (by simpa using hr)) (fun r b hr=>by rw[show j+1+r=j+(r+1) by omega];exact h3 (r+1) b (by simpa using hr)) h4 h5 (fun b hb=>h6 b (by simp[hb])) e2
   exact⟨k1,k2,k3.imp (fun ⟨r,a1,a2⟩=>⟨r+1,by simp[a1],by omega⟩) id⟩
theorem Vo{f:FuncId}{all alls:List Nat}{q n:Nat}{G:FE}{M M0:MS}(hin:∀k e,look M k=some e→e.1<n→look M0 k=some e):∀ {l:List CQ} {x x':CR l} {y y':CB l} {qs:List (Option Nat)} {i j:Nat},(∀k e,j≤k→k≠q→look M0 k=some e→look (initK f all q l x y i j).2 k=some e)→j+l.length≤q→gL G f alls M l (rng l.length j)=some (x',y',qs)→Jh l (rng l.length j) M n=true→x'=x:=by
 intro l
 induction l with
 |nil=>intro x x' y y' qs i j _ _ _ _;rfl
 |cons c l ih =>
  intro x x' y y' qs i j h0 hq hi hf;simp only[zLL]at hq
  cases c with
  |r t T =>
   simp only[zLL,rng,gL]at hi;simp only[zLL,rng,Jh,zLD]at hf;split at hi
   ·rename_i st nw t' x1 T' hk
    split at hi
    ·rename_i x0 p hT hc hp
     cases hi
     rw[hk]at hf;have h1:=h0 j _ (zLF _) (by omega) (hin j _ hk (by have:=hf.1;dsimp only at this;rw[za]at this;simpa using this))
     simp only[initK,look,Nat.beq_refl,cond_true,Option.some.injEq,Prod.mk.injEq,MV.bx.injEq,AV.rd.injEq]at h1;obtain⟨_,_,⟨h2,h3⟩,_⟩:=h1;obtain⟨e1,e2⟩:=Ty.jS hc;have hx:x0=x.1:=by
      subst e1;have h3:=eq_of_heq h3
      rw[←e2,h3];rfl
     have hx2:p.1=x.2:=ih (x:=x.2) (i:=i+1) (j:=j+1) (fun k e hk1 hk2 hk3=>by
      have:=h0 k e (by omega) hk2 hk3
      rcases zD this with ⟨g1,_⟩|⟨_,g2⟩
      ·omega
      ·exact g2) (by omega) hp hf.2
     exact Prod.ext hx hx2
    ·cases hi
   ·cases hi
  |p t T =>
   simp only[zLL,rng,gL]at hi;simp only[zLL,rng,Jh]at hf;split at hi
   ·split at hi
    ·rename_i x0 p hT hc hp
     cases hi
     exact ih (x:=x) (y:=y.2) (i:=i+1) (j:=j+1) (fun k e hk1 hk2 hk3=>by
      have:=h0 k e (by omega) hk2 hk3
      rcases zD this with ⟨g1,_⟩|⟨_,g2⟩
      ·omega
      ·exact g2) (by omega) hp hf
    ·cases hi
   ·cases hi
  |s T =>
   simp only[zLL,rng,gL]at hi;simp only[zLL,rng,Jh]at hf;split at hi
   ·split at hi
    ·rename_i p hT hc hp
     cases hi
     exact ih (x:=x) (y:=y) (i:=i+1) (j:=j+1) (fun k e hk1 hk2 hk3=>by
      have:=h0 k e (by omega) hk2 hk3
      rcases zD this with ⟨g1,_⟩|⟨_,g2⟩
      ·omega
      ·exact g2) (by omega) hp hf
    ·cases hi
   ·cases hi
  |o t T' T =>
   simp only[zLL,rng,gL]at hi;simp only[zLL,rng,Jh]at hf;have key:∀k e,j+1≤k→k≠q→look M0 k=some e→look (initK f all q l x y.2 (i+1) (j+1)).2 k=some e:=fun k e hk1 hk2 hk3=>by
    have:=h0 k e (by omega) hk2 hk3
    rcases zD this with ⟨g1,_⟩|⟨_,g2⟩
    ·omega
    ·rcases zD g2 with ⟨g1,_⟩|⟨_,g2⟩
     ·omega
     ·exact g2
   split at hi
   ·split at hi
    ·split at hi
     ·rename_i xs p hT1 hx hp
      cases hi
      exact ih (x:=x) (y:=y.2) (i:=i+1) (j:=j+1) key (by omega) hp hf
     ·cases hi
    ·split at hi
     ·rename_i p hn hp
      cases hi
      exact ih (x:=x) (y:=y.2) (i:=i+1) (j:=j+1) key (by omega) hp hf
     ·cases hi
    ·cases hi
   ·cases hi
theorem zDU{P:Program}{E:VE}(hE:E.ok P)(hm:P.follows .mixedOrders=true){f:FuncId}{fn:Func}{c:Code}{h:H}{fs:FK}(hF:FnOk P f)(hf:P.funcs[f]?=some fn)(hb:fn.body=some c)(hc:okC fn.ntmps c=true)(hnr:kz c=true)(hres:fn.results=#[])(hl:Nat.ble (fs.ps.len+fs.cs.length) fn.ntmps=true)(hN:Nat.blt 0 fn.ntmps=true)(hZ:fs.zT=E.Z)
  (hs:∀x c' y,RZ E f c h fs x c' y=fs.sem x c' y):fs.ok P f:=by
 refine⟨hF,fun O w hO vs x cr y bl ts σs ss G ha hC hnd h0 hGG hσ n r hr=>?_⟩
 rw[←hs x cr y]at hr;obtain⟨hlen1,hlen2,hlen3⟩:=hC.len;obtain⟨hblt,htsO⟩:=hC.mem;have hvlen:=Z6 ha
 have hle:=Nat.le_of_ble_eq_true hl;have hfit:=ky (vs++K2 bl).toArray fn.ntmps (by simp only[List.size_toArray,zLE,List.length_map,hvlen,hlen1];exact hle)
 have hget:∀(j:Nat) v,(vs++K2 bl)[j]?=some v→Act.get { tmps:=(vs++K2 bl).toArray++Array.replicate (fn.ntmps-(vs++K2 bl).toArray.size) undef,defers:=[] } j=v:=fun j v hj=>kx (by simpa using hj)
 refine callsIn_wide.1 (callsIn_of_wp_marks (n:=0) hf hb trivial ?_);generalize ({ tmps:=(vs++K2 bl).toArray++Array.replicate (fn.ntmps-(vs++K2 bl).toArray.size) undef,defers:=[] }:Act)=a at hfit hget ⊢
 let m:=fs.cs.length
 let all:=rng m 0
 let A:Nat→Prop:=fun b=>(b∈bl∨G b)∨w.heap.size≤b
 let U:Nat→Value:=fun k=>if k<m then .pointer (some ⟨bl.getD k 0,0,none⟩) else ss.headD .nilIface
 let ι:Nat→Nat:=fun k=>if k<m then ts.getD k 0 else σs.headD 0
 let s0:S:=⟨Ym fs.ps x 0++(initK f all m fs.cs cr y fs.ps.len 0).1,(initK f all m fs.cs cr y fs.ps.len 0).2,m+2,0⟩
 let X:Cx:=⟨P,O,U,m+2,ι,A,Go.Lift.Fr w,0,0⟩
 obtain⟨st,⟨hst0,_⟩,hst⟩:=ZL ι s0.M 0
 let F:Frm:=⟨P,fn.ntmps,[],A,O,w,fun _ _=>False,0,bl,{ FrX.no st O w with nr:=true }⟩
 have hU:∀(r:Nat) b,bl[r]?=some b→U r=.pointer (some ⟨b,0,none⟩):=fun r b hr=>by
  have hlt:r<m:=by have:=(zLJ.1 hr).1;rw[hlen1]at this;exact this
  show (if r<m then _ else _)=_
  rw[if_pos hlt,List.getD_eq_getElem?_getD,hr];rfl
 have hι:∀(r:Nat) τ,ts[r]?=some τ→ι r=τ:=fun r τ hr=>by
  have hlt:r<m:=by have:=(zLJ.1 hr).1;rw[hlen2]at this;exact this
  show (if r<m then _ else _)=_
  rw[if_pos hlt,List.getD_eq_getElem?_getD,hr];rfl
 have hUm:∀u,ss.head?=some u→U m=u:=fun u hu=>by
  show (if m<m then _ else ss.headD .nilIface)=u
  rw[if_neg (Nat.lt_irrefl m)];cases ss with|nil=>cases hu|cons v ss=>simpa using hu
 have hιm:∀σ,σs.head?=some σ→ι m=σ:=fun u hu=>by
  show (if m<m then _ else σs.headD 0)=u
  rw[if_neg (Nat.lt_irrefl m)];cases σs with|nil=>cases hu|cons v ss=>simpa using hu
 have hptr:∀k∈all,k<X.n∧∃b,X.U k=.pointer (some ⟨b,0,none⟩):=fun k hk=>by
  have:=Gg.1 hk;have hlt:k<bl.length:=by rw[hlen1];show k<m;omega
  exact⟨by show k<m+2;omega,_,hU k _ (zLT hlt)⟩
 have hus:all.map X.U=K2 bl:=mE (by simp[m,hlen1]) fun r v hr=>by
  rw[List.getElem?_map,Option.map_eq_some_iff]at hr;obtain⟨b,hb,rfl⟩:=hr;rw[Nat.zero_add];exact hU r b hb
 have hcap:((qx all).sem X w).l (K2 bl):=by rw[←hus];exact qa hptr
 have hM:=fun {k e}=>Ku (X:=X) (q:=m) (all:=all) (i:=fs.ps.len) (j:=0) rfl rfl (by show m<m+2;omega) hcap (fun g hg=>.inl (.inr hg)) hC hσ (fun r b hr=>by rw[Nat.zero_add];exact hU r b hr) (fun r b hr=>by rw[Nat.zero_add];exact hι r b hr) hUm hιm (fun b hb=>.inl (.inl hb)) (k:=k) (e:=e)
 have hιmem:∀ {k e},look s0.M k=some e→(∃t,(ts++σs)[k]?=some t∧ι k=t)∧k<m+1:=fun {k e} he=>by
  obtain⟨_,_,h3⟩:=hM he;rcases h3 with ⟨r,h4,h5⟩|⟨h4,h5⟩
  ·have h5:k=r:=by omega
   subst h5;have hlt:k<ts.length:=by rw[hlen2];exact h4
   exact⟨⟨_,by rw[zLR hlt];exact zLT hlt,hι k _ (zLT hlt)⟩,by show k<fs.cs.length+1;omega⟩
  ·subst h4
   cases σs with
   |nil=>exact absurd rfl h5
   |cons σ σs=>exact⟨⟨σ,by rw[zLS (by rw[hlen2];exact zLF _),hlen2];simp[m],hιm σ rfl⟩,zLP _⟩
 have hL:∀ {t e},look s0.L t=some e→e.1=0∧e.2.holds X w (a.get t):=fun {t e} he=>by
  rcases gE he with h1|⟨_,h1⟩
  ·exact Z3 (X:=X) (a:=a) (i:=0) rfl rfl ha (fun j v hj=>by rw[Nat.zero_add];exact hget j v (by rw[zLR (zLJ.1 hj).1];exact hj)) h1
  ·obtain⟨q,h2,h3,h4⟩:=Kv h1
   subst h3 h4;have hlt:q<bl.length:=by rw[hlen1];exact h2
   have hg:=hget (fs.ps.len+q) (.pointer (some ⟨bl[q],0,none⟩)) (by rw[zLS (by omega),hvlen,Nat.add_sub_cancel_left];simp[hlt])
   refine⟨rfl,by show 0+q<m+2;have:q<m:=h2;omega,bl[q],?_,?_⟩
   ·rw[Nat.zero_add];exact hU q _ (zLT hlt)
   ·rw[hg]
 have hX0:RelX F s0 a w X:=by
  refine⟨rfl,rfl,rfl,rfl,rfl,hO,hfit,⟨rfl,rfl,rfl,zLF _,fun _ _ _=>rfl,hO,fun _ _ _=>rfl,fun _ _ h=>h,fun b hb=>.inr hb⟩,fun t e he _=>(hL he).2,fun k e he=>(hM he).2.1,fun t e he=>by rw[(hL he).1];exact Nat.succ_pos _,fun k e he=>⟨by rw[(hM he).1.1];exact Nat.succ_pos _,by have:=(hιmem he).2;show k<m+2;omega⟩,fun k k' e e' he he' _ _ heq=>?_,fun k e he _=>⟨fun hz=>?_,hst k e he⟩,Nat.zero_le _,Nat.succ_pos _,fun _ _ h=>h.elim,⟨by show bl.length≤m+2;rw[hlen1];show m≤m+2;omega,fun j b hj=>hU j b hj⟩,?_⟩
  ·obtain⟨⟨t,a1,a2⟩,_⟩:=hιmem he
   obtain⟨⟨t',b1,b2⟩,_⟩:=hιmem he';have heq:ι k=ι k':=heq
   rw[a2,b2]at heq;subst heq;exact(List.getElem?_inj (zLJ.1 a1).1 hnd).1 (a1.trans b1.symm)
  ·obtain⟨⟨t,a1,a2⟩,_⟩:=hιmem he
   have hz:ι k=0:=hz;rw[a2]at hz;exact h0 (hz ▸ zLI a1)
  ·exact⟨hst0,fun _ _ h=>h.elim,fun _ _ h=>h.elim,zg.refl _ _ _,rfl⟩
 have hWA:∀b,b<w.heap.size→¬(b∈bl∨G b)→¬A b:=fun b hb hn hA=>hA.elim hn fun h=>absurd hb (Nat.not_lt.2 h)
 have hWnz:∀b,(b∈bl∨G b)→O b≠0:=fun b hW hz=>by
  rcases hW with hW|hW
  ·exact h0 (by rw[←hz,htsO];simp only[zLM];exact .inl (List.mem_map.2 ⟨b,hW,rfl⟩))
  ·exact h0 (by rw[←hz];simp only[zLM];exact .inr (hGG b hW).2)
 -- tags at the end
 have hkeep:∀ {X':Cx} {w':World} (g0:Option Nat) (σ:Nat),Base A O w X'.O w'→(∀g,g0=some g→X'.O g≠0∧g<w'.heap.size)→∃O'':zR,zg 0 X'.O w' O'' w'∧KeepK (fun b=>b∈bl∨G b) O w O'' w'∧(∀b,b<w.heap.size→O'' b=O b)∧∀g,g0=some g→w.heap.size≤g→O'' g=σ:=by
  intro X' w' g0 σ hB hg0;refine⟨fun b=>if b<w.heap.size then O b else if g0=some b then σ else X'.O b,⟨zLF _,fun b hb hz=>⟨?_,rfl⟩⟩,⟨hB.os,hB.tape,hB.output,hB.size,fun b hb hn=>hB.block b hb (hWA b hb hn),fun b hb _=>if_pos hb,fun b hb hW=>?_,fun b hb=>?_⟩,fun b hb=>if_pos hb,fun g hg hge=>?_⟩
  ·show (if b<w.heap.size then O b else if g0=some b then σ else X'.O b)=0
   split
   ·exact hB.zero b hb hz
   ·rw[if_neg fun e=>(hg0 b e).1 hz];exact hz
  ·show (if b<w.heap.size then O b else _)≠0
   rw[if_pos hb];exact hWnz b hW
  ·have hge:=hB.size
   show (if b<w.heap.size then O b else if g0=some b then σ else X'.O b)=0
   rw[if_neg (by omega),if_neg fun e=>by have:=(hg0 b e).2;omega]
   exact hB.ok b hb
  ·show (if g<w.heap.size then O g else if g0=some g then σ else X'.O g)=σ
   rw[if_neg (by omega),if_pos hg]
 have hrt:∀F' s' a' w',F.To F'→Rel F' s' a' w'→Inv s0 s'→(rtK E f fs s').run n=some r→LeavesInM Fence.wide 0 P fn a'.tmps (fs.post P f cr O w bl ts σs G r) a'.defers .returning w':=by
  intro F' s' a' w' hT h' hi hr;have hFF:=hT.nr rfl
  subst hFF;refine leaves (.refl F) rfl (fun _ _ h=>h) (zLF _) h' fun q n' ep' w2 hX'=>?_
  obtain⟨X',hX'⟩:=hX';have hP:X'.P=P:=hX'.P
  have hE':E.ok X'.P:=by rw[hP];exact hE
  unfold rtK at hr;split at hr
  ·rename_i p hp
   split at hr
   ·rename_i hle1
    rw[zLD]at hle1;have e:=run_pure hr
    subst e;have hfk:=hle1.2
    have hle1:=Nat.le_of_ble_eq_true hle1.1;obtain⟨i1,i2,bl2,ss2,i3,i4⟩:=Ki (fr:=0) hE'.G hX'.m hp;obtain⟨hb1,hb2⟩:=HG i3;have hbl2:bl2=bl:=by
     refine List.ext_getElem? fun r=>?_
     by_cases hr:r<m
     ·have e1:bl2[r]?=some bl2[r]:=zLT (by omega)
      have e2:bl[r]?=some bl[r]:=zLT (by rw[hlen1];exact hr)
      have q1:=hb2 r _ e1;have q2:=hX'.bl.2 r _ e2
      rw[Nat.zero_add,q2]at q1;simp only[Value.pointer.injEq,Option.some.injEq,Addr.mk.injEq,and_true]at q1;rw[e1,e2,q1]
     ·rw[List.getElem?_eq_none (by omega),List.getElem?_eq_none (by rw[hlen1];exact Nat.le_of_not_lt hr)]
    subst hbl2;have hus':(rng m 0).map X'.U=K2 bl2:=mE (by simp[hb1];rfl) fun r v hr=>by
     rw[List.getElem?_map,Option.map_eq_some_iff]at hr;obtain⟨b,hb,rfl⟩:=hr;exact hb2 r b hb
    have hC':=i4 (lA X' p.2.2) fun g hg=>hg
    have hcr:p.1=cr:=Vo (f:=f) (all:=all) (q:=m) (x:=cr) (y:=y) (i:=fs.ps.len) (j:=0) hi.m (fun k e _ _ h=>h) (by show 0+m≤m;omega) hp hfk
    rw[hcr]at hC';rw[hus',hP]at hC';obtain⟨n1,n2⟩:=hC'.nO;have n3:=hC.nO.1
    have hbase:Base A O w X'.O w2:=hX'.base
    -- its slice
    have hown:∀g,lA X' p.2.2 g→A g∧X'.O g≠0∧g ∉ bl2:=fun g hg=>by
     obtain⟨j,hj,hg⟩:=hg;obtain⟨st',nw,t,T',xs',hl'⟩:=i2 j hj;have hOj:=hX'.m j _ hl'
     change zu (X'.ι j) (t.gr X'.P) T' (X'.B nw) X'.O w2 (X'.U j) xs' at hOj
     refine⟨(hX'.okB nw).sub _ (hOj.ge g hg).1,by rw[hOj.tagged g hg];exact(hX'.pos j _ hl' rfl).1,fun hm=>?_⟩
     obtain⟨k,hk1,hk2⟩:=i3.mem g hm;obtain⟨st2,nw2,c2,T2,hk3⟩:=i1 k hk1;obtain⟨b',cs',k1,k2,k3,k4⟩:=hX'.m k _ hk3;rw[hk2]at k1;simp only[Value.pointer.injEq,Option.some.injEq,Addr.mk.injEq,and_true]at k1;subst k1;have:=hX'.inj j k _ _ hl' hk3 rfl rfl ((hOj.tagged g hg).symm.trans k2.tag)
     subst this;rw[hl']at hk3;cases hk3
    have hss:∀u∈ss2,∀g,u.ownBlock=some g→lA X' p.2.2 g∧g<w2.heap.size:=fun u hu g hg=>⟨(n2 u hu g hg).1.2,(n2 u hu g hg).2⟩
    obtain⟨O'',q1,q2,q3,q4⟩:=hkeep (X':=X') (w':=w2) (ss2.head?.bind Value.ownBlock) (σs.headD 0) hbase fun g hg=>by
     cases ss2 with
     |nil=>cases hg
     |cons u ss2=>exact⟨(hown g (hss u (by simp) g hg).1).2.1,(hss u (by simp) g hg).2⟩
    refine⟨_,by simp[results,hres];rfl,O'',q2,⟨_,rfl⟩,ss2,Cnt.CV q1 hC' ?_ (by rw[n1,n3]) fun i u σ' hu hσ' g hg hQ=>?_⟩
    ·rw[htsO];exact List.map_congr_left fun b hb=>(q3 b (hblt b hb)).symm
    ·have hi:i=0:=by have:=(zLJ.1 hσ').1;omega
     subst hi;obtain⟨h1,h2,h3⟩:=hown g hQ;have hσh:σs.headD 0=σ':=by cases σs with|nil=>simp at hσ'|cons _ _=>simpa using hσ'
     by_cases hlt:g<w.heap.size
     ·have hGg:G g:=by
       rcases h1 with (h1|h1)|h1
       ·exact absurd h1 h3
       ·exact h1
       ·omega
      refine⟨?_,.inr hGg⟩;rw[q3 g hlt];have hmem:=(hGG g hGg).2
      cases σs with
      |nil=>cases hmem
      |cons σ σs =>
       cases σs with
       |nil=>simp at hmem hσ';rw[hmem,hσ']
       |cons _ _=>simp at hσ
     ·refine⟨?_,.inl (Nat.le_of_not_lt hlt)⟩
      rw[q4 g ?_ (Nat.le_of_not_lt hlt),hσh]
      cases ss2 with
      |nil=>simp at hu
      |cons v ss2=>simp at hu;subst hu;exact hg
   ·cases hr
  ·cases hr
 refine Yr c (F:=F) hm (fun _ _ h=>h) hE hc (.inr hnr) rfl ⟨X,hX0⟩ (Inv.refl _) hr ⟨fun F' s' a' w' h0 h1 hi h2=>hrt F' s' a' w' h0 h1 hi h2,fun i hne F' s' a' w' _ _ _ h2=>?_,fun F' s' a' w' h0 h1 hi h2=>hrt F' s' a' w' h0 h1 hi h2,fun F' s' a'' v0 w' hT h1 _ h2=>?_⟩
 ·rw[show Nat.beq i PL=false by rw[zV];exact decide_eq_false hne]at h2;cases h2
 ·have hFF:=hT.nr rfl
  subst hFF;obtain⟨X',hX'⟩:=h1;have hP:X'.P=P:=hX'.P
  rw[Nat.beq_refl]at h2
  change (pnK E fs s').run n=some r at h2
  unfold pnK at h2;split at h2
  ·rename_i φ hx1
   split at h2
   ·rename_i z hz
    have e:=run_pure h2;subst e;have hdd:a''.defers=[]:=(Act.put_defers a'' (some 0) v0).symm.trans hX'.fit.defers
    show LeavesInM Fence.wide 0 P fn a''.tmps _ a''.defers (.panicking _) w'
    rw[hdd];rw[←hX'.ep]at hx1;have hv:=hX'.rd #[.tmp 0] (.tmp 0) _ (by simp) hx1
    change φ.holds X' w' ((a''.put (some 0) v0).get 0) at hv
    rw[yg (wQ hX'.fit) (u6 hN)]at hv;obtain⟨O'',q1,q2,_,_⟩:=hkeep (X':=X') (w':=w') none 0 hX'.base fun g hg=>nomatch hg
    refine⟨O'',q2,v0,?_,?_⟩
    ·rw[hZ]
    ·have hE':E.ok X'.P:=by rw[hP];exact hE
     have:=GR.vA _ (AV.Z5 hE'.G (M:=[]) (fun k e he=>nomatch he) hz hv) q1
     rwa[hP]at this
   ·cases h2
  ·cases h2
def cl:Code→Code
 |.seq a _=>a
 |c=>c
def cr:Code→Code
 |.seq _ b=>b
 |c=>c
def opsOf:Code→List Oper
 |.region _ ops _=>ops.toList
 |_=>[]
structure RecG(P:Program)(g:FuncId)(gn:Func)(R0 rest:Code)(m se so:Nat)(T:TypeId)(zt:Ty):Prop where
 fn:P.funcs[g]?=some gn
 ok:FnOk P g
 body:gn.body=some (.seq R0 rest)
 res:gn.results=#[]
 sl:m≤se∧m≤so∧se≠so
 pan:∀(caps:List Value),caps.length=m→∀(c₀:Frame) cs w v,(∃O w z,(zt.gr P).v O w v z)→c₀.mode=.panicking [{ v:=.iface T v,recovered:=false }]→∀Q:Exit→Act→List Frame→World→Prop,
  (∀a1 w1,Ext w w1→a1.fitD gn.ntmps []→(∀(i:Nat) u,caps[i]?=some u→a1.get i=u)→a1.get se=v→a1.get so=.bool true→Q .normal a1 ({ c₀ with mode:=.panicking [{ v:=.iface T v,recovered:=true }] }::cs) w1) →
  R0.wpSIn Fence.wide 0 P Q { tmps:=caps.toArray++Array.replicate (gn.ntmps-caps.toArray.size) undef,defers:=[] } (c₀::cs) w
 ret:∀(caps:List Value),caps.length=m→∀(c₀:Frame) cs w,c₀.mode=.returning→∀Q:Exit→Act→List Frame→World→Prop,
  (∀a1 w1,Ext w w1→a1.fitD gn.ntmps []→(∀(i:Nat) u,caps[i]?=some u→a1.get i=u)→a1.get so=.bool false→Q .normal a1 (c₀::cs) w1) →
  R0.wpSIn Fence.wide 0 P Q { tmps:=caps.toArray++Array.replicate (gn.ntmps-caps.toArray.size) undef,defers:=[] } (c₀::cs) w
def HW(n:Nat):List Nat→Nat→LS
 | [],_=>[]
 |k::l,i=>(i,n,.bx k 0)::HW n l (i+1)
theorem pY{n:Nat}:∀ {l:List Nat} {i t:Nat} {e:Nat×AV},look (HW n l i) t=some e→∃r k,l[r]?=some k∧t=i+r∧e=(n,.bx k 0)
 | [],_,_,_,h=>nomatch h
 |k::l,i,t,e,h=>by
  rcases zD h with ⟨h1,h2⟩|⟨_,h2⟩
  ·exact⟨0,k,rfl,h1.symm,h2.symm⟩
  ·obtain⟨r,k',g1,g2,g3⟩:=pY h2;exact⟨r+1,k',g1,by omega,g3⟩
def lY(E:VE)(rest:Code)(hG:H)(se so:Nat)(ks:List Nat)(s:S)(e:AV)(ok:Bool)(k:S→Comp β):Comp β :=
 den E rest β hG ⟨HW s.n ks 0++[(se,s.n,e),(so,s.n,.rd .bool ok)],s.M,s.n+1,s.ep⟩ (fun s2=>k (s2.back (Jf s.n s.L)).tick) (fun _ _=>Comp.fail) (fun s2=>k (s2.back (Jf s.n s.L)).tick)
def zEC(T:TypeId)(v:Value):Bool→FrameMode
 |true=>.panicking [{ v:=.iface T v,recovered:=false }]
 |false=>.returning
section
variable {F:Frm} {E:VE}
theorem QJ{g:FuncId}{gn:Func}{R0 rest:Code}{m se so:Nat}{T:TypeId}{zt:Ty}{P:Program}(hP:F.P=P)(hg:RecG P g gn R0 rest m se so T zt)(hm:P.follows .mixedOrders=true)(hE:E.ok P)(hok:okC gn.ntmps rest=true)(hnr:kz rest=true)(hLh:∀t φ,¬F.Lh t φ)(hsb:F.x.sb=F.w0.heap.size)(hrd:F.x.rd=none)(hxn:F.x.nr=true)
  {ks:List Nat} {us:List Value} (hks:ks.length=m) (hus:us.length=m) (hcap:∀(i k:Nat) u,ks[i]?=some k→us[i]?=some u→F.x.kv u (.bx k 0)) (hD:F.D=[{ target:=.fn (.func g) us.toArray,args:=#[] }])
  {fn:Func} {R:Ending→World→Prop} {s:S} {a:Act} {w:World} (hR:Rel F s a w) {e:AV} {ok:Bool} {v:Value} (he:ok=true→e.zm=false∧(∃O w z,(zt.gr P).v O w v z)∧∃X,RelX F s a w X∧e.holds X w v) (hft:ok=false→e=.top) {hG:H} {k:S→Comp β} {nf:Nat} {y:β} (hr:(lY E rest hG se so ks s e ok k).run nf=some y)
  (hk:∀s' w',Rel F s' a w'→(k s').run nf=some y→∃v,(results fn a.tmps).run P w'=.ok v w'∧R (.returned v) w') :
  LeavesInM Fence.wide 0 P fn a.tmps R a.defers (zEC T v ok) w:=by
 subst hP
 -- what is known in all
 obtain⟨X,hX,heX⟩:∃X,RelX F s a w X∧(ok=true→e.holds X w v):=by
  cases ok with
  |true=>obtain⟨_,_,X,h1,h2⟩:=he rfl;exact⟨X,h1,fun _=>h2⟩
  |false=>obtain⟨X,h1⟩:=hR;exact⟨X,h1,fun h=>nomatch h⟩
 have hef:e.zm=false:=by
  cases ok with
  |true=>exact(he rfl).1
  |false=>rw[hft rfl];rfl
 rw[show a.defers=F.D from hX.fit.defers,hD]
 obtain⟨gn',k1,k2,k3⟩:=hg.ok.h;have hinv:(invoke (Target.fn (.func g) us.toArray) #[]).run F.P w=.ok (.enter g us.toArray) w:=by
  simp only[invoke,callFunc,run_program,Sem.run_bind,Sem.run_pure,Result.andThen,k1];simp[k2,k3]
 let L1:=Jf s.n s.L
 have hL1:∀t e,look L1 t=some e→e.2.zm=false:=fun t e he=>(gh he).1
 let kv1:Value→AV→Prop:=fun u φ=>F.x.kv u φ∨∃t e,look L1 t=some e∧u=a.get t∧φ=e.2
 let F1:Frm:={ F with N:=gn.ntmps,D:=[],x:={ F.x with kv:=kv1 } }
 have hXn:∀t e,look L1 t=some e→e.2.holds X w (a.get t):=fun t e he=>by
  rcases(gh he).2 with h1|h1
  ·exact hX.l t e h1 (by simp[fresh,(gh he).1])
  ·rw[h1];trivial
 -- behind its first region
 have hmain:∀(a1:Act) (w1:World) (cs':List Frame) (c₀:Frame) (cs:List Frame) (u':FrameMode),Ext w w1→a1.fitD gn.ntmps []→(∀(i:Nat) u,us[i]?=some u→a1.get i=u)→(ok=true→a1.get se=v)→a1.get so=.bool ok→cs'={ c₀ with mode:=u' }::cs→settle u'=.returning →
   rest.wpSIn Fence.wide 0 F.P (bodyPostS F.P gn c₀ cs fun e u w=>match e with
    |.returned _=>LeavesInM Fence.wide 0 F.P fn a.tmps R [] (settle u) w
    |.panicked chain=>LeavesInM Fence.wide 0 F.P fn a.tmps R [] (raised u chain) w
    |.outgrown=>R .outgrown w) a1 cs' w1:=by
  intro a1 w1 cs' c₀ cs u' hEx hfit hcaps hse hso hcs hset;subst hcs;have hX1:=hX.ext hEx
  have hle:X.le w X w1:=X.le_ext hEx
  let X2:Cx:={ X with n:=s.n+1 }
  have hle2:X.le w X2 w1:=⟨rfl,zg.ext hEx,fun _ _=>rfl,by rw[hX.n];exact zLO _,rfl⟩
  have hle3:X.le w1 X2 w1:=⟨rfl,zg.refl _ _ _,fun _ _=>rfl,by rw[hX.n];exact zLO _,rfl⟩
  have hex:Exx F1.x X2 w1:=⟨hX1.ex.st,hX1.ex.sys,fun u φ hu=>by
   rcases hu with hu|⟨t,e,he,rfl,rfl⟩
   ·have h1:=hX1.ex.kv u φ hu
    exact⟨h1.1,φ.le h1.1 hle3 h1.2⟩
   ·exact⟨hL1 t e he,e.2.le (hL1 t e he) hle2 (hXn t e he)⟩,hX1.ex.since,hX1.ex.L⟩
  have hL2:∀t e',look (HW s.n ks 0++[(se,s.n,e),(so,s.n,.rd .bool ok)]) t=some e'→e'.1=s.n∧e'.2.holds X2 w1 (a1.get t):=fun t e' he'=>by
   rcases gE he' with h1|⟨_,h1⟩
   ·obtain⟨r,k,q1,q2,q3⟩:=pY h1
    subst q2 q3;have hlt:r<us.length:=by rw[hus,←hks];exact(zLJ.1 q1).1
    have hu:=zLT hlt;have hb:=(hex.kv _ _ (.inl (hcap r k _ q1 hu))).2
    refine⟨rfl,?_⟩;rw[Nat.zero_add,hcaps r _ hu];exact hb
   ·rcases zD h1 with ⟨q1,q2⟩|⟨_,h2⟩
    ·subst q1 q2
     refine⟨rfl,?_⟩
     cases ok with
     |true=>show e.holds X2 w1 (a1.get se);rw[hse rfl];exact e.le hef hle2 (heX rfl)
     |false=>show e.holds X2 w1 _;rw[hft rfl];trivial
    ·rcases zD h2 with ⟨q1,q2⟩|⟨_,h3⟩
     ·subst q1 q2
      refine⟨rfl,?_⟩;rw[hso];exact km.2 rfl
     ·cases h3
  have hX3:RelX { F with x:=F.x } ⟨s.L,s.M,s.n+1,s.ep⟩ a w1 X2:=hX1.go hX1.fit rfl rfl rfl (fun _ _=>zg.refl _ _ _) (fun _ _=>rfl) rfl hX1.ep (zLO _) (Nat.le_succ_of_le hX1.epn) hX1.base (fun hf=>⟨hf,Ext.refl _⟩) (fun _ _ _=>rfl) (fun t e he=>.inr ⟨he,rfl,fun _ hf=>⟨hf,Ext.refl _⟩⟩) (fun k e he=>.inr ⟨he,rfl,fun _=>zg.refl _ _ _⟩) hX1.inj hX1.pos
  have hRel1:RelX F1 ⟨HW s.n ks 0++[(se,s.n,e),(so,s.n,.rd .bool ok)],s.M,s.n+1,s.ep⟩ a1 w1 X2 :=
   hX3.conv (F':=F1) (L':=HW s.n ks 0++[(se,s.n,e),(so,s.n,.rd .bool ok)]) rfl rfl rfl rfl hLh rfl rfl rfl hfit (fun t e he _=>(hL2 t e he).2) (fun t e he=>by rw[(hL2 t e he).1];exact zLP _) hex
  have hfin:∀F2 s2 a2 w2,F1.To F2→Rel F2 s2 a2 w2→Inv ⟨HW s.n ks 0++[(se,s.n,e),(so,s.n,.rd .bool ok)],s.M,s.n+1,s.ep⟩ s2→(k (s2.back (Jf s.n s.L)).tick).run nf=some y→a2.defers=[]∧∃v,(results gn a2.tmps).run F.P w2=.ok v w2∧LeavesInM Fence.wide 0 F.P fn a.tmps R [] (settle u') w2:=by
   intro F2 s2 a2 w2 hT ⟨Xc,hXc⟩ hi hk2;have hFF:=hT.nr hxn
   subst hFF;refine⟨hXc.fit.defers,_,by simp[results,hg.res];rfl,?_⟩
   rw[hset];have hXb:RelX F (s2.back L1) a w2 Xc:=by
    refine hXc.conv (F':=F) (L':=L1) rfl rfl rfl rfl hLh rfl rfl rfl hX.fit (fun t e he _=>?_) (fun t e he=>?_) ⟨hXc.ex.st,hXc.ex.sys,fun u φ hu=>hXc.ex.kv u φ (.inl hu),hXc.ex.since,hXc.ex.L⟩
    ·exact(hXc.ex.kv _ _ (.inr ⟨t,e,he,rfl,rfl⟩)).2
    ·have hlt:e.1<s.n+1:=by
      rcases(gh he).2 with h1|h1
      ·exact Nat.lt_succ_of_lt (hX.ln t e h1)
      ·rw[h1];exact zLP _
     exact zLQ hlt hi.le
   have htk:RelX F (s2.back L1).tick a w2 { Xc with n:=s2.n+1,ep:=s2.n }:=by
    refine hXb.go hXb.fit rfl rfl rfl (fun _ _=>zg.refl _ _ _) (fun _ _=>rfl) rfl rfl (zLO _) (zLO _) hXb.base (fun hf=>absurd (hf:s2.n≤F.fe) (Nat.not_le.2 hXb.fe)) (fun _ _ _=>rfl) (fun t e he=>.inr ⟨he,rfl,fun hfr _=>?_⟩) (fun k e he=>.inr ⟨he,rfl,fun _=>zg.refl _ _ _⟩) hXb.inj hXb.pos
    rw[hL1 t e he]at hfr;cases hfr
   exact hk _ _ ⟨_,htk⟩ hk2
  have hden:rest.wpIn Fence.wide 0 F.P (fun e a' w'=>bodyPostS F.P gn c₀ cs (fun e u w=>match e with
    |.returned _=>LeavesInM Fence.wide 0 F.P fn a.tmps R [] (settle u) w
    |.panicked chain=>LeavesInM Fence.wide 0 F.P fn a.tmps R [] (raised u chain) w
    |.outgrown=>R .outgrown w) e a' ({ c₀ with mode:=u' }::cs) w') a1 w1:=by
   have hd:=Yr rest (F:=F1) (Q:=fun e a' w'=>bodyPostS F.P gn c₀ cs (fun e u w=>match e with
    |.returned _=>LeavesInM Fence.wide 0 F.P fn a.tmps R [] (settle u) w
    |.panicked chain=>LeavesInM Fence.wide 0 F.P fn a.tmps R [] (raised u chain) w
    |.outgrown=>R .outgrown w) e a' ({ c₀ with mode:=u' }::cs) w') hm hLh hE hok (.inr hnr) hsb ⟨X2,hRel1⟩ (Inv.refl _) hr ⟨fun F2 s2 a2 w2 h0 h1 h2 h3=>?_,fun i hne F2 s2 a2 w2 _ _ _ h3=>(nomatch h3),fun F2 s2 a2 w2 h0 h1 h2 h3=>?_,fun F2 s2 a2 _ w2 _ _ _ h3=>(nomatch h3)⟩
   ·unfold Frm.wp at hd
    change rest.wpIn (fw F.x.rd) 0 F.P _ a1 w1 at hd
    rw[hrd]at hd;exact hd
   ·obtain⟨q1,v',q2,q3⟩:=hfin F2 s2 a2 w2 h0 h1 h2 h3
    exact⟨q1,u',rfl,v',q2,q3⟩
   ·obtain⟨q1,v',q2,q3⟩:=hfin F2 s2 a2 w2 h0 h1 h2 h3
    exact⟨q1,u',rfl,v',q2,q3⟩
  exact wpSIn_of_wpIn rfl hden
 cases ok with
 |true =>
  refine⟨by simp[zEC],.inr ⟨fun h=>by simp[Fence.wide]at h,.func g,us.toArray,g,us.toArray,rfl,hinv,fun _ _=>trivial,?_⟩⟩
  refine callsDIn_of_wpSIn (n:=0) hg.fn hg.body trivial fun c₀ cs hu=>?_
  refine wpSIn_seq (hg.pan us hus c₀ cs w v (he rfl).2.1 hu _ fun a1 w1 q1 q2 q3 q4 q5=>?_)
  exact hmain a1 w1 _ c₀ cs _ q1 q2 q3 (fun _=>q4) q5 rfl rfl
 |false =>
  refine⟨by simp[zEC],.inr ⟨fun h=>by simp[Fence.wide]at h,.func g,us.toArray,g,us.toArray,rfl,hinv,fun _ _=>trivial,?_⟩⟩
  refine callsDIn_of_wpSIn (n:=0) hg.fn hg.body trivial fun c₀ cs hu=>?_
  refine wpSIn_seq (hg.ret us hus c₀ cs w hu _ fun a1 w1 q1 q2 q3 q5=>?_)
  refine hmain a1 w1 _ c₀ cs .returning q1 q2 q3 (fun h=>nomatch h) q5 ?_ rfl
  have hu:c₀.mode=.returning:=hu;rw[←hu]
end
theorem RelX.zEj{F:Frm}{s:S}{a:Act}{w:World}{X:Cx}{d:Nat}{v:Value}(h:RelX F s (a.put (some d) v) w X)(hLh:∀t φ,¬F.Lh t φ):RelX F (s.put (some d) .top) a w { X with n:=s.n+1 }:=by
 refine h.go (wQ h.fit) rfl rfl rfl (fun _ _=>zg.refl _ _ _) (fun _ _=>rfl) rfl h.ep (zLO _) (Nat.le_succ_of_le h.epn) h.base (fun hf=>⟨hf,Ext.refl _⟩) (fun t φ hp=>absurd hp (hLh t φ)) (fun u e he=>?_) (fun k e he=>.inr ⟨he,rfl,fun _=>zg.refl _ _ _⟩) h.inj h.pos
 rcases zD he with ⟨h1,h2⟩|⟨h1,h2⟩
 ·subst h1 h2;exact .inl ⟨zLP _,fun _=>trivial⟩
 ·exact .inr ⟨h2,(vp h1 v).symm,fun hfr hf=>⟨hf,Ext.refl _⟩⟩
def dfD(E:VE)(g:FuncId)(m:Nat)(ops:List Oper)(s:S)(k:List Nat→S→Comp β):Comp β:=match ops with
 | [o,p]=>match p.op with
  |.defer c=>match c.callee with
   |.value x=>match c.args.toList,o.guard.isNone && (p.guard.isNone && (p.dst.isNone && Cf [o])) with
    | [],true=>step E (wrS ops) s o fun s1=>match rdO s1.ep s1.L [] [] x with
     |some (.cl f a b)=>match Nat.beq f g && WX a,nT b with
      |true,some ks=>match Nat.beq ks.length m with
       |true=>k ks s1
       |false=>Comp.fail
      |_,_=>Comp.fail
     |_=>Comp.fail
    |_,_=>Comp.fail
   |_=>Comp.fail
  |_=>Comp.fail
 |_=>Comp.fail
def exR(E:VE)(zt:Ty)(rest:Code)(hG:H)(se so:Nat)(ks:List Nat)(k:S→Comp β)(i:Nat)(s:S):Comp β:=match Nat.beq i PL with
 |true=>match rdO s.ep s.L [] [] (.tmp 0) with
  |some φ=>match φ.asT E.G [] zt with
   |some z=>lY E rest hG se so ks (s.put (some 0) .top) (.rd zt z) true k
   |none=>Comp.fail
  |none=>Comp.fail
 |false=>Comp.fail
def RT(E:VE)(A B:Code)(dops:List Oper)(C:Code)(hA hB hC:H)(rest:Code)(hG:H)(g:FuncId)(m se so:Nat)(zt:Ty)(l:List ResultVar)(ps rs:Ty)(rk:List (Option TypeId))(x:ps.D):Comp rs.D :=
 den E A rs.D hA ⟨Ym ps x 0,[],1,0⟩ (fun s=>den E B rs.D hB s (fun s=>dfD E g m dops s fun ks s=>den E C rs.D hC s (fun s=>lY E rest hG se so ks s .top false (rtF E rk rs l)) (exR E zt rest hG se so ks (rtF E rk rs l)) (fun s=>lY E rest hG se so ks s .top false (rtF E rk rs l)))
  (fun _ _=>Comp.fail) (rtF E rk rs l)) (fun _ _=>Comp.fail) (rtF E rk rs l)
theorem zDP{P:Program}{E:VE}(hE:E.ok P)(hm:P.follows .mixedOrders=true){f:FuncId}{fn:Func}{A B C:Code}{id:Nat}{dops:List Oper}{hA hB hC:H}{fs:FS}(hF:FnOk P f)(hf:P.funcs[f]?=some fn)(hb:fn.body=some (.seq A (.seq B (.seq (.region id dops.toArray false) C))))
  (hcA:okC fn.ntmps A=true) (hcB:okC fn.ntmps B=true) (hcC:okC fn.ntmps C=true) (hnr:(kz A && (kz B && kz C))=true) (hdd:yK fn.ntmps dops=true) (hl:Nat.ble fs.ps.len fn.ntmps=true) (hN:Nat.blt 0 fn.ntmps=true)
  {g:FuncId} {gn:Func} {R0 rest:Code} {m se so:Nat} {zt:Ty} (hg:RecG P g gn R0 rest m se so E.Z zt) {hG:H} (hcG:okC gn.ntmps rest=true) (hnG:kz rest=true)
  (hs:∀x,RT E A B dops C hA hB hC rest hG g m se so zt fn.results.toList fs.ps fs.rs fs.rk x=fs.sem x):fs.ok P f:=by
 refine⟨hF,fun O w hO vs x ha n y hy=>?_⟩
 rw[←hs x]at hy;simp only[zLD]at hnr;have hfit:=ky vs.toArray fn.ntmps (by have:=Z6 ha;simp only[List.size_toArray];rw[this];exact Nat.le_of_ble_eq_true hl)
 have hget:∀(j:Nat) v,vs[j]?=some v→Act.get { tmps:=vs.toArray++Array.replicate (fn.ntmps-vs.toArray.size) undef,defers:=[] } j=v:=fun j v hj=>kx (by simpa using hj)
 refine callsIn_wide.1 (callsIn_of_wp_marks (n:=0) hf hb trivial ?_);generalize ({ tmps:=vs.toArray++Array.replicate (fn.ntmps-vs.toArray.size) undef,defers:=[] }:Act)=a at hfit hget ⊢
 let F:Frm:=⟨P,fn.ntmps,[],Go.Lift.Fr w,O,w,fun _ _=>False,0,[],{ FrX.no 1 O w with nr:=true }⟩
 let X:Cx:=⟨P,O,fun _=>.nilIface,1,fun k=>k,Go.Lift.Fr w,Go.Lift.Fr w,0,0⟩
 have hR:Rel F ⟨Ym fs.ps x 0,[],1,0⟩ a w:=by
  have hin:=fun {u e}=>Z3 (X:=X) (a:=a) (i:=0) rfl rfl ha (fun j v hj=>by rw[Nat.zero_add];exact hget j v hj) (u:=u) (e:=e)
  refine⟨X,rfl,rfl,rfl,rfl,rfl,hO,hfit,Base.start hO,fun t e he _=>(hin he).2,fun k e he=>(nomatch he),fun t e he=>(by rw[(hin he).1];exact Nat.zero_lt_one),fun k e he=>(nomatch he),fun k k' e e' he=>(nomatch he),fun k e he=>(nomatch he),Nat.zero_le _,Nat.zero_lt_one,fun _ _ h=>h.elim,⟨Nat.zero_le _,fun j b hj=>(nomatch hj)⟩,⟨Nat.one_ne_zero,fun _ _ h=>h.elim,fun _ _ h=>h.elim,zg.refl _ _ _,rfl⟩⟩
 -- the results
 have hres:∀ {F':Frm},F'.P=P→F'.A=Go.Lift.Fr w→F'.O0=O→F'.w0=w→∀s' a' w',Rel F' s' a' w'→(rtF E fs.rk fs.rs fn.results.toList s').run n=some y→∃v,(results fn a'.tmps).run P w'=.ok v w'∧∃v',Ending.returned v=.returned v'∧Ext w w'∧∃rs,kc rs v'∧Y6 P O w.heap.size w' fs.rk fs.rs rs y:=by
  intro F' e1 e2 e3 e4 s' a' w' ⟨X',hX'⟩ hr;have hP:X'.P=P:=hX'.P.trans e1
  have hE':E.ok X'.P:=by rw[hP];exact hE
  unfold rtF at hr;split at hr
  ·rename_i m' hm'
   split at hr
   ·rename_i y' hnf hy'
    have e:=run_pure hr;subst e;obtain⟨vs',g1,g2,g3⟩:=Xs hE' hX' hm';obtain⟨v,g4,g5⟩:=ku g1;rw[hP]at g4;refine⟨v,g4,v,rfl,?_,vs',g5,?_⟩
    ·have:=hX'.base
     rw[e2,e3,e4]at this;exact this.ext
    ·have:=ub hE'.G hX' hy' g2 fun i φ u hi hu=>⟨g3 i φ u hi hu,kg hnf φ (zLI hi)⟩
     rwa[hP,e3,e4]at this
   ·cases hr
  ·cases hr
 have hrt:∀F' s' a' w',F.To F'→Rel F' s' a' w'→(rtF E fs.rk fs.rs fn.results.toList s').run n=some y→LeavesInM Fence.wide 0 P fn a'.tmps (fun e w'=>∃v,e=.returned v∧Ext w w'∧∃rs,kc rs v∧Y6 P O w.heap.size w' fs.rk fs.rs rs y) a'.defers .returning w':=by
  intro F' s' a' w' hT h' hr;have hFF:=hT.nr rfl
  subst hFF;have:=hres rfl rfl rfl rfl s' a' w' h' hr
  obtain⟨X',hX'⟩:=h';rw[show a'.defers=[] from hX'.fit.defers]
  exact this
 refine wpIn_seq ?_;refine Yr A (F:=F) hm (fun _ _ h=>h) hE hcA (.inr hnr.1) rfl hR (Inv.refl _) hy ⟨fun F' s1 a1 w1 h0 h1 _ h2=>?_,fun i _ F' s' a' w' _ _ _ h2=>(nomatch h2),fun F' s' a' w' h0 h1 _ h2=>hrt F' s' a' w' h0 h1 h2,fun F' s' a' _ w' _ _ _ h2=>(nomatch h2)⟩
 have hFF:=h0.nr rfl;subst hFF;show Code.wpIn Fence.wide 0 P (.seq B _) _ a1 w1
 refine wpIn_seq ?_;refine Yr B (F:=F) hm (fun _ _ h=>h) hE hcB (.inr hnr.2.1) rfl h1 (Inv.refl _) h2 ⟨fun F' s2 a2 w2 h0 h1 _ h2=>?_,fun i _ F' s' a' w' _ _ _ h2=>(nomatch h2),fun F' s' a' w' h0 h1 _ h2=>hrt F' s' a' w' h0 h1 h2,fun F' s' a' _ w' _ _ _ h2=>(nomatch h2)⟩
 have hFF:=h0.nr rfl;subst hFF;show Code.wpIn Fence.wide 0 P (.seq _ C) _ a2 w2
 refine wpIn_seq ?_;obtain⟨o,p,rfl⟩:∃o p,dops=[o,p]:=by
  unfold dfD at h2;split at h2
  ·exact⟨_,_,rfl⟩
  ·cases h2
 simp only[dfD]at h2;split at h2
 ·rename_i c hop
  split at h2
  ·rename_i xf hcal
   split at h2
   ·rename_i hargs hgd
    simp only[zLD]at hgd;have hnd:=qU hgd.2.2.2 o (by simp)
    have hog:o.guard=none:=by have:=hgd.1;cases h:o.guard with|none=>rfl|some _=>rw[h]at this;cases this
    have hpg:p.guard=none:=by have:=hgd.2.1;cases h:p.guard with|none=>rfl|some _=>rw[h]at this;cases this
    have hpd:p.dst=none:=by have:=hgd.2.2.1;cases h:p.dst with|none=>rfl|some _=>rw[h]at this;cases this
    have hdst:F.dst o.dst:=fun t ht=>⟨((zW hdd (show ([o,p]:List Oper)[0]?=some o from rfl)).2.1 t ht).1,fun φ h=>h⟩
    show F.wp (.region id _ false) _ a2 w2
    refine Jn (fun h=>nomatch h) ?_
    show Y7 (F.W _) _ _ (List.range 2) a2 w2
    rw[List.range_eq_range'];show Y7 (F.W _) _ _ (List.range' 0 ([o,p]:List Oper).length) a2 w2
    rw[kQ [o,p] 0 (by simp)]
    simp only[vy,Region.wanted,hog,hpg,if_true];refine j4 hnd (Kp hE h1 _ _ hdst n y h2 _ _ fun s3 v w3 k1 k2 k3=>?_)
    split at k3
    ·rename_i f' ca cb hφ
     split at k3
     ·rename_i ks hfa hks
      rw[zLD]at hfa;split at k3
      ·rename_i hlen
       obtain⟨X3,hX3⟩:=k1;rw[←hX3.ep]at hφ;have hP3:X3.P=P:=hX3.P
       have hcl:=hX3.rd #[xf] xf _ (by simp) hφ
       obtain⟨vs3,us,c1,c2,c3⟩:=hcl;have hca:=mQ hfa.2
       subst hca;have hvs3:vs3=[]:=c1
       subst hvs3;have hcb:=qT hks
       subst hcb;obtain⟨c4,c5⟩:=lZ c2;have hfg:=zLC hfa.1
       subst hfg;have hks3:ks.length=m:=zLC hlen
       have hcargs:c.args=#[]:=Array.ext' (by simpa using hargs)
       have hrun:(execOp (a2.put o.dst v).eval p).run P w3=.ok (.defer { target:=.fn (.func f') us.toArray,args:=#[] }) w3:=by
        simp[execOp,hop,resolve,hcal,c3,Deferred.ofValue,hcargs]
       let dfr:Deferred:={ target:=.fn (.func f') us.toArray,args:=#[] }
       let F2:Frm:={ F with D:=[dfr],x:={ F.x with kv:=fun u φ=>∃(i k:Nat),ks[i]?=some k∧us[i]?=some u∧φ=.bx k 0 } }
       have huslen:us.length=m:=by rw[c4,List.length_map,hks3]
       let a4:Act:={ tmps:=(a2.put o.dst v).tmps,defers:=dfr::(a2.put o.dst v).defers }
       have hR4:Rel F2 s3 a4 w3:=by
        refine⟨X3,hX3.conv (F':=F2) (L':=s3.L) rfl rfl rfl rfl (fun _ _ h=>h) rfl rfl rfl ⟨hX3.fit.size,by show dfr::_=[dfr];rw[show (a2.put o.dst v).defers=[] from hX3.fit.defers]⟩ hX3.l hX3.ln ⟨hX3.ex.st,hX3.ex.sys,fun u φ hu=>?_,hX3.ex.since,hX3.ex.L⟩⟩
        obtain⟨i,k,q1,q2,rfl⟩:=hu;refine⟨rfl,?_⟩;obtain⟨q3,b,q4⟩:=c5 k (zLI q1);rw[c4,List.getElem?_map,q1]at q2;simp only[Option.map_some,Option.some.injEq]at q2;exact⟨q3,b,q4,q2.symm.trans q4⟩
       refine⟨fun _ _=>trivial,?_⟩
       show Oper.uponIn (fw none) 0 P p _ _ _ ((execOp (a2.put o.dst v).eval p).run P w3)
       rw[hrun];show Code.wpIn Fence.wide 0 P C _ (Act.put { tmps:=(a2.put o.dst v).tmps,defers:=dfr::(a2.put o.dst v).defers } p.dst undef) w3
       rw[hpd];show Code.wpIn Fence.wide 0 P C _ a4 w3
       have hclose:=fun {s':S} {a':Act} {w':World} (hR':Rel F2 s' a' w') (e:AV) (ok:Bool) (v':Value)=>QJ (F:=F2) (P:=P) (E:=E) (fn:=fn) (R:=fun e w'=>∃v,e=.returned v∧Ext w w'∧∃rs,kc rs v∧Y6 P O w.heap.size w' fs.rk fs.rs rs y) rfl hg hm hE hcG hnG (fun _ _ h=>h) rfl rfl rfl hks3 huslen (fun i k u q1 q2=>⟨i,k,q1,q2,rfl⟩) rfl hR' (e:=e) (ok:=ok) (v:=v') (hG:=hG) (k:=rtF E fs.rk fs.rs fn.results.toList) (nf:=n) (y:=y)
       refine Yr C (F:=F2) hm (fun _ _ h=>h) hE hcC (.inr hnr.2.2) rfl hR4 (Inv.refl _) k3 ⟨fun F' s5 a5 w5 t0 t1 _ t2=>?_,fun i hne F' s5 a5 w5 t0 t1 _ t2=>?_,fun F' s5 a5 w5 t0 t1 _ t2=>?_,fun F' s5 a5 v5 w5 t0 t1 _ t2=>?_⟩
       ·have hFF:=t0.nr rfl
        subst hFF;exact hclose t1 .top false undef (fun h=>nomatch h) (fun _=>rfl) t2 fun s' w' q1 q2=>hres rfl rfl rfl rfl s' a5 w' q1 q2
       ·unfold exR at t2
        rw[show Nat.beq i PL=false by rw[zV];exact decide_eq_false hne]at t2
        cases t2
       ·have hFF:=t0.nr rfl
        subst hFF;exact hclose t1 .top false undef (fun h=>nomatch h) (fun _=>rfl) t2 fun s' w' q1 q2=>hres rfl rfl rfl rfl s' a5 w' q1 q2
       ·have hFF:=t0.nr rfl
        subst hFF;unfold exR at t2;rw[Nat.beq_refl]at t2;dsimp only at t2;split at t2
        ·rename_i φ hφ5
         split at t2
         ·rename_i z hz
          obtain⟨X5,hX5⟩:=t1;have hX6:=hX5.zEj (fun _ _ h=>h)
          rw[←hX5.ep]at hφ5;have hv5:=hX5.rd #[.tmp 0] (.tmp 0) _ (by simp) hφ5
          change φ.holds X5 w5 ((a5.put (some 0) v5).get 0) at hv5
          rw[yg (wQ hX5.fit) (u6 hN)]at hv5;have hle:X5.le w5 { X5 with n:=s5.n+1 } w5:=⟨rfl,zg.refl _ _ _,fun _ _=>rfl,by rw[hX5.n];exact zLO _,rfl⟩
          have hP5:X5.P=P:=hX5.P;have hE5:E.ok X5.P:=by rw[hP5];exact hE
          have hz5:=AV.Z5 hE5.G (M:=[]) (fun k e he=>nomatch he) hz hv5
          exact hclose ⟨_,hX6⟩ (.rd zt z) true v5 (fun _=>⟨rfl,⟨_,_,z,by rw[←hP5];exact hz5⟩,_,hX6,hz5⟩) (fun h=>nomatch h) t2 fun s' w' q1 q2=>hres rfl rfl rfl rfl s' a5 w' q1 q2
         ·cases t2
        ·cases t2
      ·cases k3
     ·cases k3
    ·cases k3
   ·cases h2
  ·cases h2
 ·cases h2
def asQ(k:Knd)(φ:AV):Option AV:=match k,K5 φ with
 |.pr _ (.pr _ _),some (.pr (.ag a) .un)=>some a
 |_,o=>o
theorem Es{k:Knd}{φ ψ:AV}(h:asQ k φ=some ψ):K5 φ=some ψ∨K5 φ=some (.pr (.ag ψ) .un):=by
 unfold asQ at h;split at h
 ·rename_i e;cases h;exact .inr e
 ·exact .inl h
def Knd.ks(M:MS):Knd→AV→List (Option Nat)
 |.o ..,φ=>match X4 M φ with
  |some p=>[some p.1]
  |none=>[none]
 |.pr a b,φ=>match φ with
  |.pr φ1 φ2=>a.ks M φ1++b.ks M φ2
  |_=>[]
 |.ag l,φ=>match asQ l φ with
  |some φ=>l.ks M φ
  |none=>[]
 |_,_=>[]
def Du(ks:List (Option Nat)):MS→MS
 | []=>[]
 |e::M=>(e.1,e.2.1,match gw e.1 (yf ks) with
  |true=>.dead
  |false=>YA e.2.2)::Du ks M
theorem pR{ks:List (Option Nat)}:∀ {M:MS} {k:Nat} {e:Nat×MV},look (Du ks M) k=some e→∃m,look M k=some (e.1,m)∧((e.2=.dead)∨(e.2=YA m∧some k ∉ ks))
 | [],k,e,h=>by cases h
 |f::M,k,e,h=>by
  obtain⟨k0,st,m⟩:=f;simp only[Du,look]at h ⊢
  cases hb:Nat.beq k0 k with
  |true =>
   rw[hb]at h;have hk:=zLC hb
   subst hk
   cases hm:gw k0 (yf ks) with
   |true=>rw[hm]at h;cases h;exact⟨m,rfl,.inl rfl⟩
   |false =>
    rw[hm]at h;cases h;exact⟨m,rfl,.inr ⟨rfl,fun hi=>by rw[YT.2 (YY.2 hi)]at hm;cases hm⟩⟩
  |false=>rw[hb]at h;exact pR h
def Knd.rt(G:FE)(M M':MS):(k:Knd)→AV→Option k.D
 |.v t,φ=>φ.asT G M' t
 |.o _ t T,φ=>match X4 M φ with
  |some p=>match p.2.1 && Nat.beq p.2.2.1 T,zDx p.2.2.2.2 (.sl t) with
   |true,some x=>some x
   |_,_=>none
  |none=>match Yq φ with
   |true=>some ([]:List t.D)
   |false=>none
 |.un,φ=>match φ with
  |.un=>some ()
  |_=>none
 |.pr a b,φ=>match φ with
  |.pr φ1 φ2=>match a.rt G M M' φ1,b.rt G M M' φ2 with
   |some x,some y=>some (x,y)
   |_,_=>none
  |_=>none
 |.ag l,φ=>match asQ l φ with
  |some φ=>l.rt G M M' φ
  |none=>none
 |.m ..,_=>none
 |.bv ..,_=>none
def Knd.rtL(G:FE)(M M':MS):(k:Knd)→List AV→Option k.D
 |.pr a b,l=>match l with
  |φ::l=>match a.rt G M M' φ,b.rtL G M M' l with
   |some x,some y=>some (x,y)
   |_,_=>none
  | []=>none
 |.un,l=>match l with
  | []=>some ()
  |_=>none
 |_,_=>none
def Knd.ksL(M:MS):Knd→List AV→List (Option Nat)
 |.pr a b,l=>match l with
  |φ::l=>a.ks M φ++b.ksL M l
  | []=>[]
 |_,_=>[]
def uOf(X:Cx):Option Nat→Value
 |some k=>X.U k
 |none=>.slice none 0 0
section
variable {F:Frm} {s:S} {a:Act} {w:World} {X:Cx} {E:VE}
def Cx.outJ(X:Cx)(F:Frm)(us:List Value):Cx:={ X with O:=uF F.O0 us }
theorem Qf{O:zR}{us:List Value}{b:Nat}(h:O b=0)(hn:∀u∈us,u.ownBlock≠some b):uF O us b=0:=by
 unfold uF;rw[if_neg]
 ·exact h
 ·rw[List.any_eq_true]
  rintro⟨u,hu,he⟩;exact hn u hu (by simpa using he)
def CS(X:Cx)(s:S)(ks:List (Option Nat)):Prop:=∀k,some k∈ks→∃st t T xs,look s.M k=some (st,.sl true t T xs)
theorem uj(h:RelX F s a w X){ks:List (Option Nat)}(hk:CS X s ks){u:Value}(hu:u∈ks.map (uOf X)){g:Nat}(hg:u.ownBlock=some g):∃k e,some k∈ks∧look s.M k=some e∧e.2.own=true∧X.O g=X.ι k∧X.ι k≠0:=by
 obtain⟨o,ho,rfl⟩:=List.mem_map.1 hu
 cases o with
 |none=>cases hg
 |some k =>
  obtain⟨st,t,T,xs,hl⟩:=hk k ho;have hO:=h.m k _ hl
  change zu (X.ι k) (t.gr X.P) T (X.B true) X.O w (X.U k) xs at hO
  exact⟨k,_,ho,hl,rfl,hO.tagged g hg,(h.pos k _ hl rfl).1⟩
theorem RelX.mP(h:RelX F s a w X){ks:List (Option Nat)}(hk:CS X s ks):X.le w (X.outJ F (ks.map (uOf X))) w:=⟨rfl,⟨zLF _,fun b hb hz=>⟨Qf (h.base.zero b hb hz) fun u hu hg=>by
 obtain⟨k,e,_,_,_,q1,q2⟩:=uj h hk hu hg;exact q2 (q1.symm.trans hz),rfl⟩⟩,fun _ _=>rfl,zLF _,rfl⟩
theorem RelX.Qp(h:RelX F s a w X){ks:List (Option Nat)}(hk:CS X s ks):yF (Du ks s.M) (X.outJ F (ks.map (uOf X))) w:=by
 intro k e he;obtain⟨m,h1,h2⟩:=pR he;have hk0:=(h.mP hk).k
 rcases h2 with h2|⟨h2,h3⟩
 ·rw[h2];trivial
 have hh:=h.m k _ h1;rw[h2]
 -- a block of its own isn't among those
 have hz:∀g,m.own=true→X.O g=X.ι k→F.w0.heap.size≤g→uF F.O0 (ks.map (uOf X)) g=0:=fun g ho ht hge=>Qf (h.ok0 g hge) fun u hu hg=>by
  obtain⟨k',e',q1,q2,q3,q4,_⟩:=uj h hk hu hg;have:=h.inj k k' _ _ h1 q2 ho q3 (ht.symm.trans q4)
  exact h3 (this ▸ q1)
 cases m with
 |sl nw t T xs =>
  cases nw with
  |false=>trivial
  |true =>
   obtain⟨vs,g1,g2,g3⟩:=hh;refine YE.2 ⟨vs,g1.slv,g2.mono hk0,fun _ g hg=>⟨g1.gM g hg,hz g rfl (g3 g hg).1 ?_⟩⟩
   have:=(g3 g hg).2
   change X.F g at this
   rw[h.Fn]at this;exact this
 |bx nw c T=>cases nw<;>trivial
 |fs t xs=>exact GR.vA _ hh hk0
 |fb t x=>exact GR.vA _ hh hk0
 |fg f=>trivial
 |mp nw a b xs =>
  cases nw with
  |false=>trivial
  |true =>
   obtain⟨c,es,clock,g1,g2,g3,g4,g5⟩:=hh;have hc:F.w0.heap.size≤c:=by
    have:X.F c:=g4;rw[h.Fn]at this;exact this
   exact⟨_,.inr ⟨c,es,clock,rfl,g2,g3.mono hk0,hz c rfl g5 hc⟩,g1⟩
 |fm a b xs=>exact GR.vA _ hh hk0
 |dead=>trivial
end
section
variable {F:Frm} {s:S} {a:Act} {w:World} {X:Cx} {E:VE}
theorem tj:∀(t:Ty) (x:t.D),(Sz t x).zm=false
 |.cons a b,x=>by show (_ || _)=false;rw[tj b];rfl
 |.nil,_|.int _,_|.bool,_|.str,_|.sl _,_|.arr ..,_|.box ..,_|.fn ..,_|.seq ..,_|.slo ..,_|.mp ..,_=>rfl
theorem Rw{φ ψ:AV}(hψ:K5 φ=some ψ){cs:List Value}(hc:(φ.sem X w).c cs):(ψ.sem X w).c cs:=by
 unfold K5 at hψ;split at hψ
 ·cases hψ;exact hc
 ·split at hψ
  ·rename_i hb
   cases hψ
   rw[zLD]at hb;exact Ei hb.2 hc
  ·cases hψ
 ·cases hψ
theorem zDh{φ ψ:AV}(hψ:K5 φ=some ψ){u:Value}(hu:φ.holds X w u):∃cs,(φ.sem X w).c cs∧u=yE true cs:=by
 unfold K5 at hψ;split at hψ
 ·obtain⟨cs,h1,h2⟩:=hu;exact⟨cs,h1,h2⟩
 ·split at hψ
  ·rename_i hb
   rw[zLD]at hb;obtain⟨cs,h1,h2⟩:=hu;refine⟨cs,h1,?_⟩;rw[h2,Ty.jL,hb.1]
  ·cases hψ
 ·cases hψ
theorem zGR{k:Knd}{φ ψ:AV}(hψ:asQ k φ=some ψ){cs:List Value}(hc:(φ.sem X w).c cs):(ψ.sem X w).c cs:=by
 rcases Es hψ with e|e
 ·exact Rw e hc
 ·obtain⟨c1,c2,g1,g2,g3⟩:=Rw e hc
  have g3:c2=[]:=g3;rw[g1,g3,List.append_nil];exact g2
theorem qA{φ ψ:AV}(hψ:K5 φ=some ψ)(hf:φ.zm=false):ψ.zm=false:=by
 unfold K5 at hψ;split at hψ
 ·cases hψ;exact hf
 ·split at hψ
  ·cases hψ;exact tj _ _
  ·cases hψ
 ·cases hψ
theorem I8{k:Knd}{φ ψ:AV}(hψ:asQ k φ=some ψ)(hf:φ.zm=false):ψ.zm=false:=by
 rcases Es hψ with e|e
 ·exact qA e hf
 ·have:=qA e hf
  simpa[AV.zm] using this
theorem zGg(hG:FOk X.P E.G)(h:RelX F s a w X){all:List (Option Nat)}(hall:CS X s all):∀ {k:Knd} {φ:AV} {x:k.D} {cs:List Value},k.rt E.G s.M (Du all s.M) φ=some x→(∀o∈k.ks s.M φ,o∈all)→φ.zm=false→(φ.sem X w).c cs →
  CM X.P (uF F.O0 (all.map (uOf X))) w F.w0.heap.size k x cs ((k.ks s.M φ).map (uOf X)):=by
 have hle:=h.mP hall;intro k
 induction k with
 |v t =>
  intro φ x cs hr _ hf hc;exact⟨(AV.jf (X:=X.outJ F (all.map (uOf X))) hG φ (h.Qp hall)).vc hr ((φ.mono hle fun hf'=>by rw[hf]at hf';cases hf').2.2 _ hc),rfl⟩
 |o nw t T =>
  intro φ x cs hr hin hf hc;simp only[Knd.rt]at hr;simp only[Knd.ks]at hin ⊢;split at hr
  ·rename_i p hp
   split at hr
   ·rename_i y hb hy
    cases hr
    rw[zLD]at hb;have hob:φ=.ob p.1∧∃st,look s.M p.1=some (st,.sl p.2.1 p.2.2.2.1 p.2.2.1 p.2.2.2.2):=by
     unfold X4 at hp;split at hp
     ·split at hp
      ·rename_i hk;cases hp;exact⟨rfl,_,hk⟩
      ·cases hp
     ·cases hp
    obtain⟨hφ,st,hk⟩:=hob;subst hφ;obtain⟨u,g1,g2,g3,g4,g5⟩:=hc;have hO:=h.m _ _ hk
    change zu (X.ι p.1) (p.2.2.2.1.gr X.P) p.2.2.1 (X.B p.2.1) X.O w (X.U p.1) p.2.2.2.2 at hO
    rw[hb.1]at hO
    change zu _ _ _ X.F _ _ _ _ at hO
    rw[h.Fn]at hO;obtain⟨vs,q1,q2,q3⟩:=hO;obtain⟨e1,e2⟩:=Ty.jS hy;injection e1 with e1;subst e1;have e2:p.2.2.2.2=x:=e2
    have q2':yr (p.2.2.2.1.gr X.P) X.O w vs x:=by rw[←e2];exact q2
    have hT:=zLC hb.2;refine⟨u,vs,g1,by simp[uOf,g3],g2,?_,q2'.mono hle.k⟩
    rw[g3,←hT];exact q1.Qm fun g hg=>(q3 g hg).2
   ·cases hr
  ·rename_i hp
   split at hr
   ·rename_i hn
    cases hr
    have hφ:=jh hn;subst hφ;refine⟨.slice none 0 0,[],hc,rfl,rfl,OwnS.nil _ _ _ _,trivial⟩
   ·cases hr
 |m nw a b=>intro φ x cs hr;cases hr
 |bv nw t T=>intro φ x cs hr;cases hr
 |un =>
  intro φ x cs hr _ hf hc;simp only[Knd.rt]at hr;split at hr
  ·exact⟨hc,rfl⟩
  ·cases hr
 |pr k1 k2 ih1 ih2 =>
  intro φ x cs hr hin hf hc;simp only[Knd.rt]at hr;split at hr
  ·rename_i φ1 φ2
   split at hr
   ·rename_i x1 x2 hx1 hx2
    cases hr
    simp only[AV.zm,Bool.or_eq_false_iff]at hf;obtain⟨c1,c2,g1,g2,g3⟩:=hc;refine⟨c1,c2,_,_,g1,by simp only[Knd.ks,List.map_append],ih1 hx1 (fun o ho=>hin o (by simp[Knd.ks,ho])) hf.1 g2,ih2 hx2 (fun o ho=>hin o (by simp[Knd.ks,ho])) hf.2 g3⟩
   ·cases hr
  ·cases hr
 |ag l ih =>
  intro φ x cs hr hin hf hc;simp only[Knd.rt]at hr;split at hr
  ·rename_i ψ hψ
   have hks:(Knd.ag l).ks s.M φ=l.ks s.M ψ:=by simp only[Knd.ks];rw[hψ]
   rw[hks]at hin ⊢;exact ih hr hin (I8 hψ hf) (zGR hψ hc)
  ·cases hr
theorem zKJ(hG:FOk X.P E.G)(h:RelX F s a w X){all:List (Option Nat)}(hall:CS X s all){k:Knd}{φ:AV}{x:k.D}{v:Value}(hr:k.rt E.G s.M (Du all s.M) φ=some x)(hin:∀o∈k.ks s.M φ,o∈all)(hf:φ.zm=false)(hk1:k.zEH=true)(hv:φ.holds X w v) :
  ∃cs,v=yE k.agg cs∧CM X.P (uF F.O0 (all.map (uOf X))) w F.w0.heap.size k x cs ((k.ks s.M φ).map (uOf X)):=by
 have hle:=h.mP hall
 cases k with
 |v t =>
  have hv2:=AV.Z5 (X:=X.outJ F (all.map (uOf X))) hG (h.Qp hall) hr (φ.le hf hle hv);obtain⟨cs,h1,h2⟩:=hv2;exact⟨cs,by rw[h2,Ty.jL];rfl,h1,rfl⟩
 |o nw t T =>
  have hone:∀ {u:Value},φ.holds X w u→u.oneCell'=true→(φ.sem X w).c [u]:=by
   intro u hu h1;simp only[Knd.rt]at hr;split at hr
   ·rename_i p hp
    have hob:φ=.ob p.1:=by
     unfold X4 at hp;split at hp
     ·split at hp
      ·cases hp;rfl
      ·cases hp
     ·cases hp
    rw[hob]at hu ⊢;exact⟨u,rfl,h1,hu⟩
   ·split at hr
    ·rename_i hn
     have hφ:=jh hn;subst hφ;rw[show u=_ from hu];rfl
    ·cases hr
  have h1:v.oneCell'=true:=by
   simp only[Knd.rt]at hr;split at hr
   ·rename_i p hp
    have hob:φ=.ob p.1:=by
     unfold X4 at hp;split at hp
     ·split at hp
      ·cases hp;rfl
      ·cases hp
     ·cases hp
    rw[hob]at hv;exact hv.2.2
   ·split at hr
    ·rename_i hn
     have hφ:=jh hn;subst hφ;rw[show v=_ from hv];rfl
    ·cases hr
  exact⟨[v],rfl,zGg hG h hall hr hin hf (hone hv h1)⟩
 |ag l =>
  have hψ:∃ψ,K5 φ=some ψ:=by
   simp only[Knd.rt]at hr;split at hr
   ·rename_i ψ hψ
    rcases Es hψ with e|e
    ·exact⟨_,e⟩
    ·exact⟨_,e⟩
   ·cases hr
  obtain⟨ψ,hψ⟩:=hψ;obtain⟨cs,h1,h2⟩:=zDh hψ hv;exact⟨cs,h2,zGg hG h hall hr hin hf h1⟩
 |_=>cases hk1
theorem zAm(hG:FOk X.P E.G)(h:RelX F s a w X){all:List (Option Nat)}(hall:CS X s all):∀ {k:Knd} {l:List AV} {x:k.D} {vs:List Value},k.rtL E.G s.M (Du all s.M) l=some x→(∀o∈k.ksL s.M l,o∈all)→k.Dw=true→vs.length=l.length→(∀(i:Nat) φ v,l[i]?=some φ→vs[i]?=some v→φ.holds X w v∧φ.zm=false) →
  K8 X.P (uF F.O0 (all.map (uOf X))) w F.w0.heap.size k x vs ((k.ksL s.M l).map (uOf X)):=by
 intro k
 induction k with
 |pr k1 k2 _ ih =>
  intro l x vs hr hin hv hl hh;simp only[Knd.Dw,zLD]at hv
  match l,vs,hl with
  | [],[],hl=>cases hr
  |φ::l,v::vs,hl =>
   simp only[Knd.rtL]at hr;split at hr
   ·rename_i x1 x2 hx1 hx2
    cases hr
    obtain⟨q1,q2⟩:=hh 0 φ v rfl rfl;obtain⟨cs,r1,r2⟩:=zKJ hG h hall hx1 (fun o ho=>hin o (by simp[Knd.ksL,ho])) q2 hv.1 q1
    refine⟨v,vs,_,_,cs,rfl,by simp only[Knd.ksL,List.map_append],r1,r2,ih hx2 (fun o ho=>hin o (by simp[Knd.ksL,ho])) hv.2 (by simpa using hl) fun i ψ u hi hu=>hh (i+1) ψ u (by simpa using hi) (by simpa using hu)⟩
   ·cases hr
 |un =>
  intro l x vs hr hin hv hl hh;simp only[Knd.rtL]at hr;split at hr
  ·exact⟨List.length_eq_zero_iff.1 (by simpa using hl),rfl⟩
  ·cases hr
 |_=>intro l x vs hr hin hv hl hh;cases hv
def He(M:MS):List (Option Nat)→Bool
 | []=>true
 |o::l=>(match o with
  |none=>true
  |some k=>match look M k with
   |some (_,.sl true _ _ _)=>true
   |_=>false) && He M l
theorem BI{X:Cx}{s:S}:∀ {l:List (Option Nat)},He s.M l=true→CS X s l
 | [],_=>fun k hk=>by simp at hk
 |o::l,h=>fun k hk=>by
  simp only[He,zLD]at h;rcases zLH.1 hk with rfl|hk
  ·have h1:=h.1
   dsimp only at h1;split at h1
   ·rename_i hl;exact⟨_,_,_,_,hl⟩
   ·cases h1
  ·exact BI (X:=X) h.2 k hk
theorem p9(h:RelX F s a w X):∀ {l:List (Option Nat)},CS X s l→(yf l).Nodup→((l.map (uOf X)).filterMap Value.ownBlock).Nodup:=by
 intro l
 induction l with
 |nil=>intro _ _;exact List.nodup_nil
 |cons o l ih =>
  intro hk hn;have hk':CS X s l:=fun k hkk=>hk k (by simp[hkk])
  cases o with
  |none =>
   have:=ih hk' hn;rw[List.map_cons,List.filterMap_cons_none (show (uOf X none).ownBlock=none from rfl)];exact this
  |some k =>
   obtain⟨hn1,hn2⟩:=List.nodup_cons.1 hn;have ih:=ih hk' hn2
   simp only[List.map_cons]
   cases hb:(uOf X (some k)).ownBlock with
   |none=>rw[List.filterMap_cons_none hb];exact ih
   |some g =>
    rw[List.filterMap_cons_some hb];refine List.nodup_cons.2 ⟨fun hm=>?_,ih⟩
    obtain⟨u,hu,hg⟩:=List.mem_filterMap.1 hm;obtain⟨k',e',q1,q2,q3,q4,_⟩:=uj h (ks:=l) hk' hu hg;obtain⟨k2,e2,p1,p2,p3,p4,_⟩:=uj h (ks:=[some k]) (fun j hj=>hk j (by simp at hj;simp[hj])) (List.mem_map.2 ⟨some k,by simp,rfl⟩) hb
    have p1:k2=k:=by simpa using p1
    subst p1;have:=h.inj k2 k' e2 e' p2 q2 p3 q3 (p4.symm.trans q4)
    subst this;exact hn1 (YY.2 q1)
end
def rtJ(E:VE)(kd:Knd)(l:List ResultVar)(s:S):Comp kd.D:=match mq E s l with
 |some m=>match Zx m && (kd.Dw && (qn (yf (kd.ksL s.M m)) && He s.M (kd.ksL s.M m))),kd.rtL E.G s.M (Du (kd.ksL s.M m) s.M) m with
  |true,some y=>Comp.pure y
  |_,_=>Comp.fail
 |none=>Comp.fail
def Ra(E:VE)(c:Code)(h:H)(l:List ResultVar)(ps:Ty)(kd:Knd)(x:ps.D):Comp kd.D :=
 den E c kd.D h ⟨Ym ps x 0,[],1,0⟩ (rtJ E kd l) (fun _ _=>Comp.fail) (rtJ E kd l)
theorem zDV{P:Program}{E:VE}(hE:E.ok P)(hm:P.follows .mixedOrders=true){f:FuncId}{fn:Func}{c:Code}{h:H}{fs:FJ}(hF:FnOk P f)(hf:P.funcs[f]?=some fn)(hb:fn.body=some c)(hc:okC fn.ntmps c=true)(hl:Nat.ble fs.ps.len fn.ntmps=true)
  (hs:∀x,Ra E c h fn.results.toList fs.ps fs.kd x=fs.sem x):fs.ok P f:=by
 refine⟨hF,fun O w hO vs x ha n y hy=>?_⟩
 rw[←hs x]at hy;have hfit:=ky vs.toArray fn.ntmps (by have:=Z6 ha;simp only[List.size_toArray];rw[this];exact Nat.le_of_ble_eq_true hl)
 have hget:∀(j:Nat) v,vs[j]?=some v→Act.get { tmps:=vs.toArray++Array.replicate (fn.ntmps-vs.toArray.size) undef,defers:=[] } j=v:=fun j v hj=>kx (by simpa using hj)
 refine callsIn_wide.1 (callsIn_of_wp_marks (n:=0) hf hb trivial ?_);generalize ({ tmps:=vs.toArray++Array.replicate (fn.ntmps-vs.toArray.size) undef,defers:=[] }:Act)=a at hfit hget ⊢
 let F:Frm:=⟨P,fn.ntmps,[],Go.Lift.Fr w,O,w,fun _ _=>False,0,[],FrX.no 1 O w⟩
 let X:Cx:=⟨P,O,fun _=>.nilIface,1,fun k=>k,Go.Lift.Fr w,Go.Lift.Fr w,0,0⟩
 have hR:Rel F ⟨Ym fs.ps x 0,[],1,0⟩ a w:=by
  have hin:=fun {u e}=>Z3 (X:=X) (a:=a) (i:=0) rfl rfl ha (fun j v hj=>by rw[Nat.zero_add];exact hget j v hj) (u:=u) (e:=e)
  refine⟨X,rfl,rfl,rfl,rfl,rfl,hO,hfit,Base.start hO,fun t e he _=>(hin he).2,fun k e he=>(nomatch he),fun t e he=>(by rw[(hin he).1];exact Nat.zero_lt_one),fun k e he=>(nomatch he),fun k k' e e' he=>(nomatch he),fun k e he=>(nomatch he),Nat.zero_le _,Nat.zero_lt_one,fun _ _ h=>h.elim,⟨Nat.zero_le _,fun j b hj=>(nomatch hj)⟩,Exx.no Nat.one_ne_zero rfl⟩
 have hrt:∀F' s' a' w',F.To F'→Rel F' s' a' w'→(rtJ E fs.kd fn.results.toList s').run n=some y→LeavesInM Fence.wide 0 P fn a'.tmps (fun e w'=>∃v,e=.returned v∧Ext w w'∧∃rs us,kc rs v∧K8 P (uF O us) w' w.heap.size fs.kd y rs us∧(us.filterMap Value.ownBlock).Nodup) a'.defers .returning w':=by
  intro F' s' a' w' hT h' hr;refine leaves hT rfl (fun _ _ h=>h) (zLF _) h' fun q n' ep' w' hX'=>?_
  obtain⟨X',hX'⟩:=hX';have hs:=hT.same
  have hP:X'.P=P:=hX'.P.trans hs.P;have hE':E.ok X'.P:=by rw[hP];exact hE
  unfold rtJ at hr;split at hr
  ·rename_i m hm'
   split at hr
   ·rename_i y' hb hy'
    simp only[zLD]at hb;obtain⟨hnf,hav,hnd,hoj⟩:=hb;have e:=run_pure hr
    subst e;obtain⟨vs',g1,g2,g3⟩:=Xs hE' hX' (Jl hm' hnf);obtain⟨v,g4,g5⟩:=ku g1;rw[hP]at g4;have hJ:=BI (X:=X') (s:={ s' with n:=n',ep:=ep' }) hoj
    refine⟨v,g4,v,rfl,?_,vs',(fs.kd.ksL s'.M m).map (uOf X'),g5,?_,p9 hX' hJ (wL hnd)⟩
    ·have:=hX'.base
     change Base F'.A F'.O0 F'.w0 _ _ at this
     rw[hs.A,hs.O0,hs.w0]at this;exact this.ext
    ·have:=zAm hE'.G hX' hJ hy' (fun o ho=>ho) hav g2 fun i φ u hi hu=>⟨g3 i φ u hi hu,kg hnf φ (zLI hi)⟩
     change K8 _ (uF F'.O0 _) _ F'.w0.heap.size _ _ _ _ at this
     rwa[hP,hs.O0,hs.w0]at this
   ·cases hr
  ·cases hr
 exact Yr c (F:=F) hm (fun _ _ h=>h) hE hc (.inl ⟨rfl,rfl⟩) rfl hR (Inv.refl _) hy ⟨fun F' s' a' w' h0 h1 _ h2=>hrt F' s' a' w' h0 h1 h2,fun i _ F' s' a' w' _ _ _ h2=>(nomatch h2),fun F' s' a' w' h0 h1 _ h2=>hrt F' s' a' w' h0 h1 h2,fun F' s' a' _ w' _ _ _ h2=>(nomatch h2)⟩
end Go.Den
end
noncomputable section
namespace Go.Den
open Go Go.RowKit Go.Eng Go.Lift
def Sl(P:Program)(X:TypeId):Nat→List (Nat×Nat×Nat)→Prop
 |_,[]=>True
 |k,e::l=>Fld P X k e.1 e.2.1 e.2.2∧Sl P X (k+1) l
theorem zAN{P:Program}{X:TypeId}:∀ {l:List (Nat×Nat×Nat)} {k:Nat},Sl P X k l→∀(f:Nat) e,l[f]?=some e→Fld P X (k+f) e.1 e.2.1 e.2.2
 | [],_,_,f,e,h=>by simp at h
 |e0::l,k,h,f,e,he=>by
  cases f with
  |zero=>simp at he;subst he;exact h.1
  |succ f=>have:=zAN h.2 f e (by simpa using he);rwa[Nat.add_right_comm,Nat.add_assoc]at this
theorem yc{P:Program}{X:TypeId}{i:TI}(h:i.kq=false):i.kq=true→KeyB P X i.τ:=fun h'=>by rw[h]at h';cases h'
def TI.zES(P:Program)(X:TypeId)(i:TI):Prop:=i.eq≠0→EqT P X i.τ i.eq∧i.eq≤10000∧(i.τ.agg=true→P.eqGuardType P.depth X=false)
theorem kb{P:Program}{X:TypeId}{i:TI}(h:i.eq=0):i.zES P X:=fun h'=>absurd h h'
theorem yX{P:Program}{X:TypeId}{i:TI}(h:Eng.Ty P X i.dd i.z i.sz i.by_)(hf:i.fl=[])(he:i.zES P X)(hk:i.kq=true→KeyB P X i.τ):i.ok P X:=⟨h,fun f e he=>(by rw[hf]at he;simp at he),.inl hf,he,hk⟩
theorem vm{P:Program}{X:TypeId}{i:TI}(h:Eng.Ty P X i.dd i.z i.sz i.by_)(hf:Sl P X 0 i.fl)(hp:Plc P X (i.fl.map (fun e=>(e.2.1,e.2.2+1))).toArray)(he:i.zES P X)(hk:i.kq=true→KeyB P X i.τ):i.ok P X :=
 ⟨h,fun f e he=>(by have:=zAN hf f e he;rwa[Nat.zero_add]at this),.inr hp,he,hk⟩
def iS(e:TypeId)(t:Ty):TI:=⟨.slice e,.slice none 0 0,1,24,[],t,0,false⟩
theorem Xn{P:Program}{X e:TypeId}{t:Ty}(h:Eng.Ty P X (.slice e) (.slice none 0 0) 1 24):(iS e t).ok P X:=yX (i:=iS e t) h rfl (kb rfl) (yc rfl)
theorem UV(P:Program):TOk P []:=fun X i h=>nomatch h
theorem zX{P:Program}{X:TypeId}{i:TI}{l:TE}(h:i.ok P X)(hl:TOk P l):TOk P ((X,i)::l):=fun Y j hj=>by
 rcases zD hj with ⟨h1,h2⟩|⟨_,h2⟩
 ·subst h1 h2;exact h
 ·exact hl Y j h2
def Cm(l:List (Nat×Ty×Nat))(D:Nat):List Field→Ty→Nat→Bool
 | [],.nil,_=>true
 |f::fs,.cons a b,off=>!(f.name == "_") && (Nat.beq f.offset off && ((match look l f.type with
  |some e=>a.beq e.1 && Nat.ble e.2 D
  |none=>false) && Cm l D fs b (off+a.sz)))
 |_,_,_=>false
def H2(P:Program)(l:List (Nat×Ty×Nat)):Prop:=∀X e,look l X=some e→EqT P X e.1 e.2
theorem Jc(P:Program):H2 P []:=fun X i h=>nomatch h
theorem Yg{P:Program}{X:TypeId}{t:Ty}{D:Nat}{l:List (Nat×Ty×Nat)}(h:EqT P X t D)(hl:H2 P l):H2 P ((X,t,D)::l):=fun Y j hj=>by
 rcases zD hj with ⟨h1,h2⟩|⟨_,h2⟩
 ·subst h1 h2;exact h
 ·exact hl Y j h2
theorem Ky{P:Program}{l:List (Nat×Ty×Nat)}(hl:H2 P l){D:Nat}:∀ {fs:List Field} {t:Ty} {off:Nat},Cm l D fs t off=true→EqTs P D fs t off
 | [],.nil,_,_=>.nil
 |f::fs,.cons a b,off,h=>by
  simp only[Cm,zLD]at h;obtain⟨h1,h2,h3,h4⟩:=h;split at h3
  ·rename_i e he
   rw[zLD]at h3;have:=hl _ _ he
   rw[←Ty.KB h3.1]at this;exact .cons (by simpa using h1) (zLC h2) this (Nat.le_of_ble_eq_true h3.2) (Ky hl h4)
  ·cases h3
 | [],.int _,_,h | [],.bool,_,h | [],.str,_,h | [],.sl _,_,h | [],.cons ..,_,h | [],.arr ..,_,h | [],.box _,_,h | [],.fn ..,_,h | [],.seq ..,_,h | [],.slo ..,_,h | [],.mp ..,_,h=>by simp[Cm]at h
 |_::_,.int _,_,h|_::_,.bool,_,h|_::_,.str,_,h|_::_,.sl _,_,h|_::_,.nil,_,h|_::_,.arr ..,_,h|_::_,.box _,_,h|_::_,.fn ..,_,h|_::_,.seq ..,_,h|_::_,.slo ..,_,h|_::_,.mp ..,_,h=>by simp[Cm]at h
theorem Yp{κ:Type}{P:Nat→κ→Prop}{f:Nat}{s:κ}{l:List (Nat×κ)}(h:P f s)(hl:∀g t,look l g=some t→P g t):∀g t,look ((f,s)::l) g=some t→P g t:=fun Y j hj=>by
 rcases zD hj with ⟨h1,h2⟩|⟨_,h2⟩
 ·subst h1 h2;exact h
 ·exact hl Y j h2
section short
variable {P:Program} {T:TE} {lG:List (Nat×FS)} {lM:List (Nat×FM)} {lO:List (Nat×FO)} {lN:List (Nat×FS)} {lQ:List (Nat×GS)} {lJ:List (Nat×FJ)}
abbrev ve(T:TE)(lG:List (Nat×FS))(lM:List (Nat×FM))(lO:List (Nat×FO))(lN:List (Nat×FS))(lQ:List (Nat×GS))(lJ:List (Nat×FJ)):VE:={ T:=T,G:=look lG,H:=look lM,O:=look lO,N:=look lN,Q:=look lQ,J:=look lJ }
structure EK(P:Program)(T:TE)(lG:List (Nat×FS))(lM:List (Nat×FM))(lO:List (Nat×FO))(lN:List (Nat×FS))(lQ:List (Nat×GS))(lJ:List (Nat×FJ)):Prop where
 e:(ve T lG lM lO lN lQ lJ).ok P
 m:P.follows .mixedOrders=true
theorem e0(h:TOk P T)(hm:P.follows .mixedOrders=true):EK P T [] [] [] [] [] []:=⟨⟨h,(fun X i h=>nomatch h),(fun X i h=>nomatch h),(fun X i h=>nomatch h),(fun X i h=>nomatch h),(fun X i h=>nomatch h),(fun X i h=>nomatch h),(fun X i h=>nomatch h)⟩,hm⟩
theorem EK.S{f s}(h:EK P T lG lM lO lN lQ lJ)(hs:FS.ok P f s):EK P T ((f,s)::lG) lM lO lN lQ lJ:=⟨{ h.e with G:=Yp hs h.e.G },h.m⟩
theorem EK.M{f s}(h:EK P T lG lM lO lN lQ lJ)(hs:FM.ok P f s):EK P T lG ((f,s)::lM) lO lN lQ lJ:=⟨{ h.e with H:=Yp hs h.e.H },h.m⟩
theorem EK.O{f s}(h:EK P T lG lM lO lN lQ lJ)(hs:FO.ok P f s):EK P T lG lM ((f,s)::lO) lN lQ lJ:=⟨{ h.e with O:=Yp hs h.e.O },h.m⟩
theorem EK.N{f s}(h:EK P T lG lM lO lN lQ lJ)(hs:FS.okN P f s):EK P T lG lM lO ((f,s)::lN) lQ lJ:=⟨{ h.e with N:=Yp hs h.e.N },h.m⟩
theorem EK.Q{f s}(h:EK P T lG lM lO lN lQ lJ)(hs:GS.ok P f s):EK P T lG lM lO lN ((f,s)::lQ) lJ:=⟨{ h.e with Q:=Yp hs h.e.Q },h.m⟩
theorem EK.J{f s}(h:EK P T lG lM lO lN lQ lJ)(hs:FJ.ok P f s):EK P T lG lM lO lN lQ ((f,s)::lJ):=⟨{ h.e with J:=Yp hs h.e.J },h.m⟩
abbrev veK(T:TE)(lG:List (Nat×FS))(lM:List (Nat×FM))(lO:List (Nat×FO))(lN:List (Nat×FS))(lQ:List (Nat×GS))(lJ:List (Nat×FJ))(g:Nat)(s:FK):VE:={ ve T lG lM lO lN lQ lJ with K:=look [(g,s)],Z:=s.zT }
theorem EK.K{g:FuncId}{s:FK}(h:EK P T lG lM lO lN lQ lJ)(hs:s.ok P g):(veK T lG lM lO lN lQ lJ g s).ok P:={ h.e with K:=Yp hs fun X i h=>nomatch h }
def okA(fn:Func)(c:Code)(n:Nat):Bool:=!fn.body.isNone && (!(fn.name == "runtime.NumGoroutine") && (okC fn.ntmps c && Nat.ble n fn.ntmps))
theorem vq{fn:Func}{c:Code}{n:Nat}(h:okA fn c n=true):fn.body.isNone=false∧(fn.name == "runtime.NumGoroutine")=false∧okC fn.ntmps c=true∧Nat.ble n fn.ntmps=true:=by
 unfold okA at h;simp only[zLD,Bool.not_eq_true']at h;exact h
variable {f:FuncId} {fn:Func} {c:Code}
theorem fS(hE:EK P T lG lM lO lN lQ lJ)(h:H){fs:FS}(hf:P.funcs[f]?=some fn)(hb:fn.body=some c:=by rfl)(hk:okA fn c fs.ps.len=true:=by kernel_rfl)(hs:∀x,Sd (ve T lG lM lO lN lQ lJ) c h fn.results.toList fs.ps fs.rs fs.rk x=fs.sem x:=by intro x;kernel_rfl):fs.ok P f :=
 zAM hE.e hE.m ⟨_,hf,(vq hk).1,(vq hk).2.1⟩ hf hb (vq hk).2.2.1 (vq hk).2.2.2 hs
theorem fM(hE:EK P T lG lM lO lN lQ lJ)(h:H){fs:FM}(hf:P.funcs[f]?=some fn)(hb:fn.body=some c:=by rfl)(hk:okA fn c fs.ps.len=true:=by kernel_rfl)(hs:∀x,RY (ve T lG lM lO lN lQ lJ) c h fn.results.toList fs.ps fs.io fs.rs x=fs.sem x:=by intro x;kernel_rfl):fs.ok P f :=
 zDT hE.e hE.m ⟨_,hf,(vq hk).1,(vq hk).2.1⟩ hf hb (vq hk).2.2.1 (vq hk).2.2.2 hs
theorem fO(hE:EK P T lG lM lO lN lQ lJ)(h:H){fs:FO}(hf:P.funcs[f]?=some fn)(hb:fn.body=some c:=by rfl)(hk:(fs.ret && okA fn c (fs.ps.len+1))=true:=by kernel_rfl)(hs:∀xs z,RW (ve T lG lM lO lN lQ lJ) c h fn.results.toList fs.e fs.T fs.ps xs z=fs.sem xs z:=by intro xs z;kernel_rfl):fs.ok P f:=by
 rw[zLD]at hk;exact zDR hE.e hE.m ⟨_,hf,(vq hk.2).1,(vq hk.2).2.1⟩ hf hb (vq hk.2).2.2.1 (vq hk.2).2.2.2 hk.1 hs
theorem fN(hE:EK P T lG lM lO lN lQ lJ)(h:H){fs:FS}(hf:P.funcs[f]?=some fn)(hb:fn.body=some c:=by rfl)(hk:okA fn c (fs.ps.len+1)=true:=by kernel_rfl)(hs:∀x,RX (ve T lG lM lO lN lQ lJ) c h fn.results.toList fs.ps fs.rs fs.rk x=fs.sem x:=by intro x;kernel_rfl):fs.okN P f :=
 zDS hE.e hE.m ⟨_,hf,(vq hk).1,(vq hk).2.1⟩ hf hb (vq hk).2.2.1 (vq hk).2.2.2 hs
theorem fQ(hE:EK P T lG lM lO lN lQ lJ)(h:H){fs:GS}(hf:P.funcs[f]?=some fn)(hb:fn.body=some c:=by rfl)(hk:(Nat.beq fn.results.size 0 && (kz c && okA fn c (fs.ps.len+1)))=true:=by kernel_rfl)(hs:∀x,RV (ve T lG lM lO lN lQ lJ) c h fs.ps fs.t x=fs.sem x:=by intro x;kernel_rfl):fs.ok P f:=by
 simp only[zLD]at hk;have ho:=vq hk.2.2
 exact zDQ hE.e hE.m ⟨_,hf,ho.1,ho.2.1⟩ hf hb (by rw[ho.2.2.1,hk.2.1];rfl) (zLC hk.1) ho.2.2.2 hs
theorem fJ(hE:EK P T lG lM lO lN lQ lJ)(h:H){fs:FJ}(hf:P.funcs[f]?=some fn)(hb:fn.body=some c:=by rfl)(hk:okA fn c fs.ps.len=true:=by kernel_rfl)(hs:∀x,Ra (ve T lG lM lO lN lQ lJ) c h fn.results.toList fs.ps fs.kd x=fs.sem x:=by intro x;kernel_rfl):fs.ok P f :=
 zDV hE.e hE.m ⟨_,hf,(vq hk).1,(vq hk).2.1⟩ hf hb (vq hk).2.2.1 (vq hk).2.2.2 hs
def okK(fn:Func)(c:Code)(fs:FK):Bool:=Nat.beq fn.results.size 0 && (kz c && (Nat.blt 0 fn.ntmps && okA fn c (fs.ps.len+fs.cs.length)))
theorem fK(hE:EK P T lG lM lO lN lQ lJ)(h:H){fs s0:FK}(hs0:s0.ok P f)(hf:P.funcs[f]?=some fn)(hZ:fs.zT=s0.zT:=by rfl)(hb:fn.body=some c:=by rfl)(hk:okK fn c fs=true:=by kernel_rfl)(hs:∀x r y,RZ (veK T lG lM lO lN lQ lJ f s0) f c h fs x r y=fs.sem x r y:=by intro x r y;kernel_rfl):fs.ok P f:=by
 unfold okK at hk;simp only[zLD]at hk;have ho:=vq hk.2.2.2
 exact zDU (hE.K hs0) hE.m ⟨_,hf,ho.1,ho.2.1⟩ hf hb ho.2.2.1 hk.2.1 (Array.size_eq_zero_iff.1 (zLC hk.1)) ho.2.2.2 hk.2.2.1 hZ hs
theorem zED{s:Nat→FK}(hF:FnOk P f)(h0:∀x r y,(s 0).sem x r y=Comp.fail)(hS:∀n,(s n).ok P f→(s (n+1)).ok P f):∀n,(s n).ok P f
 |0=>⟨hF,fun O w _ vs x c y bl ts σs ss G _ _ _ _ _ _ n r hr=>by rw[h0]at hr;cases hr⟩
 |n+1=>hS n (zED hF h0 hS n)
theorem zGi{s:Nat→FS}(hF:FnOk P f)(h0:∀x,(s 0).sem x=Comp.fail)(hS:∀n,(s n).ok P f→(s (n+1)).ok P f):∀n,(s n).ok P f
 |0=>⟨hF,fun O w _ vs x _ n y hr=>by rw[h0]at hr;cases hr⟩
 |n+1=>hS n (zGi hF h0 hS n)
theorem fSK{g:FuncId}{s0:FK}(hE:EK P T lG lM lO lN lQ lJ)(hs0:s0.ok P g)(h:H){fs:FS}(hf:P.funcs[f]?=some fn)(hb:fn.body=some c:=by rfl)(hk:okA fn c fs.ps.len=true:=by kernel_rfl)(hs:∀x,Sd (veK T lG lM lO lN lQ lJ g s0) c h fn.results.toList fs.ps fs.rs fs.rk x=fs.sem x:=by intro x;kernel_rfl):fs.ok P f :=
 zAM (hE.K hs0) hE.m ⟨_,hf,(vq hk).1,(vq hk).2.1⟩ hf hb (vq hk).2.2.1 (vq hk).2.2.2 hs
def okR(fn:Func)(c:Code)(n:Nat)(gn:Func):Bool:=!fn.body.isNone && (!(fn.name == "runtime.NumGoroutine") && (Nat.ble n fn.ntmps && (Nat.blt 0 fn.ntmps && (okC fn.ntmps (cl c) && (okC fn.ntmps (cl (cr c)) && (okC fn.ntmps (cr (cr (cr c))) && ((kz (cl c) && (kz (cl (cr c)) && kz (cr (cr (cr c))))) && (yK fn.ntmps (opsOf (cl (cr (cr c)))) && (okC gn.ntmps (cr (gn.body.getD .skip)) && kz (cr (gn.body.getD .skip)))))))))))
theorem fR{g:FuncId}{s0:FK}{gn:Func}{R0:Code}{m se so:Nat}{zt:Ty}{id:Nat}(hE:EK P T lG lM lO lN lQ lJ)(hs0:s0.ok P g){d:FuncId}(hg:RecG P d gn R0 (cr (gn.body.getD .skip)) m se so s0.zT zt)(hA hB hC hG:H){fs:FS}(hf:P.funcs[f]?=some fn)(hb:fn.body=some (.seq (cl c) (.seq (cl (cr c)) (.seq (.region id (opsOf (cl (cr (cr c)))).toArray false) (cr (cr (cr c)))))):=by rfl)(hk:okR fn c fs.ps.len gn=true:=by kernel_rfl)
  (hs:∀x,RT (veK T lG lM lO lN lQ lJ g s0) (cl c) (cl (cr c)) (opsOf (cl (cr (cr c)))) (cr (cr (cr c))) hA hB hC (cr (gn.body.getD .skip)) hG d m se so zt fn.results.toList fs.ps fs.rs fs.rk x=fs.sem x:=by intro x;kernel_rfl):fs.ok P f:=by
 unfold okR at hk;simp only[zLD,Bool.not_eq_true']at hk;obtain⟨k1,k2,k3,k4,k5,k6,k7,k8,k9,k10,k11⟩:=hk;exact zDP (hE.K hs0) hE.m ⟨_,hf,k1,k2⟩ hf hb k5 k6 k7 (by simp only[zLD];exact k8) k9 k3 k4 hg k10 k11 hs
def Sc{T:Type}(z:T)(s:T→T)(n:Nat):T:=Nat.rec z (fun _ r=>s r) n
end short
end Go.Den
end
section
namespace Go.Lift
open Go Go.Eng
variable {α β γ δ ε σ τ:Type}
namespace Comp
def ZV(f:σ→α→Step σ ε)(fin:σ→ε):σ→List α→ε
 |s,[]=>fin s
 |s,x::xs=>match f s x with
  |.next s'=>ZV f fin s' xs
  |.done e=>e
def Step.map(g:σ→τ):Step σ ε→Step τ ε
 |.next s=>.next (g s)
 |.done e=>.done e
theorem Yf{body:τ→Comp (Step τ ε)}(st:σ→Nat→τ)(xs:List α)(f:σ→α→Step σ ε)(fin:σ→ε)(I:σ→Nat→Prop)
  (hb:∀s i x,xs[i]?=some x→I s i→(body (st s i)).val=some ((f s x).map fun s'=>st s' (i+1)))
  (hI:∀s i x s',xs[i]?=some x→I s i→f s x=.next s'→I s' (i+1))
  (he:∀s,I s xs.length→(body (st s xs.length)).val=some (.done (fin s))) (s:σ) (h0:I s 0):(loop body (st s 0)).val=some (ZV f fin s xs):=by
 have key:∀(ys zs:List α) (s:σ),xs=zs++ys→I s zs.length→(loop body (st s zs.length)).val=some (ZV f fin s ys):=by
  intro ys
  induction ys with
  |nil =>
   intro zs s hx hs;rw[List.append_nil]at hx;subst hx;rw[zN,he s hs];rfl
  |cons y ys ih =>
   intro zs s hx hs;have hy:xs[zs.length]?=some y:=by rw[hx];simp
   rw[zN,hb s _ y hy hs];simp only[ZV,zLB]
   cases hf:f s y with
   |next s' =>
    simp only[Step.map];have:=ih (zs++[y]) s' (by rw[hx];simp) (by have:=hI s _ y s' hy hs hf;simpa using this)
    simpa using this
   |done e=>rfl
 exact key xs [] s rfl h0
theorem XZ{f:σ→α→σ}{fin:σ→ε}:∀(xs:List α) (s:σ),ZV (fun s x=>.next (f s x)) fin s xs=fin (xs.foldl f s)
 | [],_=>rfl
 |x::xs,s=>by simp only[ZV,List.foldl_cons];exact XZ xs (f s x)
end Comp
theorem zL{xs:List α}{i:Nat}{x:α}(h:xs[i]?=some x):(idx xs (i:Int)).val=some x:=by
 unfold idx;rw[if_pos (by omega)];simp[h]
theorem Kc{xs:List α}{i:Int}{x:α}(h0:0≤i)(h:xs[i.toNat]?=some x):(idx xs i).val=some x:=by
 unfold idx;rw[if_pos h0];simp[h]
theorem yG{xs ys:List α}(h:xs.length+ys.length≤LIM):(app xs ys).val=some (xs++ys):=by
 unfold app;rw[if_pos h];simp
theorem YQ{xs:List α}{l h:Int}(hr:0≤l∧l≤h∧h≤xs.length):(sub xs l h).val=some ((xs.take h.toNat).drop l.toNat):=by
 unfold sub;rw[if_pos hr];simp
theorem mk_val{n:Int}{z:α}(h:0≤n∧n≤LIM):(mk n z).val=some (List.replicate n.toNat z):=by
 unfold mk;rw[if_pos h];simp
theorem US{xs:List α}{i:Int}{x:α}(h:0≤i∧i<xs.length):(upd xs i x).val=some (xs.set i.toNat x):=by
 unfold upd;rw[if_pos h];simp
theorem Zv{a b:Int}(h:b≠0):(rem a b).val=some (a.tmod b):=by
 unfold rem;rw[if_neg h];simp
theorem zO{xs:List α}{i:Nat}{x:α}(h:xs[i]?=some x):i<xs.length:=(zLJ.1 h).1
def Ok(c:Comp α)(P:α→Prop):Prop:=∃a,c.val=some a∧P a
namespace Ok
theorem yv{c:Comp α}{a:α}{P:α→Prop}(h:c.val=some a):Ok c P↔P a:=by
 constructor
 ·rintro⟨b,h1,h2⟩;rw[h]at h1;cases h1;exact h2
 ·exact fun hp=>⟨a,h,hp⟩
theorem val{c:Comp α}{a:α}(h:Ok c (fun x=>x=a)):c.val=some a:=by
 obtain⟨b,h1,h2⟩:=h;rw[h1,h2]
theorem mono{c:Comp α}{P Q:α→Prop}(h:Ok c P)(i:∀a,P a→Q a):Ok c Q:=by
 obtain⟨a,h1,h2⟩:=h;exact⟨a,h1,i a h2⟩
theorem pure{a:α}{P:α→Prop}:Ok (Comp.pure a) P↔P a:=yv (Comp.zB a)
theorem bind{c:Comp α}{f:α→Comp β}{P:β→Prop}:Ok (c.bind f) P↔Ok c fun a=>Ok (f a) P:=by
 unfold Ok;rw[zA]
 cases hc:c.val with
 |none=>simp
 |some a=>simp
theorem ze{c:Comp α}{a:α}(h:c.val=some a){f:α→Comp β}{P:β→Prop}:Ok (c.bind f) P↔Ok (f a) P:=by rw[bind,yv h]
theorem gd{g:Bool}{c:Comp α}{d:α}{P:α→Prop}:Ok (Comp.gd g c d) P↔if g=true then Ok c P else P d:=by
 cases g with
 |true=>exact Iff.rfl
 |false=>exact pure
theorem Jr{g:Bool}{c:Comp α}{d:α}{P:α→Prop}(h1:g=true→Ok c P)(h2:g=false→P d):Ok (Comp.gd g c d) P:=by
 cases g with
 |true=>exact h1 rfl
 |false=>exact pure.2 (h2 rfl)
theorem idx{xs:List α}{i:Int}{P:α→Prop}{x:α}(h0:0≤i)(h:xs[i.toNat]?=some x):Ok (Lift.idx xs i) P↔P x:=yv (Kc h0 h)
theorem Yu{xs:List α}{i:Nat}{P:α→Prop}{x:α}(h:xs[i]?=some x):Ok (Lift.idx xs (i:Int)) P↔P x:=yv (zL h)
theorem app{xs ys:List α}{P:List α→Prop}(h:xs.length+ys.length≤LIM):Ok (Lift.app xs ys) P↔P (xs++ys):=yv (yG h)
theorem sub{xs:List α}{l h:Int}{P:List α→Prop}(hr:0≤l∧l≤h∧h≤xs.length):Ok (Lift.sub xs l h) P↔P ((xs.take h.toNat).drop l.toNat):=yv (YQ hr)
theorem rem{a b:Int}{P:Int→Prop}(h:b≠0):Ok (Lift.rem a b) P↔P (a.tmod b):=yv (Zv h)
theorem upd{xs:List α}{i:Int}{x:α}{P:List α→Prop}(h:0≤i∧i<xs.length):Ok (Lift.upd xs i x) P↔P (xs.set i.toNat x):=yv (US h)
theorem mk{n:Int}{z:α}{P:List α→Prop}(h:0≤n∧n≤LIM):Ok (Lift.mk n z) P↔P (List.replicate n.toNat z):=yv (mk_val h)
theorem loop{body:σ→Comp (Comp.Step σ ε)}(I:σ→Prop)(m:σ→Nat){P:ε→Prop}{s:σ}(h0:I s)
  (hb:∀s,I s→Ok (body s) fun t=>match t with|.next s'=>I s'∧m s'<m s|.done e=>P e):Ok (Comp.loop body s) P:=by
 have key:∀k s,m s=k→I s→Ok (Comp.loop body s) P:=by
  intro k
  induction k using Nat.strongRecOn with
  |_ k ih =>
   intro s hk hI;obtain⟨t,h1,h2⟩:=hb s hI
   cases t with
   |next s' =>
    obtain⟨e,h3,h4⟩:=ih (m s') (by have:=h2.2;omega) s' rfl h2.1
    exact⟨e,by rw[zN,h1];exact h3,h4⟩
   |done e=>exact⟨e,by rw[zN,h1];rfl,h2⟩
 exact key _ s rfl h0
theorem count{body:σ→Comp (Comp.Step σ ε)}(N:Nat)(I:Nat→σ→Prop){P:ε→Prop}{s:σ}(h0:I 0 s)
  (hb:∀i s,i<N→I i s→Ok (body s) fun t=>match t with|.next s'=>I (i+1) s'|.done e=>P e)
  (he:∀s,I N s→Ok (body s) fun t=>match t with|.next _=>False|.done e=>P e):Ok (Comp.loop body s) P:=by
 have key:∀k i s,i+k=N→I i s→Ok (Comp.loop body s) P:=by
  intro k
  induction k with
  |zero =>
   intro i s hi hI;have:i=N:=by omega
   subst this;obtain⟨t,h1,h2⟩:=he s hI
   cases t with
   |next _=>exact h2.elim
   |done e=>exact⟨e,by rw[zN,h1];rfl,h2⟩
  |succ k ih =>
   intro i s hi hI;obtain⟨t,h1,h2⟩:=hb i s (by omega) hI
   cases t with
   |next s' =>
    obtain⟨e,h3,h4⟩:=ih (i+1) s' (by omega) h2
    exact⟨e,by rw[zN,h1];exact h3,h4⟩
   |done e=>exact⟨e,by rw[zN,h1];rfl,h2⟩
 exact key N 0 s (by omega) h0
end Ok
end Go.Lift
end
section
namespace Go.Geo
open Go Go.Eng Go.Lift Go.Den
variable {α β γ δ ε σ τ:Type}
theorem zH{m n:Int}:(ltI m n=true)=(m<n):=by simp[ltI]
theorem yd{m n:Int}:(gtI m n=true)=(n<m):=by simp[gtI]
theorem Cj{m n:Int}:(leI m n=true)=(m≤n):=by simp[leI]
theorem XK{m n:Int}:(geI m n=true)=(n≤m):=by simp[geI]
theorem yw{m n:Int}:(eqI m n=true)=(m=n):=by simp[eqI]
theorem zf{m n:Int}:(neI m n=true)=(m≠n):=by simp[neI]
theorem vZ(f:α→Comp β)(g:(α→Comp β)→Comp β):jn f g=g f:=rfl
theorem yM(b:Bool):ntB b = !b:=rfl
theorem gm(a b:Bool):sel a true b=(a || b):=by cases a<;>rfl
theorem kX(a b:Bool):sel a b false=(a && b):=by cases a<;>rfl
theorem zC(xs:List α):zF xs=(xs.length:Int):=rfl
def W(n:Int):Int:=IntKind.wrap .i64 n
theorem H0(n:Int):W n=(n+9223372036854775808) % 18446744073709551616-9223372036854775808:=by
 unfold W;simp[IntKind.wrap,IntKind.bits,IntKind.signed];split<;>omega
theorem Dx{n:Int}(h : -9223372036854775808≤n∧n<9223372036854775808):W n=n:=by rw[H0];omega
theorem Wl{m n:Int}(k:Int)(h:m=n+18446744073709551616 * k):W m=W n:=by rw[H0,H0];omega
theorem Hz(n:Int):∃k,W n=n+18446744073709551616 * k:=⟨- ((n+9223372036854775808) / 18446744073709551616),by rw[H0];omega⟩
theorem WB(m n:Int):W (W m+n)=W (m+n):=by
 obtain⟨k,h⟩:=Hz m;exact Wl k (by rw[h];omega)
theorem WA(m n:Int):W (m+W n)=W (m+n):=by
 obtain⟨k,h⟩:=Hz n;exact Wl k (by rw[h];omega)
theorem HN(m n:Int):W (W m-n)=W (m-n):=by
 obtain⟨k,h⟩:=Hz m;exact Wl k (by rw[h];omega)
theorem HM(m n:Int):W (m-W n)=W (m-n):=by
 obtain⟨k,h⟩:=Hz n;exact Wl (-k) (by rw[h];omega)
theorem zDk(m n:Int):zJ .i64 m n=W (m+n):=rfl
theorem Qh(m n:Int):gi .i64 m n=W (m-n):=rfl
theorem RH(m n:Int):ki .i64 m n=W (m * n):=rfl
theorem zDA(m:Int):Yl .i64 m=W (-m):=by unfold Yl;rw[Int.zero_sub];rfl
theorem yh{m n:Int}(h : -9223372036854775808≤m+n∧m+n<9223372036854775808):zJ .i64 m n=m+n:=Dx h
theorem YK{m n:Int}(h : -9223372036854775808≤m-n∧m-n<9223372036854775808):gi .i64 m n=m-n:=Dx h
theorem YN{m n:Int}(h : -9223372036854775808≤m * n∧m * n<9223372036854775808):ki .i64 m n=m * n:=Dx h
theorem Jg{m:Int}(h : -9223372036854775808<m∧m<9223372036854775808):Yl .i64 m = -m:=by rw[zDA];exact Dx (by omega)
theorem zM{i:Nat}(h:i<9223372036854775807):zJ .i64 (i:Int) 1=((i+1:Nat):Int):=by rw[yh (by omega)];omega
theorem YW:LIM<9223372036854775807:=by decide
theorem jT{n:Nat}{m:Int}(h:0≤m∧m<n):(inb n m).val=some ():=by unfold inb;rw[if_pos h];exact Comp.zB _
theorem V5{e:Bool}{c:Comp β}{y:β}(h1:e=true→c.val=some y){d:Comp β}(h2:d.val=some y):(amb e c d).val=some y:=by
 cases e with
 |false=>exact h2
 |true =>
  obtain⟨n,hn⟩:=vM.1 (h1 rfl);obtain⟨m,hm⟩:=vM.1 h2;have a1:=c.mono (Nat.le_max_left n m) hn
  have a2:=d.mono (Nat.le_max_right n m) hm;refine vM.2 ⟨max n m,?_⟩
  show (match c.run (max n m),d.run (max n m) with
  |some x,some y=>match Classical.propDecidable (x=y) with
   |.isTrue _=>some x
   |.isFalse _=>none
  |_,_=>none)=some y
  rw[a1,a2];simp only;split
  ·rfl
  ·rename_i h _;exact absurd rfl h
theorem Kw{xs:List α}{i:Int}{x:α}(h:(if 0≤i then xs[i.toNat]? else none)=some x):(idx xs i).val=some x:=by
 split at h
 ·rename_i h0;exact Kc h0 h
 ·cases h
theorem wG{body:τ→Comp (Comp.Step τ ε)}(st:σ→Nat→τ)(xs:List α)(f:σ→α→Comp.Step σ ε)(fin:σ→ε)(s:σ)
  (hb:∀s i x,xs[i]?=some x→(body (st s i)).val=some ((f s x).map fun s'=>st s' (i+1)))
  (he:∀s,(body (st s xs.length)).val=some (.done (fin s))):(Comp.loop body (st s 0)).val=some (Comp.ZV f fin s xs) :=
 Comp.Yf st xs f fin (fun _ _=>True) (fun s i x hx _=>hb s i x hx) (fun _ _ _ _ _ _ _=>trivial) (fun s _=>he s) s trivial
theorem pO{p:α→Bool}{c d:ε}:∀(xs:List α),Comp.ZV (fun (_:Unit) x=>if p x=true then .next () else .done c) (fun _=>d) () xs=bif xs.all p then d else c
 | []=>rfl
 |x::xs=>by
  have ih:=pO (p:=p) (c:=c) (d:=d) xs;rw[Comp.ZV,List.all_cons];generalize p x=b
  cases b with
  |true=>exact ih
  |false=>rfl
theorem ZQ{body:Int→Comp (Comp.Step Int ε)}(xs:List α)(p:α→Bool){c d:ε}(hb:∀(i:Nat) x,xs[i]?=some x→(body (i:Int)).val=some (if p x=true then .next ((i+1:Nat):Int) else .done c))(he:(body (xs.length:Int)).val=some (.done d)) :
  (Comp.loop body 0).val=some (bif xs.all p then d else c):=by
 have h1:=wG (fun (_:Unit) i=>((i:Nat):Int)) xs (fun (_:Unit) x=>if p x=true then .next () else .done c) (fun _=>d) () (body:=body)
  (fun s i x hx=>by rw[hb i x hx];cases p x<;>rfl) (fun s=>he)
 rw[pO]at h1;exact h1
def fnd(p:α→Bool):List α→Nat→Option Nat
 | [],_=>none
 |x::xs,i=>if p x=true then some i else fnd p xs (i+1)
theorem mV{p:α→Bool}:∀ {xs:List α} {i:Nat},(fnd p xs i).isSome=xs.any p
 | [],_=>rfl
 |x::xs,i=>by
  simp only[fnd,List.any_cons]
  cases hp:p x with
  |true=>rfl
  |false=>simp[mV (xs:=xs)]
theorem Bh{p:α→Bool}:∀ {xs:List α} {i j:Nat},fnd p xs i=some j→i≤j∧∃x,xs[j-i]?=some x∧p x=true∧∀k y,k<j-i→xs[k]?=some y→p y=false
 | [],_,_,h=>by cases h
 |x::xs,i,j,h=>by
  unfold fnd at h;split at h
  ·rename_i hp
   cases h
   exact⟨zLF _,x,by simp,hp,fun k y hk _=>by omega⟩
  ·rename_i hp
   obtain⟨h1,y,h2,h3,h4⟩:=Bh h;refine⟨by omega,y,by rw[show j-i=(j-(i+1))+1 by omega,List.getElem?_cons_succ];exact h2,h3,fun k z hk hz=>?_⟩
   cases k with
   |zero=>simp at hz;subst hz;simpa using hp
   |succ k=>exact h4 k z (by omega) (by simpa using hz)
def Hr(x0:List α)(x1:α×Unit→Comp (Bool×Unit)):Comp (Int×Unit) :=
 (Comp.loop
   (fun (x:Int)=>if ltI x (zF x0)=true then
     (idx x0 x).bind fun x_1=>(x1 (x_1,())).bind fun x_2=>if x_2.1=true then Comp.pure (.done (Sum.inr x)) else Comp.pure (.next (zJ .i64 x 1))
    else Comp.pure (.done (Sum.inl ())))
   0).bind fun (x:Unit⊕Int)=>match x with
  |Sum.inl x=>Comp.pure (-1,())
  |Sum.inr x=>Comp.pure (x,())
def Wa:Option Nat→Int
 |some i=>i
 |none => -1
theorem Bc{xs:List α}{f:α×Unit→Comp (Bool×Unit)}{p:α→Bool}(hl:xs.length<9223372036854775807)(hf:∀x∈xs,(f (x,())).val=some (p x,())):(Hr xs f).val=some (Wa (fnd p xs 0),()):=by
 unfold Hr;have key:∀(ys:List α) (i:Nat),Comp.ZV (fun (s:Nat) x=>if p x=true then .done (Sum.inr ((s:Nat):Int)) else .next (s+1)) (fun _=>(Sum.inl ():Unit⊕Int)) i ys=match fnd p ys i with|some j=>Sum.inr ((j:Nat):Int)|none=>Sum.inl ():=by
  intro ys
  induction ys with
  |nil=>intro i;rfl
  |cons y ys ih =>
   intro i;simp only[Comp.ZV,fnd]
   cases hp:p y with
   |true=>rfl
   |false=>exact ih (i+1)
 have h:=Comp.Yf (fun (s:Nat) i=>((i:Nat):Int)) xs (fun (s:Nat) x=>if p x=true then .done (Sum.inr ((s:Nat):Int)) else .next (s+1)) (fun _=>(Sum.inl ():Unit⊕Int)) (fun s i=>s=i)
  (body:=fun (x:Int)=>if ltI x (zF xs)=true then
     (idx xs x).bind fun x_1=>(f (x_1,())).bind fun x_2=>if x_2.1=true then Comp.pure (.done (Sum.inr x)) else Comp.pure (.next (zJ .i64 x 1))
    else Comp.pure (.done (Sum.inl ())))
  (fun s i x hx hs=>by
   subst hs;have hlt:=zO hx
   have h1:(s:Int)<zF xs:=by rw[zC];omega
   simp only[zH,h1,if_true,zA,zL hx,zLB,hf x (zLI hx),zM (show s<9223372036854775807 by omega)]
   cases hp:p x<;>simp[Comp.Step.map])
  (fun s i x s' hx hs he=>by
   subst hs
   cases hp:p x with
   |true=>rw[hp]at he;cases he
   |false=>rw[hp]at he;cases he;rfl)
  (fun s hs=>by
   have h1:¬((xs.length:Int)<zF xs):=by rw[zC];omega
   simp only[zH,h1,if_false,Comp.zB]) 0 rfl
 rw[key xs 0]at h;rw[zA];refine(congrArg (fun o=>Option.bind o _) h).trans ?_
 rw[zLB];cases fnd p xs 0<;>exact Comp.zB _
def zHY(x0:List α)(x1:α×Unit→Comp (Bool×Unit)):Comp (Bool×Unit):=(Hr x0 x1).bind fun x=>Comp.pure (geI x.1 0,())
theorem ZP{xs:List α}{f:α×Unit→Comp (Bool×Unit)}{p:α→Bool}(hl:xs.length<9223372036854775807)(hf:∀x∈xs,(f (x,())).val=some (p x,())):(zHY xs f).val=some (xs.any p,()):=by
 unfold zHY;rw[zA,Bc hl hf,zLB,Comp.zB,←mV (i:=0)];cases fnd p xs 0<;>simp[Wa,geI]
end Go.Geo
end
noncomputable section
namespace Go.Geo
open Go Go.Eng Go.Lift Go.Den
variable {α β γ δ ε σ τ:Type}
def Sb(z:α)(x0:Int):Comp (List α×Unit) :=
 jn
  (fun (x:Unit)=>jn (fun (x:List α)=>Comp.pure (x,()))
    fun (j:List α→Comp (List α×Unit))=>if gtI (gi .i64 x0 0) 0=true then
     jn (fun (x:List α)=>j x)
      fun (j:List α→Comp (List α×Unit))=>((sub [] 0 0).bind fun (x:List Unit)=>Comp.pure ()).bind fun x=>(mk (gi .i64 x0 0) z).bind fun zs=>(sub zs 0 0).bind fun ys=>j ys
    else j [])
  fun (j:Unit→Comp (List α×Unit))=>if ltI x0 0=true then Comp.fail else j ()
theorem Ny{z:α}{n:Nat}(h:n≤LIM):(Sb z n).val=some ([],()):=by
 have hL:=YW;unfold Sb;simp only[vZ,zH,yd,YK (show -9223372036854775808≤(n:Int)-0∧(n:Int)-0<9223372036854775808 by omega)]
 rw[if_neg (by omega)]
 rw[Xr];split
 ·have h1:(sub ([]:List Unit) 0 0).val=some []:=by rw[YQ (by simp)];rfl
  have h2:(mk ((n:Int)-0) z).val=some (List.replicate n z):=by rw[mk_val (by omega)];simp
  have h3:(sub (List.replicate n z) 0 0).val=some []:=by rw[YQ (by simp)];simp
  simp only[zA,h1,h2,h3,zLB,Comp.zB]
 ·exact Comp.zB _
def zHc(z:α)(x0:List (List α)):Comp (List α×Unit) :=
 (Comp.loop
   (fun (x:Int×Int)=>if ltI x.2 (zF x0)=true then
     (idx x0 x.2).bind fun x_1=>jn (fun (x_2:Unit)=>Comp.pure (.next (zJ .i64 x.1 (zF x_1),zJ .i64 x.2 1)))
       fun (j:Unit→Comp (Comp.Step (Int×Int) Int))=>if ltI (zJ .i64 x.1 (zF x_1)) 0=true then Comp.fail else j ()
    else Comp.pure (.done x.1))
   (0,0)).bind fun x=>(Sb z x).bind fun y=>(Comp.loop
     (fun (x:List α×Int)=>if ltI x.2 (zF x0)=true then
       (idx x0 x.2).bind fun x_1=>(app x.1 x_1).bind fun zs=>Comp.pure (.next (zs,zJ .i64 x.2 1))
      else Comp.pure (.done x.1))
     (y.1,0)).bind fun x=>Comp.pure (x,())
theorem YJ{xs:List (List α)}{i:Nat}{x:List α}(h:xs[i]?=some x):(xs.take (i+1)).flatten=(xs.take i).flatten++x:=by
 rw[List.take_add_one,h];simp
theorem td{xs:List (List α)}(i:Nat):(xs.take i).flatten.length≤xs.flatten.length:=by
 conv=>rhs;rw[←List.take_append_drop i xs,List.flatten_append,zLE]
 omega
theorem K0{z:α}{xs:List (List α)}(h:xs.flatten.length≤LIM)(hn:xs.length<9223372036854775807):(zHc z xs).val=some (xs.flatten,()):=by
 have hL:=YW;unfold zHc;have h1:=Comp.Yf (fun (s:Nat) i=>(((s:Nat):Int),((i:Nat):Int))) xs (fun (s:Nat) x=>.next (s+x.length)) (fun s=>((s:Nat):Int)) (fun s i=>s=(xs.take i).flatten.length)
  (body:=fun (x:Int×Int)=>if ltI x.2 (zF xs)=true then
     (idx xs x.2).bind fun x_1=>jn (fun (x_2:Unit)=>Comp.pure (.next (zJ .i64 x.1 (zF x_1),zJ .i64 x.2 1)))
       fun (j:Unit→Comp (Comp.Step (Int×Int) Int))=>if ltI (zJ .i64 x.1 (zF x_1)) 0=true then Comp.fail else j ()
    else Comp.pure (.done x.1))
  (fun s i x hx hs=>by
   have hlt:=zO hx;have h1:(i:Int)<zF xs:=by rw[zC];omega
   have h2:s+x.length≤LIM:=by
    have:=td (xs:=xs) (i+1);rw[YJ hx,zLE]at this;omega
   have h3:zJ .i64 (s:Int) (zF x)=((s+x.length:Nat):Int):=by rw[zC,yh (by omega)];omega
   simp only[vZ,zH,h1,if_true,zA,zL hx,zLB,h3];rw[if_neg (by omega),Comp.zB,zM (show i<9223372036854775807 by omega)]
   rfl)
  (fun s i x s' hx hs he=>by cases he;rw[YJ hx,zLE,←hs])
  (fun s hs=>by
   have h1:¬((xs.length:Int)<zF xs):=by rw[zC];omega
   simp only[zH,h1,if_false,Comp.zB]) 0 (by simp)
 have hsum:Comp.ZV (fun (s:Nat) (x:List α)=>(.next (s+x.length):Comp.Step Nat Int)) (fun s=>((s:Nat):Int)) 0 xs=((xs.flatten.length:Nat):Int):=by
  have key:∀(ys:List (List α)) (s:Nat),Comp.ZV (fun (s:Nat) (x:List α)=>(.next (s+x.length):Comp.Step Nat Int)) (fun s=>((s:Nat):Int)) s ys=((s+ys.flatten.length:Nat):Int):=by
   intro ys
   induction ys with
   |nil=>intro s;simp[Comp.ZV]
   |cons y ys ih=>intro s;simp only[Comp.ZV];rw[ih];simp;omega
  rw[key];simp
 rw[hsum]at h1;have h2:=Comp.Yf (fun (s:List α) i=>(s,((i:Nat):Int))) xs (fun (s:List α) x=>.next (s++x)) (fun s=>s) (fun s i=>s=(xs.take i).flatten)
  (body:=fun (x:List α×Int)=>if ltI x.2 (zF xs)=true then
       (idx xs x.2).bind fun x_1=>(app x.1 x_1).bind fun zs=>Comp.pure (.next (zs,zJ .i64 x.2 1))
      else Comp.pure (.done x.1))
  (fun s i x hx hs=>by
   have hlt:=zO hx;have h1:(i:Int)<zF xs:=by rw[zC];omega
   have h2:s.length+x.length≤LIM:=by
    have:=td (xs:=xs) (i+1);rw[YJ hx,zLE]at this;rw[hs];omega
   simp only[zH,h1,if_true,zA,zL hx,zLB,yG h2,Comp.zB,zM (show i<9223372036854775807 by omega)]
   rfl)
  (fun s i x s' hx hs he=>by cases he;rw[YJ hx,←hs])
  (fun s hs=>by
   have h1:¬((xs.length:Int)<zF xs):=by rw[zC];omega
   simp only[zH,h1,if_false,Comp.zB]) [] (by simp)
 have hcat:Comp.ZV (fun (s:List α) (x:List α)=>(.next (s++x):Comp.Step (List α) (List α))) (fun s=>s) [] xs=xs.flatten:=by
  have key:∀(ys:List (List α)) (s:List α),Comp.ZV (fun (s:List α) (x:List α)=>(.next (s++x):Comp.Step (List α) (List α))) (fun s=>s) s ys=s++ys.flatten:=by
   intro ys
   induction ys with
   |nil=>intro s;simp[Comp.ZV]
   |cons y ys ih=>intro s;simp only[Comp.ZV];rw[ih];simp
  rw[key];simp
 rw[hcat]at h2;rw[zA];refine(congrArg (fun o=>Option.bind o _) h1).trans ?_
 rw[zLB,zA,Ny h,zLB,zA];refine(congrArg (fun o=>Option.bind o _) h2).trans ?_
 rw[zLB,Comp.zB]
def zHa(x0:List α):Comp (List α×Unit):=amb (K3 x0) (Comp.pure ([],())) ((app [] x0).bind fun zs=>Comp.pure (zs,()))
theorem YV{xs:List α}(h:xs.length≤LIM):(zHa xs).val=some (xs,()):=by
 unfold zHa;refine V5 (fun he=>?_) ?_
 ·cases xs with
  |nil=>exact Comp.zB _
  |cons=>cases he
 ·rw[zA,yG (by simpa using h),zLB];simp
def zHX(z:α)(xs:List α)(x0:α×Unit→Comp (Bool×Unit)):Comp (List α) :=
 (Hr xs x0).bind fun x=>if eqI x.1 (-1)=true then Comp.pure xs
  else
   (Comp.loop
      (fun (x:List α×Int×Int)=>if ltI x.2.2 (zF x.1)=true then
        (idx x.1 x.2.2).bind fun x_1=>(x0 (x_1,())).bind fun x_2=>jn (fun (x_3:List α×Int)=>Comp.pure (.next (x_3.1,x_3.2,zJ .i64 x.2.2 1)))
           fun (j:List α×Int→Comp (Comp.Step (List α×Int×Int) (List α×Int)))=>if ntB x_2.1=true then (inb x.1.length x.2.1).bind fun x_3=>j (jZ x.1 x.2.1 x_1,zJ .i64 x.2.1 1)
           else j (x.1,x.2.1)
       else Comp.pure (.done (x.1,x.2.1)))
      (xs,x.1,zJ .i64 x.1 1)).bind fun x=>((sub x.1 x.2 (zF x.1)).bind fun x=>Comp.pure ()).bind fun x_1=>(sub x.1 (Int.ofNat x.2.toNat) (zF x.1)).bind fun x_2=>jn (fun (x:List α)=>Comp.pure x)
       fun (j:List α→Comp (List α))=>(sub (List.take x.2.toNat x.1++List.replicate (x.1.length.sub x.2.toNat) z) 0 x.2).bind fun ys=>j ys
theorem G5{z:α}{l:List α}{k:Nat}(h:k≤l.length):(((sub l (k:Int) (zF l)).bind fun x=>Comp.pure ()).bind fun x_1=>(sub l (Int.ofNat (k:Int).toNat) (zF l)).bind fun x_2=>jn (fun (x:List α)=>Comp.pure x)
       fun (j:List α→Comp (List α))=>(sub (List.take (k:Int).toNat l++List.replicate (l.length.sub (k:Int).toNat) z) 0 (k:Int)).bind fun ys=>j ys).val=some (l.take k):=by
 have e:Int.ofNat (k:Int).toNat=(k:Int):=by simp
 have e2:(k:Int).toNat=k:=by simp
 rw[e,e2];have h1:(sub l (k:Int) (zF l)).val=some (l.drop k):=by rw[YQ (by rw[zC];omega)];simp[zC]
 have h2:(sub (List.take k l++List.replicate (l.length.sub k) z) 0 (k:Int)).val=some (l.take k):=by
  rw[YQ (by simp only[zLE,List.length_take,List.length_replicate];omega)]
  simp[List.take_append_of_le_length,h,Nat.min_eq_left h]
 simp only[zA,h1,zLB,Comp.zB,vZ,h2]
theorem G4{z:α}{xs:List α}{f:α×Unit→Comp (Bool×Unit)}{p:α→Bool}(hl:xs.length<9223372036854775807)(hf:∀x∈xs,(f (x,())).val=some (p x,())):(zHX z xs f).val=some (xs.filter fun x=>!p x):=by
 unfold zHX;rw[zA,Bc hl hf,zLB]
 cases hfn:fnd p xs 0 with
 |none =>
  have hno:xs.any p=false:=by rw[←mV (i:=0),hfn];rfl
  simp only[Wa,eqI,decide_true,if_true,Comp.zB];rw[List.filter_eq_self.2];intro x hx;rw[List.any_eq_false]at hno;simpa using hno x hx
 |some i =>
  obtain⟨_,x,hx,hp,hbef⟩:=Bh hfn;rw[Nat.sub_zero]at hx hbef;have hlt:=zO hx
  have hne:¬((i:Int) = -1):=by omega
  simp only[Wa,yw,hne,if_false];have hpre:(xs.take (i+1)).filter (fun x=>!p x)=xs.take i:=by
   rw[List.take_add_one,hx,List.filter_append];simp only[Option.toList_some,List.filter_cons,hp,Bool.not_true,Bool.false_eq_true,if_false,List.filter_nil,List.append_nil];rw[List.filter_eq_self];intro y hy;obtain⟨k,hk⟩:=List.mem_iff_getElem?.1 hy;have hkl:=zO hk
   rw[List.length_take]at hkl;rw[List.getElem?_take_of_lt (by omega)]at hk
   simp[hbef k y (by omega) hk]
  -- the state: what is kept,then what was not walked over yet
  let st:List α→Nat→List α×Int×Int:=fun l k=>(l,(((xs.take k).filter fun x=>!p x).length:Int),(k:Int))
  have inv:∀(m k:Nat) (l:List α),k+m=xs.length→i+1≤k→l.length=xs.length→l.take ((xs.take k).filter fun x=>!p x).length=(xs.take k).filter (fun x=>!p x)→l.drop k=xs.drop k→∃l',l'.length=xs.length∧l'.take (xs.filter fun x=>!p x).length=xs.filter (fun x=>!p x)∧(Comp.loop
      (fun (x:List α×Int×Int)=>if ltI x.2.2 (zF x.1)=true then
        (idx x.1 x.2.2).bind fun x_1=>(f (x_1,())).bind fun x_2=>jn (fun (x_3:List α×Int)=>Comp.pure (.next (x_3.1,x_3.2,zJ .i64 x.2.2 1)))
           fun (j:List α×Int→Comp (Comp.Step (List α×Int×Int) (List α×Int)))=>if ntB x_2.1=true then (inb x.1.length x.2.1).bind fun x_3=>j (jZ x.1 x.2.1 x_1,zJ .i64 x.2.1 1)
           else j (x.1,x.2.1)
       else Comp.pure (.done (x.1,x.2.1)))
      (st l k)).val=some (l',((xs.filter fun x=>!p x).length:Int)):=by
   intro m
   induction m with
   |zero =>
    intro k l hk hik hll ht hd;have hk':k=xs.length:=by omega
    subst hk';rw[List.take_length]at ht;refine⟨l,hll,ht,?_⟩;rw[zN];have h1:¬((xs.length:Int)<zF l):=by rw[zC,hll];omega
    simp only[st,zH,h1,if_false,Comp.zB,zLB,List.take_length]
   |succ m ih =>
    intro k l hk hik hll ht hd;have hkl:k<xs.length:=by omega
    obtain⟨y,hy⟩:∃y,xs[k]?=some y:=⟨xs[k],by simp[hkl]⟩
    have hly:l[k]?=some y:=by
     have h1:(l.drop k)[0]?=some y:=by rw[hd];simpa using hy
     simpa using h1
    have h1:(k:Int)<zF l:=by rw[zC,hll];omega
    have hcnt:((xs.take k).filter fun x=>!p x).length≤k:=by
     have:=List.length_filter_le (fun x=>!p x) (xs.take k)
     rw[List.length_take]at this;omega
    -- at least one was dropped
    have hcnt':((xs.take k).filter fun x=>!p x).length<k:=by
     have:xs.take k=xs.take (i+1)++(xs.take k).drop (i+1):=by
      conv=>lhs;rw[←List.take_append_drop (i+1) (xs.take k)]
      rw[List.take_take,Nat.min_eq_left hik]
     rw[this,List.filter_append,hpre,zLE];have h2:=List.length_filter_le (fun x=>!p x) ((xs.take k).drop (i+1))
     rw[List.length_drop,List.length_take]at h2;rw[List.length_take];omega
    have hstep:xs.take (k+1)=xs.take k++[y]:=by rw[List.take_add_one,hy];rfl
    have hd':l.drop (k+1)=xs.drop (k+1):=by rw[←List.drop_drop,hd,List.drop_drop]
    rw[zN];have e1:(idx l (k:Int)).val=some y:=zL hly
    have e2:=hf y (zLI hy)
    cases hpy:p y with
    |true =>
     obtain⟨l',g1,g2,g3⟩:=ih (k+1) l (by omega) (by omega) hll (by rw[hstep,List.filter_append];simpa[hpy] using ht) hd'
     refine⟨l',g1,g2,?_⟩;rw[←g3];simp only[st,zH,h1,if_true,zA,e1,zLB,e2,hpy,vZ,yM,Bool.not_true,Bool.false_eq_true,if_false,Comp.zB,zM (show k<9223372036854775807 by omega)]
     rw[hstep,List.filter_append];simp[hpy]
    |false =>
     have hc:((xs.take k).filter fun x=>!p x).length<l.length:=by omega
     obtain⟨l',g1,g2,g3⟩:=ih (k+1) (l.set ((xs.take k).filter fun x=>!p x).length y) (by omega) (by omega) (by simpa using hll)
      (by
       rw[hstep,List.filter_append];simp only[List.filter_cons,hpy,Bool.not_false,if_true,List.filter_nil,zLE,zLG];rw[List.take_add_one,List.take_set_of_le (zLF _),ht];simp[hc])
      (by rw[List.drop_set_of_lt (by omega)];exact hd')
     refine⟨l',g1,g2,?_⟩;rw[←g3];have e3:(inb l.length (((xs.take k).filter fun x=>!p x).length:Int)).val=some ():=jT (by omega)
     simp only[st,zH,h1,if_true,zA,e1,zLB,e2,hpy,vZ,yM,Bool.not_false,Comp.zB,zM (show k<9223372036854775807 by omega),e3,jZ,Int.toNat_natCast,zM (show ((xs.take k).filter fun x=>!p x).length<9223372036854775807 by omega)]
     rw[hstep,List.filter_append];simp[hpy]
  obtain⟨l',g1,g2,g3⟩:=inv (xs.length-(i+1)) (i+1) xs (by omega) (zLF _) rfl (by rw[hpre];rw[List.length_take,Nat.min_eq_left (by omega)]) rfl
  have hst:st xs (i+1)=(xs,(i:Int),zJ .i64 (i:Int) 1):=by
   show (xs,_,_)=_
   rw[hpre,List.length_take,Nat.min_eq_left (by omega),zM (by omega)]
  rw[hst]at g3;rw[zA];refine(congrArg (fun o=>Option.bind o _) g3).trans ?_
  rw[zLB];refine(G5 (z:=z) ?_).trans ?_
  ·have:=List.length_filter_le (fun x=>!p x) xs;show _≤l'.length;omega
  ·rw[g2]
def J5 [DecidableEq α]:α→List α→List α
 |_,[]=>[]
 |x,y::l=>if y=x then J5 y l else y::J5 y l
def cpc [DecidableEq α]:List α→List α
 | []=>[]
 |x::l=>x::J5 x l
theorem wS [DecidableEq α]{a b:α}:∀ {l:List α} {x:α},J5 x (l++[a,b])=J5 x (l++[a])++if b=a then [] else [b]
 | [],x=>by
  simp only[List.nil_append,J5];by_cases h1:a=x<;>by_cases h2:b=a<;>simp[h1,h2]
 |y::l,x=>by
  simp only[List.cons_append,J5];split
  ·exact wS
  ·rw[wS];rfl
theorem QD [DecidableEq α]{a b:α}{l:List α}:cpc (l++[a,b])=cpc (l++[a])++if b=a then [] else [b]:=by
 cases l with
 |nil=>simp only[List.nil_append,cpc,J5];split<;>simp
 |cons x l=>simp only[List.cons_append,cpc];rw[wS]
theorem JP [DecidableEq α]{xs:List α}{k:Nat}{a b:α}(ha:xs[k]?=some a)(hb:xs[k+1]?=some b):cpc (xs.take (k+1+1))=cpc (xs.take (k+1))++if b=a then [] else [b]:=by
 rw[List.take_add_one (i:=k+1),hb,List.take_add_one,ha];simp only[Option.toList_some,List.append_assoc,List.cons_append,List.nil_append];exact QD
theorem Bv [DecidableEq α]:∀ {l:List α} {x:α},(J5 x l).length≤l.length
 | [],_=>zLF _
 |y::l,x=>by
  have:=Bv (l:=l) (x:=y);simp only[J5];split<;>simp only[zLL]<;>omega
theorem G6 [DecidableEq α]:∀ {l:List α},(cpc l).length≤l.length
 | []=>zLF _
 |x::l=>by have:=Bv (l:=l) (x:=x);simp only[cpc,zLL];omega
end Go.Geo
end
