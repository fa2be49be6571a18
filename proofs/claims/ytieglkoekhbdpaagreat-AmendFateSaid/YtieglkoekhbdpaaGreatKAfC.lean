/- Lemmas behind a claim. -/
import Derived.Test.YtieglkoekhbdpaaGreatKAfB
set_option linter.unusedSimpArgs false
set_option linter.unusedVariables false
open Go.Lift.Comp (run_bind)
section
namespace Go.Den
open Go Go.RowKit Go.Eng Go.Lift
variable {α β γ δ:Type}
def jZ(xs:List α)(m:Int)(v:α):List α:=xs.set m.toNat v
def Ao(E:VE)(s:S)(i:TI)(k off:Nat)(ψ:AV)(c:S→Comp β):Comp β:=match look s.M k with
 |some (_,.bx nw φ T')=>match ψ.Hu && (ψ.rB && (!ψ.zm && Nat.beq ψ.sz i.sz)),AV.rT ψ i.sz (vQ i.dd) φ true off with
  |true,some φ'=>match φ'.zm with
   |false=>c (s.mod k (.bx nw φ' T'))
   |true=>Comp.fail
  |_,_=>Comp.fail
 |_=>Comp.fail
def An(E:VE)(s:S)(Y:TypeId)(i:TI)(k:Nat)(m:Int)(esz off2:Nat)(ψ:AV)(c:S→Comp β):Comp β:=match look s.M k with
 |some (_,.sl nw t T xs)=>match Nat.beq off2 0 && (Nat.beq i.sz esz && (Nat.beq t.sz i.sz && Nat.beq T Y)),ψ.asT E.G s.M t with
  |true,some v=>c (s.mod k (.sl nw t T (jZ xs m v)))
  |_,_=>Comp.fail
 |_=>Comp.fail
def Ak(E:VE)(s:S)(i:TI)(k:Nat)(m:Int)(esz off2:Nat)(ψ:AV)(c:S→Comp β):Comp β:=match look s.M k with
 |some (_,.sl nw t T xs)=>match Nat.beq t.sz esz && (t.agg && Nat.beq i.τ.sz i.sz),CL t off2 i.τ,ψ.asT E.G s.M i.τ with
  |true,some f,some v=>(idx xs m).bind fun z=>c (s.mod k (.sl nw t T (jZ xs m (f z v))))
  |_,_,_=>Comp.fail
 |_=>Comp.fail
def Ap(E:VE)(s:S)(i:TI)(k off sz:Nat)(m:Int)(esz off2:Nat)(ψ:AV)(c:S→Comp β):Comp β:=match look s.M k with
 |some (_,.bx nw φ T')=>match (φ.at_ sz true true off).bind (HX E.G s.M (sz / esz) i.τ) with
  |some q=>match Nat.beq off2 0 && (Nat.beq i.sz esz && (Nat.beq q.2.1.sz i.sz && (Nat.beq (q.1 * esz) sz && Nat.blt 0 esz))),ψ.asT E.G s.M q.2.1 with
   |true,some v=>match AV.rT (.rd (.arr q.1 q.2.1) (jZ q.2.2 m v)) sz true φ true off with
    |some φ'=>match φ'.zm with
     |false=>c (s.mod k (.bx nw φ' T'))
     |true=>Comp.fail
    |none=>Comp.fail
   |_,_=>Comp.fail
  |none=>Comp.fail
 |_=>Comp.fail
def nu(E:VE)(s:S)(Y:TypeId)(φ ψ:Option AV)(c:S→Comp β):Comp β:=match look E.T Y,φ,ψ with
 |some i,some φ,some ψ=>match φ with
  |.bx k off=>Ao E s i k off ψ c
  |.el k m esz off2=>match Nat.beq off2 0 && Nat.beq i.sz esz with
   |true=>An E s Y i k m esz off2 ψ c
   |false=>Ak E s i k m esz off2 ψ c
  |.ba k off sz m esz off2=>Ap E s i k off sz m esz off2 ψ c
  |_=>Comp.fail
 |_,_,_=>Comp.fail
section
variable {F:Frm} {s:S} {a:Act} {w:World} {X:Cx} {E:VE}
variable {d:Option Tmp} {T Y:TypeId} {pos:String} {aft:Array Edge} {g:Option (Nat×Bool)} {k:S→Comp β}
theorem Cx.KU{X X':Cx}(h1:X'.A=X.A)(h2:X'.F=X.F):X'.B=X.B:=by funext nw;cases nw<;>simp[Cx.B,h1,h2]
theorem C0(hE:E.ok X.P)(h:RelX F s a w X){x z:Operand}:gP F s a w ⟨none,.store Y x z,T,pos,aft,g⟩ (nu E s Y (rdO s.ep s.L [] [] x) (rdO s.ep s.L [] [] z) k) k:=by
 intro nf y hr K Q hK;rw[←h.P];rw[←h.ep]at hr;unfold nu at hr;split at hr
 ·rename_i i φ ψ hi hφ hψ
  have ht:=(hE.T Y i hi).ty;have k1:=h.rd #[x] x φ (by simp) hφ
  have k2:=h.rd #[z] z ψ (by simp) hψ
  split at hr
  ·rename_i kk off
   unfold Ao at hr;split at hr
   ·rename_i st nw φ0 T' hk
    split at hr
    ·rename_i φ' hb hp
     simp only[zLD]at hb;obtain⟨b1,b2,b3,b4⟩:=hb;split at hr
     ·rename_i hfr
      obtain⟨b,cs,m1,m2,m3,m4⟩:=h.m kk _ hk;obtain⟨_,b',m5,m6⟩:=k1;rw[m1]at m5;cases m5;have hv:=AV.v_c b1 k2
      have hl:=AV.len ψ hv;rw[zLC b4]at hl;obtain⟨p1,p2⟩:=AV.EO φ0 hp m3;have p3:=p2 _ hl hv
      rw[←hl]at ht;have hspl:ZR cs.toList off (a.eval z).cells.toList=cs.toList.take off++((a.eval z).cells.toList++cs.toList.drop (off+i.sz)):=by
       unfold ZR;rw[hl]
      refine tI h.ok0 h.base (h.okB nw) ht m6 rfl (vs:=(a.eval z).cells.toList) (by simp) (AV.Qq ψ b2 hv) m2 (by rw[hl];simpa using p1) rfl fun w' q1 q2 q3=>hK _ undef _ (h.mod hk rfl q2 q3 fun X' e1 e2 e3 e4 e5 e6 hle=>?_) (Inv.mod _ _ _) hr
      refine⟨b,(ZR cs.toList off (a.eval z).cells.toList).toArray,by rw[e5];exact m1,?_,?_,hfr⟩
      ·rw[e6,e4,Cx.KU e2 e3];exact q1
      ·show (φ'.sem X' w').c (ZR cs.toList off (a.eval z).cells.toList)
       rw[hspl];exact(φ'.mono hle fun hh=>by rw[hfr]at hh;cases hh).2.2 _ p3
     ·cases hr
    ·cases hr
   ·cases hr
  ·rename_i kk m esz off2
   split at hr
   rotate_left
   ·unfold Ak at hr
    split at hr
    ·rename_i st nw t T' xs hk
     split at hr
     ·rename_i f v hb hf hv
      simp only[zLD]at hb;obtain⟨b1,b2,b3⟩:=hb;obtain⟨zx,hz,hr⟩:=run_bind hr;obtain⟨_,m2,⟨p,nn,cc,m3,m4⟩,m5⟩:=k1;have hO:=h.m kk _ hk
      have hrv:=AV.Z5 hE.G h.m hv k2;have hne:=h.pos kk _ hk rfl
      refine Cs hf b2 (zLC b1) h.ok0 h.base (h.okB nw) ht (zLC b3) rfl m5 hO rfl hrv hz hne.1 fun w' q1 q2 q3=>hK _ undef _ (h.mod hk rfl q2 q3 fun X' e1 e2 e3 e4 e5 e6 hle=>?_) (Inv.mod _ _ _) hr
      show zu _ _ _ _ _ _ _ _
      rw[e6,e1,e4,e5,Cx.KU e2 e3];exact q1
     ·cases hr
    ·cases hr
   unfold An at hr;split at hr
   ·rename_i st nw t T' xs hk
    split at hr
    ·rename_i v hb hv
     simp only[zLD]at hb;obtain⟨b1,b2,b3,b4⟩:=hb;have b1:=zLC b1
     have b2:=zLC b2;have b3:=zLC b3
     have b4:=zLC b4;subst b1 b4;obtain⟨_,m2,⟨p,nn,cc,m3,m4⟩,m5⟩:=k1;have hO:=h.m kk _ hk
     have hlen:nn=xs.length:=by
      obtain⟨vs,g1,g2,_⟩:=hO;obtain⟨ad,cap,g3,_⟩:=g1.slv;rw[m3]at g3;cases g3;exact g2.len
     have hrv:=AV.Z5 hE.G h.m hv k2;have hne:=h.pos kk _ hk rfl
     rw[←b2]at m5;refine Ct (r:=t.gr X.P) (Ty.fits X.P _) (by rw[Ty.yk,b3]) h.ok0 h.base (h.okB nw) (n:=0) (ys:=xs.set m.toNat v) ht rfl m5 hO rfl hrv (by unfold Go.Lift.upd;rw[if_pos ⟨m2,by omega⟩];rfl) hne.1 fun w' q1 q2 q3=>hK _ undef _ (h.mod hk rfl q2 q3 fun X' e1 e2 e3 e4 e5 e6 hle=>?_) (Inv.mod _ _ _) hr
     show zu _ _ _ _ _ _ _ _
     rw[e6,e1,e4,e5,Cx.KU e2 e3];exact q1
    ·cases hr
   ·cases hr
  ·rename_i kk off sz m esz off2
   unfold Ap at hr;split at hr
   ·rename_i st nw φ0 T' hk
    split at hr
    ·rename_i q hq
     split at hr
     ·rename_i v hb hv
      simp only[zLD]at hb;obtain⟨b1,b2,b3,b4,b5⟩:=hb;have b1:=zLC b1
      have b2:=zLC b2;have b3:=zLC b3
      have b4:=zLC b4;rw[za]at b5;have h0:0<esz:=by simpa using b5
      subst b1;split at hr
      ·rename_i φ' hp
       split at hr
       ·rename_i hfr
        obtain⟨b,cs,m1,m2,m3,m4⟩:=h.m kk _ hk;obtain⟨_,m7,m8,b',m5,m6⟩:=k1;rw[m1]at m5;cases m5
        cases hat:φ0.at_ sz true true off with
        |none=>rw[hat]at hq;cases hq
        |some ψ0 =>
         rw[hat]at hq;obtain⟨c1,c2,c3,f1,f2,f3,f4,_,_⟩:=(AV.Hw φ0 hat m3).h;obtain⟨l1,l2⟩:=Rx hE.G h.m hq f4;have hsz:(q.2.1.gr X.P).sz=esz:=by rw[Ty.yk,b3,b2]
         have hrv:=AV.Z5 hE.G h.m hv k2;have hvc:=uW hrv
         have hl:=(q.2.1.gr X.P).len hvc;rw[hsz]at hl;have hlt:m.toNat<q.2.2.length:=by
          rw[l1];have:m.toNat * esz+esz≤q.1 * esz:=by rw[b4];exact m8
          have:(m.toNat+1) * esz≤q.1 * esz:=by rw[Nat.add_mul,Nat.one_mul];exact this
          exact Nat.le_of_mul_le_mul_right this h0
         obtain⟨d1,d2,d3,g1,g2,g3,g4,g5⟩:=jv.split l2 m.toNat q.2.2[m.toNat] (by simp[hlt])
         have g6:=g5 v _ hvc;rw[hsz]at g2 g3;have hds:(d1++((a.eval z).cells.toList++d3)).length=sz:=by
          rw[←f3,g1];simp only[zLE];omega
         obtain⟨p1,p2⟩:=AV.EO φ0 hp m3;have p3:=p2 _ hds ⟨by unfold jZ;rw[List.length_set];exact l1,g6⟩
         have hi:i.sz=(a.eval z).cells.toList.length:=by rw[hl];exact b2
         rw[hi]at ht;have hspl:ZR cs.toList (off+m.toNat * esz+0) (a.eval z).cells.toList=cs.toList.take off++((d1++((a.eval z).cells.toList++d3))++cs.toList.drop (off+sz)):=by
          unfold ZR;rw[hl,f1,g1];have a1:(c1++(d1++(d2++d3)++c3)).take (off+m.toNat * esz+0)=c1++d1:=by
           rw[show c1++(d1++(d2++d3)++c3)=(c1++d1)++(d2++d3++c3) by simp[List.append_assoc]]
           rw[List.take_append_of_le_length (by simp only[zLE];omega),List.take_of_length_le (by simp only[zLE];omega)]
          have a2:(c1++(d1++(d2++d3)++c3)).drop (off+m.toNat * esz+0+esz)=d3++c3:=by
           rw[show c1++(d1++(d2++d3)++c3)=(c1++d1++d2)++(d3++c3) by simp[List.append_assoc]]
           rw[List.drop_append_of_le_length (by simp only[zLE];omega),List.drop_of_length_le (by simp only[zLE];omega),List.nil_append]
          have a3:(c1++(d1++(d2++d3)++c3)).take off=c1:=by
           rw[List.take_append_of_le_length (by omega),List.take_of_length_le (by omega)]
          have a4:(c1++(d1++(d2++d3)++c3)).drop (off+sz)=c3:=by
           have:(d1++(d2++d3)).length=sz:=by rw[←g1];exact f3
           rw[show c1++(d1++(d2++d3)++c3)=(c1++(d1++(d2++d3)))++c3 by simp[List.append_assoc]]
           rw[List.drop_append_of_le_length (by simp only[zLE]at this ⊢;omega),List.drop_of_length_le (by simp only[zLE]at this ⊢;omega),List.nil_append]
          rw[a1,a2,a3,a4];simp[List.append_assoc]
         have hbound:off+m.toNat * esz+0+(a.eval z).cells.toList.length≤cs.size:=by
          rw[hl];have:cs.size=cs.toList.length:=by simp
          rw[this];omega
         refine tI h.ok0 h.base (h.okB nw) ht m6 rfl (vs:=(a.eval z).cells.toList) (by simp) ((q.2.1.gr X.P).one hvc) m2 hbound rfl fun w' q1 q2 q3=>hK _ undef _ (h.mod hk rfl q2 q3 fun X' e1 e2 e3 e4 e5 e6 hle=>?_) (Inv.mod _ _ _) hr
         refine⟨b,(ZR cs.toList (off+m.toNat * esz+0) (a.eval z).cells.toList).toArray,by rw[e5];exact m1,?_,?_,hfr⟩
         ·rw[e6,e4,Cx.KU e2 e3];exact q1
         ·show (φ'.sem X' w').c (ZR cs.toList (off+m.toNat * esz+0) (a.eval z).cells.toList)
          rw[hspl];exact(φ'.mono hle fun hh=>by rw[hfr]at hh;cases hh).2.2 _ p3
       ·cases hr
      ·cases hr
     ·cases hr
    ·cases hr
   ·cases hr
  ·cases hr
 ·cases hr
def Je:List (Option TypeId)→Ty→Bool
 |none::ks,.cons a b=>a.closed && Je ks b
 | [],.nil=>true
 |_,_=>false
def slT:(a:Ty)→a.D→Option ((t:Ty)×List t.D)
 |.sl e,y=>some ⟨e,y⟩
 |_,_=>none
def YS:List (Option TypeId)→(rs:Ty)→rs.D→Option (TypeId×(t:Ty)×List t.D)
 |some T::ks,.cons a b,y=>match Je ks b,slT a y.1 with
  |true,some q=>some (T,q)
  |_,_=>none
 |none::ks,.cons a b,y=>match a.closed with
  |true=>YS ks b y.2
  |false=>none
 |_,_,_=>none
def HQ(k:Nat):List (Option TypeId)→(rs:Ty)→rs.D→AV
 |some _::ks,.cons _ b,y=>.pr (.ob k) (HQ k ks b y.2)
 |none::ks,.cons a b,y=>.pr (.rd a y.1) (HQ k ks b y.2)
 |_,_,_=>.un
def Hf(k:Nat)(ks:List (Option TypeId))(rs:Ty)(y:rs.D):AV:=match HQ k ks rs y with
 |.pr φ .un=>φ
 |φ=>.tp φ
theorem wc{P:Program}{O:zR}{B:Nat}{w1:World}{k:Nat}:∀ {ks:List (Option TypeId)} {rs:Ty} {y:rs.D} {vs:List Value},Je ks rs=true→Y6 P O B w1 ks rs vs y→∀(X':Cx) (w2:World),X'.P=P→((HQ k ks rs y).sem X' w2).l vs
 |none::ks,.cons a b,y,vs,hc,h,X',w2,hP=>by
  simp only[Je,zLD]at hc;obtain⟨v,vs',h1,h2,h3,_⟩:=h;refine⟨v,vs',h1,?_,wc hc.2 h3 X' w2 hP⟩;show (a.gr X'.P).v _ _ _ _
  rw[hP];exact XT hc.1 h2
 | [],.nil,y,vs,hc,h,X',w2,hP=>h
 | [],.int _,_,_,h,_,_,_,_ | [],.bool,_,_,h,_,_,_,_ | [],.str,_,_,h,_,_,_,_ | [],.sl _,_,_,h,_,_,_,_ | [],.cons ..,_,_,h,_,_,_,_ | [],.arr ..,_,_,h,_,_,_,_ | [],.box ..,_,_,h,_,_,_,_ | [],.fn ..,_,_,h,_,_,_,_ | [],.seq ..,_,_,h,_,_,_,_ | [],.slo ..,_,_,h,_,_,_,_ | [],.mp ..,_,_,h,_,_,_,_=>by cases h
 |some _::_,.int _,_,_,h,_,_,_,_|some _::_,.bool,_,_,h,_,_,_,_|some _::_,.str,_,_,h,_,_,_,_|some _::_,.sl _,_,_,h,_,_,_,_|some _::_,.nil,_,_,h,_,_,_,_|some _::_,.cons ..,_,_,h,_,_,_,_|some _::_,.arr ..,_,_,h,_,_,_,_|some _::_,.box ..,_,_,h,_,_,_,_|some _::_,.fn ..,_,_,h,_,_,_,_|some _::_,.seq ..,_,_,h,_,_,_,_|some _::_,.slo ..,_,_,h,_,_,_,_|some _::_,.mp ..,_,_,h,_,_,_,_=>by cases h
 |none::_,.int _,_,_,h,_,_,_,_|none::_,.bool,_,_,h,_,_,_,_|none::_,.str,_,_,h,_,_,_,_|none::_,.sl _,_,_,h,_,_,_,_|none::_,.nil,_,_,h,_,_,_,_|none::_,.arr ..,_,_,h,_,_,_,_|none::_,.box ..,_,_,h,_,_,_,_|none::_,.fn ..,_,_,h,_,_,_,_|none::_,.seq ..,_,_,h,_,_,_,_|none::_,.slo ..,_,_,h,_,_,_,_|none::_,.mp ..,_,_,h,_,_,_,_=>by cases h
theorem Qk:∀ {a:Ty} {y:a.D} {q:(t:Ty)×List t.D},slT a y=some q→∃e:a=.sl q.1,Ty.cast e y=q.2
 |.sl e,y,q,h=>by cases h;exact⟨rfl,rfl⟩
 |.int _,_,_,h|.bool,_,_,h|.str,_,_,h|.nil,_,_,h|.cons ..,_,_,h|.arr ..,_,_,h|.box ..,_,_,h|.fn ..,_,_,h|.seq ..,_,_,h|.slo ..,_,_,h|.mp ..,_,_,h=>by cases h
theorem Jv{P:Program}{O:zR}{B:Nat}{w1:World}{k:Nat}:∀ {ks:List (Option TypeId)} {rs:Ty} {y:rs.D} {vs:List Value} {q:TypeId×(t:Ty)×List t.D},YS ks rs y=some q→Y6 P O B w1 ks rs vs y →
  ∃u,Zj (q.2.1.gr P) q.1 B O w1 u q.2.2∧∀(X':Cx),X'.P=P→X'.U k=u→k<X'.n→u.oneCell'=true→((HQ k ks rs y).sem X' w1).l vs
 |some T::ks,.cons a b,y,vs,q,hq,h=>by
  simp only[YS]at hq;split at hq
  ·rename_i q' hc hs
   cases hq
   obtain⟨v,vs',h1,h2,h3,_⟩:=h;obtain⟨e,he⟩:=Qk hs;subst e;refine⟨v,?_,fun X' hP hU hk hv1=>⟨v,vs',h1,⟨hU.symm,hk,hv1⟩,wc hc h3 X' w1 hP⟩⟩
   rw[←he];exact h2
  ·cases hq
 |none::ks,.cons a b,y,vs,q,hq,h=>by
  simp only[YS]at hq;split at hq
  ·rename_i hc
   obtain⟨v,vs',h1,h2,h3,_⟩:=h;obtain⟨u,h4,h5⟩:=Jv (k:=k) hq h3;refine⟨u,h4,fun X' hP hU hk hv1=>⟨v,vs',h1,?_,h5 X' hP hU hk hv1⟩⟩
   show (a.gr X'.P).v _ _ _ _
   rw[hP];exact XT hc h2
  ·cases hq
 | [],_,_,_,_,h,_=>by cases h
 |_::_,.int _,_,_,_,h,_|_::_,.bool,_,_,_,h,_|_::_,.str,_,_,_,h,_|_::_,.sl _,_,_,_,h,_|_::_,.nil,_,_,_,h,_|_::_,.arr ..,_,_,_,h,_|_::_,.box ..,_,_,_,h,_|_::_,.fn ..,_,_,_,h,_|_::_,.seq ..,_,_,_,h,_|_::_,.slo ..,_,_,_,h,_|_::_,.mp ..,_,_,_,h,_=>by simp[YS]at h
theorem GV{X':Cx}{w1:World}{k:Nat}{ks:List (Option TypeId)}{rs:Ty}{y:rs.D}{vs:List Value}{v:Value}(h:((HQ k ks rs y).sem X' w1).l vs)(hne:vs≠[])(ht:kc vs v):(Hf k ks rs y).holds X' w1 v:=by
 have hv:v=tup vs:=ht.resolve_left hne;unfold Hf;split
 ·rename_i φ hφ
  rw[hφ]at h;obtain⟨v1,vs1,h1,h2,h3⟩:=h;rw[show vs1=[] from h3]at h1
  rw[hv,h1];exact h2
 ·rename_i φ hφ
  match vs,hne with
  | [v1],_ =>
   exfalso;cases hL:HQ k ks rs y<;>rw[hL]at h<;>try exact h.elim
   ·cases h
   ·rename_i a b
    obtain⟨_,vs1,h1,_,h3⟩:=h;cases h1;cases b<;>try exact h3.elim
    ·exact hφ _ hL
    ·obtain⟨_,_,h4,_⟩:=h3;cases h4
  |v1::v2::vs,_=>exact⟨_,h,hv⟩
end
theorem Gi{d:Nat}:∀ {l:List Nat},d∈l→gw d l=true
 | [],h=>nomatch h
 |e::l,h=>by
  unfold gw
  cases hb:Nat.beq e d with
  |true=>rfl
  |false =>
   rcases zLH.1 h with rfl|h
   ·rw[Nat.beq_refl]at hb;cases hb
   ·exact Gi h
theorem gE{α:Type}{l m:List (Nat×α)}{t:Nat}{e:α}(h:look (l++m) t=some e):look l t=some e∨(look l t=none∧look m t=some e):=by
 induction l with
 |nil=>exact .inr ⟨rfl,h⟩
 |cons p l ih =>
  simp only[List.cons_append,look]at h ⊢
  cases hb:Nat.beq p.1 t with
  |true=>rw[hb]at h;exact .inl h
  |false=>rw[hb]at h;exact ih h
def AV.els:AV→List AV
 |.pr a b=>a::b.els
 |_=>[]
theorem AV.Rj{X:Cx}{w:World}(φ:AV):∀ {vs:List Value},(φ.sem X w).l vs→vs.length=φ.els.length∧∀(i:Nat) ψ v,φ.els[i]?=some ψ→vs[i]?=some v→ψ.holds X w v:=by
 induction φ with
 |pr a b iha ihb =>
  intro vs h;obtain⟨v,vs',rfl,h1,h2⟩:=h;obtain⟨h3,h4⟩:=ihb h2;refine⟨by simp[AV.els,h3],fun i ψ u hi hu=>?_⟩
  cases i with
  |zero=>simp only[AV.els,List.getElem?_cons_zero,Option.some.injEq]at hi hu;subst hi hu;exact h1
  |succ i=>simp only[AV.els,List.getElem?_cons_succ]at hi hu;exact h4 i ψ u hi hu
 |un=>intro vs h;rw[show vs=[] from h];exact⟨rfl,fun i ψ u hi=>by simp[AV.els]at hi⟩
 |_=>intro vs h;exact False.elim h
def mIn(G:FE)(M:MS):List (Option TypeId)→(ps:Ty)→List AV→Option (ps.D×List Nat)
 |some T::io,.cons (.box e) q,φ::l=>match φ with
  |.bx k off=>match off,look M k with
   |0,some (_,.bx _ c T')=>match Nat.beq T T',c.asT G M e,mIn G M io q l with
    |true,some x,some p=>match gw k p.2 with
     |false=>some ((x,p.1),k::p.2)
     |true=>none
    |_,_,_=>none
   |_,_=>none
  |_=>none
 |none::io,.cons a q,φ::l=>match φ.asT G M a,mIn G M io q l with
  |some x,some p=>some ((x,p.1),p.2)
  |_,_=>none
 | [],.nil,[]=>some ((),[])
 |_,_,_=>none
inductive MSh:List (Option TypeId)→Ty→List AV→Prop
 |n:MSh [] .nil []
 |b {T io e q φ l}:MSh (some T::io) (.cons (.box e) q) (φ::l)
 |v {io a q φ l}:MSh (none::io) (.cons a q) (φ::l)
theorem uB{G:FE}{M:MS}{io:List (Option TypeId)}{ps:Ty}{l:List AV}{r}(h:mIn G M io ps l=some r):MSh io ps l:=by
 cases io with
 |nil=>cases ps<;>cases l<;>first|exact .n|(simp[mIn]at h)
 |cons o io =>
  cases o with
  |none=>cases ps<;>cases l<;>first|exact .v|(simp[mIn]at h)
  |some T =>
   cases ps with
   |cons p q=>cases p<;>cases l<;>first|exact .b|(simp[mIn]at h)
   |_=>cases l<;>(simp[mIn]at h)
theorem mO{G:FE}{M:MS}{T io e q φ l}{x:(Ty.cons (.box e) q).D}{ks:List Nat}(h:mIn G M (some T::io) (.cons (.box e) q) (φ::l)=some (x,ks)) :
  ∃k st nw c ks',φ=.bx k 0∧look M k=some (st,.bx nw c T)∧c.asT G M e=some x.1∧mIn G M io q l=some (x.2,ks')∧ks=k::ks'∧gw k ks'=false:=by
 unfold mIn at h;split at h
 ·rename_i k off
  split at h
  ·rename_i st nw c T' hk
   split at h
   ·rename_i x1 p hT hc hp
    split at h
    ·rename_i hmem
     cases h
     have hTT:T=T':=zLC hT;subst hTT;exact⟨k,st,nw,c,p.2,rfl,hk,hc,hp,rfl,hmem⟩
    ·cases h
   ·cases h
  ·cases h
 ·cases h
theorem mN{G:FE}{M:MS}{io a q φ l}{x:(Ty.cons a q).D}{ks:List Nat}(h:mIn G M (none::io) (.cons a q) (φ::l)=some (x,ks)):φ.asT G M a=some x.1∧mIn G M io q l=some (x.2,ks):=by
 unfold mIn at h;split at h
 ·rename_i x1 p hx hp;cases h;exact⟨hx,hp⟩
 ·cases h
def BK(X:Cx):List Nat→List Nat→Prop
 | [],[]=>True
 |k::ks,b::bl=>X.U k=.pointer (some ⟨b,0,none⟩)∧X.O b=X.ι k∧BK X ks bl
 |_,_=>False
def S6(M:MS)(k:Nat):Prop:=∃e,look M k=some e∧e.2.own=true
theorem zDI{X:Cx}{w:World}{G:FE}(hG:FOk X.P G){M:MS}(hM:yF M X w)(hinj:∀k k' e e',look M k=some e→look M k'=some e'→e.2.own=true→e'.2.own=true→X.ι k=X.ι k'→k=k')(hpos:∀k e,look M k=some e→e.2.own=true→X.ι k≠0) :
  ∀ {io:List (Option TypeId)} {ps:Ty} {l:List AV} {x:ps.D} {ks:List Nat} {vs:List Value},mIn G M io ps l=some (x,ks)→vs.length=l.length→(∀(i:Nat) φ v,l[i]?=some φ→vs[i]?=some v→φ.holds X w v) →
   ∃bl,MIn X.P X.O w io ps bl vs x∧BK X ks bl∧(∀k∈ks,S6 M k)∧(∀b∈bl,∃k∈ks,X.O b=X.ι k):=by
 intro io
 induction io with
 |nil =>
  intro ps l x ks vs h hl hv;cases uB h;simp only[mIn]at h;cases h;have:vs=[]:=List.length_eq_zero_iff.1 hl
  subst this;exact⟨[],⟨rfl,rfl⟩,trivial,by simp,by simp⟩
 |cons o io ih =>
  intro ps l x ks vs h hl hv
  cases uB h with
  | @b T _ e q φ l' =>
   obtain⟨k,st,nw,c,ks',rfl,hk,hc,hp,rfl,hmem⟩:=mO h
   cases vs with
   |nil=>simp at hl
   |cons v vs' =>
   have hφ:=hv 0 _ v rfl rfl;obtain⟨b,cs,h1,h2,h3,h4⟩:=hM k _ hk;obtain⟨_,b',h5,rfl⟩:=(hφ:k<X.n∧∃b,X.U k=.pointer (some ⟨b,0,none⟩)∧v=.pointer (some ⟨b,0,none⟩));rw[h1]at h5;simp only[Value.pointer.injEq,Option.some.injEq,Addr.mk.injEq,and_true]at h5;subst h5
   obtain⟨bl,g1,g2,g3,g4⟩:=ih (vs:=vs') (l:=l') hp (by simpa using hl) (fun i φ v hi hv'=>hv (i+1) φ v (by simpa using hi) (by simpa using hv'))
   have hkk:S6 M k:=⟨_,hk,rfl⟩;have hnk:k ∉ ks':=fun hin=>by rw[Gi hin]at hmem;cases hmem
   refine⟨b::bl,⟨b,bl,vs',cs,rfl,rfl,h2.own,?_,fun c' hc'=>?_,(AV.jf hG c hM).vc hc h3,g1⟩,⟨h1,h2.tag,g2⟩,fun j hj=>?_,fun c' hc'=>?_⟩
   ·rw[h2.tag];exact hpos k _ hk rfl
   ·obtain⟨j,hj,hj2⟩:=g4 c' hc'
    rw[h2.tag,hj2];obtain⟨e',he',ho'⟩:=g3 j hj;intro heq;exact hnk (hinj j k _ _ he' hk ho' rfl heq ▸ hj)
   ·rcases zLH.1 hj with rfl|hj
    ·exact hkk
    ·exact g3 j hj
   ·rcases zLH.1 hc' with rfl|hc'
    ·exact⟨k,by simp,h2.tag⟩
    ·obtain⟨j,hj,hj2⟩:=g4 c' hc';exact⟨j,by simp[hj],hj2⟩
  | @v _ a q φ l' =>
   obtain⟨hx,hp⟩:=mN h
   cases vs with
   |nil=>simp at hl
   |cons v vs' =>
   obtain⟨bl,g1,g2,g3,g4⟩:=ih (vs:=vs') (l:=l') hp (by simpa using hl) (fun i φ v hi hv'=>hv (i+1) φ v (by simpa using hi) (by simpa using hv'))
   exact⟨bl,⟨v,vs',rfl,AV.Z5 hG hM hx (hv 0 φ v rfl rfl),g1⟩,g2,g3,g4⟩
def uS(M:MS)(n:Nat):(io:List (Option TypeId))→(ps:Ty)→List Nat→(ioT io ps).D→MS
 |some T::io,.cons (.box e) q,k::ks,y=>match look M k with
  |some (_,.bx nw _ _)=>(k,n,.bx nw (.rd e y.1) T)::uS M n io q ks y.2
  |_=>uS M n io q ks y.2
 |none::io,.cons _ q,ks,y=>uS M n io q ks y
 |_,_,_,_=>[]
theorem Gk{X X':Cx}{w w':World}{G:FE}{M:MS}(hM:yF M X w)(hP:X'.P=X.P)(hO:X'.O=X.O)(hU:X'.U=X.U)(hι:X'.ι=X.ι)(hA:X'.A=X.A)(hF:X'.F=X.F){n:Nat} :
  ∀ {io:List (Option TypeId)} {ps:Ty} {l:List AV} {x:ps.D} {ks bl:List Nat} {y:(ioT io ps).D},mIn G M io ps l=some (x,ks)→BK X ks bl→Dy X.P X.O w' io ps bl y →
   (∀k e,look (uS M n io ps ks y) k=some e→e.1=n∧k∈ks∧e.2.holds X' w' k)∧(∀k∈ks,look (uS M n io ps ks y) k≠none):=by
 intro io
 induction io with
 |nil =>
  intro ps l x ks bl y h hb ho;cases uB h;simp only[mIn]at h;cases h;exact⟨fun k e he=>(nomatch he),by simp⟩
 |cons o io ih =>
  intro ps l x ks bl y h hb ho
  cases uB h with
  | @b T _ e q φ l' =>
   obtain⟨k,st,nw,c,ks',rfl,hk,hc,hp,rfl,hmem⟩:=mO h;obtain⟨b0,cs0,h1,h2,h3,h4⟩:=hM k _ hk
   cases bl with
   |nil=>exact hb.elim
   |cons b bl =>
   obtain⟨hb1,hb2,hb3⟩:=hb;obtain⟨b',bl',cs,e1,h5,h6,h7⟩:=ho;cases e1;rw[h1]at hb1;simp only[Value.pointer.injEq,Option.some.injEq,Addr.mk.injEq,and_true]at hb1;subst hb1;obtain⟨g1,g2⟩:=ih hp hb3 h7;have em:uS M n (some T::io) (.cons (.box e) q) (k::ks') y=(k,n,.bx nw (.rd e y.1) T)::uS M n io q ks' y.2:=by
    simp only[uS];rw[hk]
   rw[em];refine⟨fun j f hf=>?_,fun j hj=>?_⟩
   ·rcases zD hf with ⟨e1,e2⟩|⟨e1,e2⟩
    ·subst e1 e2
     refine⟨rfl,by simp,b0,cs,by rw[hU];exact h1,⟨h5,?_,?_⟩,?_,rfl⟩
     ·rw[Cx.KU hA hF];exact h2.ge
     ·rw[hO,hι];exact hb2
     ·show (e.gr X'.P).rel X'.O w' cs.toList y.1
      rw[hP,hO];exact h6
    ·obtain⟨a1,a2,a3⟩:=g1 j f e2;exact⟨a1,by simp[a2],a3⟩
   ·unfold look
    cases hkj:Nat.beq k j with
    |true=>simp[hkj]
    |false =>
     simp only[hkj,cond_false];refine g2 j ?_;rcases zLH.1 hj with rfl|hj
     ·rw[Nat.beq_refl]at hkj;cases hkj
     ·exact hj
  | @v _ a q φ l' =>
   obtain⟨hx,hp⟩:=mN h;exact ih hp hb ho
def mA(E:VE)(s:S)(d:Option Tmp)(φ:Option AV)(l:Option (List AV))(k:S→Comp β):Comp β:=match φ,l with
 |some (.cl f ca cb),some l=>match E.H f with
  |none=>Comp.fail
  |some fs=>match mIn E.G s.M fs.io fs.ps (ca.els++(l++cb.els)) with
   |some p=>(fs.sem p.1).bind fun y=>k (S.put { L:=s.L,M:=uS s.M s.n fs.io fs.ps p.2 y.1++s.M,n:=s.n+1,ep:=s.n } d (CW fs.rs y.2))
   |none=>Comp.fail
 |_,_=>Comp.fail
section
variable {F:Frm} {s:S} {a:Act} {w:World} {X:Cx} {E:VE}
variable {d:Option Tmp} {T Y:TypeId} {pos:String} {aft:Array Edge} {g:Option (Nat×Bool)} {k:S→Comp β}
theorem nZ{f:FuncId}{x:Operand}{xs:Array Operand}{ts:Array TypeId}{fst cap:Array Value}{R:Ending→World→Prop}{K:Act→World→Prop}{Q:Exit→Act→World→Prop}{P:Program}(hf:FnOk P f)(hu:a.eval x=.func (.func f) fst cap)(h:Calls P f (fst++xs.map a.eval++cap) w R)
  (hK:∀e w',R e w'→∃v,e=.returned v∧K (a.put d v) w'):Oper.wp P ⟨d,.call ⟨.value x,xs,ts⟩,T,pos,aft,g⟩ a w K Q:=by
 obtain⟨fn,h1,h2,h3⟩:=hf.h;have hr:(execOp a.eval ⟨d,.call ⟨.value x,xs,ts⟩,T,pos,aft,g⟩).run P w=.ok (.enter f (fst++xs.map a.eval++cap)) w:=by
  simp only[execOp,resolve,hu,Deferred.ofValue,Sem.run_bind,Sem.run_pure,Result.andThen,invoke,callFunc,run_program,h1];simp[h2,h3]
 unfold Oper.wp;rw[hr];refine Calls.mono h fun e w' he=>?_
 obtain⟨v,rfl,hv⟩:=hK e w' he;exact hv
theorem RelX.zEO(h:RelX F s a w X)(hG:FOk X.P E.G){io:List (Option TypeId)}{ps:Ty}{l:List AV}{x:ps.D}{ks bl:List Nat}{y:(ioT io ps).D}{w':World}(hi:mIn E.G s.M io ps l=some (x,ks))(hb:BK X ks bl)(hk:∀k∈ks,S6 s.M k)(hbl:∀b∈bl,∃k∈ks,X.O b=X.ι k)(hw:ButL bl w w')(ho:Dy X.P X.O w' io ps bl y) :
  RelX F { L:=s.L,M:=uS s.M s.n io ps ks y++s.M,n:=s.n+1,ep:=s.n } a w' { X with n:=s.n+1,ep:=s.n }:=by
 have hne:∀b,b∈bl→X.O b≠0∧X.O b≠F.x.st:=fun b hb=>by
  obtain⟨k,h1,h2⟩:=hbl b hb;obtain⟨e,h3,h4⟩:=hk k h1;rw[h2];exact h.pos k e h3 h4
 have hkeep:∀t,(∀b∈bl,X.O b≠t)→zg t X.O w X.O w':=fun t ht=>⟨hw.size,fun b hb hbt=>⟨hbt,hw.block b hb fun hin=>ht b hin hbt⟩⟩
 let X':Cx:={ X with n:=s.n+1,ep:=s.n }
 have hout:=Gk (X:=X) (X':=X') (w:=w) (w':=w') (G:=E.G) (n:=s.n) h.m rfl rfl rfl rfl rfl rfl hi hb ho;have hinbl:∀b∈bl,F.A b:=fun b hbin=>by
  have:∀ {ks bl:List Nat},BK X ks bl→(∀k∈ks,S6 s.M k∧∃st nw c T,look s.M k=some (st,.bx nw c T))→∀b∈bl,F.A b:=by
   intro ks
   induction ks with
   |nil=>intro bl hb _ b hin;cases bl with|nil=>cases hin|cons=>exact hb.elim
   |cons k ks ih =>
    intro bl hb hks b hin
    cases bl with
    |nil=>cases hin
    |cons b' bl =>
     obtain⟨q1,q2,q3⟩:=hb;rcases zLH.1 hin with rfl|hin
     ·obtain⟨_,st,nw,c,T,hl⟩:=hks k (by simp)
      obtain⟨b0,cs0,e1,e2,_⟩:=h.m k _ hl;rw[q1]at e1;simp only[Value.pointer.injEq,Option.some.injEq,Addr.mk.injEq,and_true]at e1;subst e1;exact(h.okB nw).sub _ e2.ge
     ·exact ih q3 (fun k' hk'=>hks k' (by simp[hk'])) b hin
  refine this hb (fun k hkk=>⟨hk k hkk,?_⟩) b hbin
  have hsome:∀ {io:List (Option TypeId)} {ps:Ty} {l:List AV} {x:ps.D} {ks:List Nat},mIn E.G s.M io ps l=some (x,ks)→∀k∈ks,∃st nw c T,look s.M k=some (st,.bx nw c T):=by
   intro io
   induction io with
   |nil =>
    intro ps l x ks h;cases uB h;simp only[mIn]at h;cases h;simp
   |cons o io ih =>
    intro ps l x ks h
    cases uB h with
    |b =>
     obtain⟨k,st,nw,c,ks',rfl,hk,hc,hp,rfl,hmem⟩:=mO h;intro j hj;rcases zLH.1 hj with rfl|hj
     ·exact⟨_,_,_,_,hk⟩
     ·exact ih hp j hj
    |v =>
     obtain⟨hx,hp⟩:=mN h;exact ih hp
  exact hsome hi k hkk
 refine h.go h.fit rfl rfl rfl (fun j hj=>hkeep j fun b hb e=>by rcases hj with rfl|rfl;exact(hne b hb).1 e;exact(hne b hb).2 e) (fun _ _=>rfl) rfl rfl (zLO _) (zLO _) ?_ (fun hf=>absurd (hf:s.n≤F.fe) (Nat.not_le.2 h.fe)) (fun _ _ _=>rfl) (fun t e he=>.inr ⟨he,rfl,fun hfr hf=>?_⟩) (fun k' e he=>?_) (fun j k' e e' he he' ho ho' heq=>?_) (fun k' e he ho=>?_)
 ·have hB:=h.base
  refine⟨hw.os.trans hB.os,hw.tape.trans hB.tape,hw.output.trans hB.output,zLK hB.size hw.size,fun b hb hA=>?_,fun b hb=>hB.ok b (zLK hw.size hb),hB.old,fun b hb h0=>?_,hB.new⟩
  ·rw[hw.block b (zLQ hb hB.size) fun hin=>hA (hinbl b hin)];exact hB.block b hb hA
  ·by_cases hlt:b<w.heap.size
   ·exact hB.zero b hlt h0
   ·exact h.ok0 b (by have:=hB.size;omega)
 ·have:=h.ln t e he
  simp only[fresh,hfr,Bool.not_true,Bool.false_or]at hf;rw[jr]at hf;have hf':s.n≤e.1:=of_decide_eq_true hf
  omega
 ·rcases gE he with h1|⟨h1,h2⟩
  ·obtain⟨a1,a2,a3⟩:=hout.1 k' e h1
   obtain⟨e0,a4,a5⟩:=hk k' a2;have:=(h.mn k' e0 a4).2
   exact .inl ⟨by rw[a1];exact zLP _,Nat.lt_succ_of_lt this,a3⟩
  ·refine .inr ⟨h2,rfl,fun ho=>hkeep _ fun b hb heq=>?_⟩
   obtain⟨j,g1,g2⟩:=hbl b hb;obtain⟨e0,g3,g4⟩:=hk j g1;have:j=k':=h.inj j k' e0 e g3 h2 g4 ho (g2.symm.trans heq)
   subst this;exact hout.2 j g1 h1
 ·have key:∀ {k e},look (uS s.M s.n io ps ks y++s.M) k=some e→e.2.own=true→S6 s.M k:=fun {k e} he ho=>by
   rcases gE he with h1|⟨h1,h2⟩
   ·exact hk k (hout.1 k e h1).2.1
   ·exact⟨e,h2,ho⟩
  obtain⟨e1,a1,a2⟩:=key he ho;obtain⟨e2,a3,a4⟩:=key he' ho';exact h.inj j k' e1 e2 a1 a3 a2 a4 heq
 ·rcases gE he with h1|⟨h1,h2⟩
  ·obtain⟨e0,a4,a5⟩:=hk k' (hout.1 k' e h1).2.1
   exact h.pos k' e0 a4 a5
  ·exact h.pos k' e h2 ho
theorem Inv.zEO(s:S){io:List (Option TypeId)}{ps:Ty}{ks:List Nat}{y:(ioT io ps).D}(hn:∀k e,look (uS s.M s.n io ps ks y) k=some e→e.1=s.n):Inv s { L:=s.L,M:=uS s.M s.n io ps ks y++s.M,n:=s.n+1,ep:=s.n } where
 le:=zLO _
 l:=fun t e he _=>he
 m:=fun k e he hlt=>by
  rcases gE he with h1|⟨_,h2⟩
  ·rw[hn k e h1]at hlt;exact absurd hlt (Nat.lt_irrefl _)
  ·exact h2
theorem C7(hE:E.ok X.P)(h:RelX F s a w X)(hd:F.dst d){x:Operand}{xs:Array Operand}{ts:Array TypeId}:gP F s a w ⟨d,.call ⟨.value x,xs,ts⟩,T,pos,aft,g⟩ (mA E s d (rdO s.ep s.L [] [] x) (jK (rdO s.ep s.L [] []) xs.toList) k) k:=by
 intro nf y hr K Q hK;rw[←h.P];rw[←h.ep]at hr;unfold mA at hr;split at hr
 ·rename_i f ca cb l hφ hl
  split at hr
  ·cases hr
  ·rename_i fs hs
   split at hr
   ·rename_i p hp
    obtain⟨y0,hy0,hr⟩:=run_bind hr;have H:=h.rd (Op.operands (.call ⟨.value x,xs,ts⟩))
    have k1:=H x _ (by simp[Op.operands,Call.operands]) hφ
    have hlen:=jg hl;obtain⟨vs,us,e1,e2,e3⟩:=k1;obtain⟨A1,A2⟩:=ca.Rj e1;obtain⟨B1,B2⟩:=cb.Rj e2;have hget:∀(i:Nat) φ v,l[i]?=some φ→(xs.toList.map a.eval)[i]?=some v→φ.holds X w v:=by
     intro i φ v hi hv;rw[List.getElem?_map,Option.map_eq_some_iff]at hv;obtain⟨z,hz,rfl⟩:=hv;obtain⟨z',hz1,hz2⟩:=Zd hl i φ hi;rw[hz]at hz1;cases hz1;refine H z φ ?_ hz2;have hz':z∈xs:=Array.mem_toList_iff.1 (zLI hz)
     simp[Op.operands,Call.operands,hz']
    have hall:=XA (R:=fun (φ:AV) v=>φ.holds X w v) A1 A2 (XA (l1:=l) (m1:=xs.toList.map a.eval) (by simp[hlen]) hget B2)
    obtain⟨bl,g1,g2,g3,g4⟩:=zDI hE.G h.m h.inj (fun k e h1 h2=>(h.pos k e h1 h2).1) (vs:=vs++(xs.toList.map a.eval++us)) (ks:=p.2) (x:=p.1) hp (by simp[A1,B1,hlen]) hall
    obtain⟨f1,f2⟩:=hE.H f fs hs;have hc:=f2 X.O w h.okO bl _ p.1 g1 nf y0 hy0
    have harr:(vs++(xs.toList.map a.eval++us)).toArray=vs.toArray++xs.map a.eval++us.toArray:=by
     rw[show xs.map a.eval=(xs.toList.map a.eval).toArray by rw[←Array.toList_map],Zk]
    rw[harr]at hc;refine nZ f1 e3 hc fun e w' he=>?_
    obtain⟨v,rs,q1,q2,q3,q4,q5⟩:=he;refine⟨v,q1,?_⟩;have hR:=h.zEO (E:=E) hE.G hp g2 g3 g4 q4 q5
    have hst:=Gk (X:=X) (X':=X) (w:=w) (w':=w') (G:=E.G) (n:=s.n) h.m rfl rfl rfl rfl rfl rfl hp g2 q5;have hR2:=hR.val (Ext.refl w') hd (uc (X:={ X with n:=s.n+1,ep:=s.n }) q3 q2)
    exact hK _ _ _ ⟨_,hR2⟩ ((Inv.zEO s fun k e he=>(hst.1 k e he).1).trans (Inv.put _ _ _)) hr
   ·cases hr
 ·cases hr
end
section
variable {F:Frm} {s:S} {a:Act} {w:World} {X:Cx} {E:VE}
variable {d:Option Tmp} {T Y:TypeId} {pos:String} {aft:Array Edge} {g:Option (Nat×Bool)} {k:S→Comp β}
def SD(s:S)(d:Option Tmp)(p:Nat×Bool×TypeId×(t:Ty)×List t.D)(n:Option (IntKind×Int))(k:S→Comp β):Comp β:=match n with
 |some n=>(sub p.2.2.2.2 0 n.2).bind fun ys=>k (s.ren d p.1 (.sl p.2.1 p.2.2.2.1 p.2.2.1 ys))
 |none=>Comp.fail
theorem Mt(hE:E.ok X.P)(h:RelX F s a w X)(hd:F.dst d){x y:Operand}{p:Nat×Bool×TypeId×(t:Ty)×List t.D}{φ:AV}(hφ:rdO s.ep s.L [] [] x=some φ)(hp:X4 s.M φ=some p){i:TI}(hi:look E.T Y=some i){e:TypeId}(he:slD i.dd=some e){j:TI}(hj:look E.T e=some j)(hs:Nat.beq p.2.2.2.1.sz j.sz=true) :
  gP F s a w ⟨d,.slice Y x none (some y) none,T,pos,aft,g⟩ (SD s d p ((rdO s.ep s.L [] [] y).bind AV.int?) k) k:=by
 intro nf y' hr K Q hK;rw[←h.P];unfold SD at hr;split at hr
 ·rename_i n hn
  obtain⟨ys,hys,hr⟩:=run_bind hr;have ht:=(hE.T Y i hi).ty
  rw[ZB he]at ht;have hj':=(hE.T e j hj).ty
  rw[←h.ep]at hφ hn;have k1:=h.rd #[x] x φ (by simp) hφ
  have hn':=vO (h.rd #[y]) (by simp) hn
  obtain⟨e0,f1,f2,f3,f4⟩:=w8 h.m k1 hp;have hs':(p.2.2.2.1.gr X.P).sz=j.sz:=by rw[Ty.yk];exact zLC hs
  refine Y2 ht hj' hs' rfl f3.WV hn' hys K Q fun v w' hEx hv=>?_
  have hv:v=ML (a.eval x) ys.length:=hv;subst hv;have g1:=CK (f3.ext hEx) hys
  refine hK _ _ _ (h.ren hd f1 (by rw[f2];rfl) (h.base.step hEx h.ok0) ⟨hEx.size,fun b hb _=>⟨rfl,hEx.block b hb⟩⟩ (ZN g1) fun X' e1 e2 e3 e4 e5 e6 hle=>?_) (Inv.ren _ _ _ _) hr
  show zu _ _ _ _ _ _ _ _
  rw[e5,e6,e1,e4,show X'.B=X.B from by funext nw;cases nw<;>simp[Cx.B,e2,e3]]
  exact g1
 ·cases hr
def D9(E:VE)(s:S)(d:Option Tmp)(Y:TypeId)(kk n:Nat)(ψ:Option AV)(k:S→Comp β):Comp β:=match ψ,look s.M kk with
 |some ψ,some (_,.sl nw t T xs)=>match look E.T Y with
  |none=>Comp.fail
  |some i=>match slD i.dd with
   |none=>Comp.fail
   |some e=>match look E.T e with
    |none=>Comp.fail
    |some j=>match J8 j t && Nat.beq T e,apY s.M t ψ with
     |true,some ys=>(sub xs 0 (n:Int)).bind fun xs=>(app xs ys).bind fun zs=>k (s.ren d kk (.sl nw t e zs))
     |_,_=>Comp.fail
 |_,_=>Comp.fail
theorem IJ(hE:E.ok X.P)(h:RelX F s a w X)(hd:F.dst d){x z:Operand}{kk n:Nat}(hφ:rdO s.ep s.L [] [] x=some (.px kk n)):gP F s a w ⟨d,.call ⟨.builtin .append,#[x,z],#[Y,Y]⟩,T,pos,aft,g⟩ (D9 E s d Y kk n (rdO s.ep s.L [] [] z) k) k:=by
 intro nf y hr K Q hK;rw[←h.P];rw[←h.ep]at hr hφ;unfold D9 at hr;split at hr
 ·rename_i ψ st nw t T' xs hψ hk
  have k1:=h.rd #[x] x _ (by simp) hφ
  have k2:=h.rd #[z] z ψ (by simp) hψ
  split at hr
  ·cases hr
  ·rename_i i hi
   have ht:=(hE.T Y i hi).ty;split at hr
   ·cases hr
   ·rename_i e he
    rw[ZB he]at ht;split at hr
    ·cases hr
    ·rename_i j hj
     have ht':=(hE.T e j hj).ty;have hap:∀ {t:Ty},J8 j t=true→∃E',j.sz=E'+1∧(t.gr X.P).sz=E'+1∧j.by_≤131072∧j.z.cells.size=E'+1:=by
      intro t hb;unfold J8 at hb;simp only[zLD]at hb;obtain⟨b1,b2,b3,b4⟩:=hb;rw[za]at b1;have b1:0<j.sz:=by simpa using b1
      have b2:=zLC b2;have b4:=zLC b4
      exact⟨j.sz-1,by omega,by rw[Ty.yk];omega,Nat.le_of_ble_eq_true b3,by omega⟩
     split at hr
     ·rename_i ys hb hys
      rw[zLD]at hb;obtain⟨E',g1,g2,g3,g4⟩:=hap hb.1;obtain⟨⟨k3,p0,l0,c0,k4,k5⟩,k6⟩:=k1;have f3:zu (X.ι kk) (t.gr X.P) T' (X.B nw) X.O w (X.U kk) xs:=h.m kk _ hk
      rw[g1]at ht';have hTe:=zLC hb.2
      subst hTe;obtain⟨us,hu,hr⟩:=run_bind hr;obtain⟨zs,hz,hr⟩:=run_bind hr;have hne:=h.pos kk _ hk rfl
      have hul:us.length=n:=by
       have hr2:=jq hu;have e4:us=xs.take n:=by simpa using hr2.2.symm
       rw[e4,List.length_take];omega
      have f4:=CK f3 hu;rw[hul,←k3]at f4;refine qD (Ty.fits X.P _) g2 ht ht' g4 g3 h.ok0 h.base (h.okB nw) rfl f4 rfl (lj h.m k2 hys) hz hne.1 fun u2 w2 O2 q1 q2 q3=>hK _ _ _ (h.ren hd hk rfl q2 q3 (ZN q1) fun X' e1 e2 e3 e4 e5 e6 hle=>?_) (Inv.ren _ _ _ _) hr
      show zu _ _ _ _ _ _ _ _
      rw[e5,e6,e1,e4,show X'.B=X.B from by funext nw;cases nw<;>simp[Cx.B,e2,e3]]
      exact q1
     ·cases hr
 ·cases hr
def zEF:Option AV→Option (Nat×Nat)
 |some (.px k n)=>some (k,n)
 |_=>none
theorem Ur{φ:Option AV}{p:Nat×Nat}(h:zEF φ=some p):φ=some (.px p.1 p.2):=by
 unfold zEF at h;split at h
 ·cases h;rfl
 ·cases h
def zGS{α:Type}(xs:List α)(lo:Nat)(z:α):List α:=xs.take lo++List.replicate (xs.length-lo) z
def n4(E:VE)(s:S)(d:Option Tmp)(Y:TypeId)(φ:Option AV)(k:S→Comp β):Comp β:=match d,φ with
 |none,some φ=>match φ with
  |.sx kk lo esz=>match look s.M kk with
   |some (_,.sl nw t T xs)=>match look E.T Y with
    |none=>Comp.fail
    |some i=>match slD i.dd with
     |none=>Comp.fail
     |some e=>match look E.T e with
      |none=>Comp.fail
      |some j=>match Nat.beq esz j.sz && (Nat.beq t.sz j.sz && Nat.beq T e),ofV t j.z with
       |true,some z=>(sub xs (lo:Int) (zF xs)).bind fun _=>k (s.mod kk (.sl nw t T (zGS xs lo z)))
       |_,_=>Comp.fail
   |_=>Comp.fail
  |_=>Comp.fail
 |_,_=>Comp.fail
theorem C4(hE:E.ok X.P)(h:RelX F s a w X){x:Operand}:gP F s a w ⟨none,.call ⟨.builtin .clear,#[x],#[Y]⟩,T,pos,aft,g⟩ (n4 E s none Y (rdO s.ep s.L [] [] x) k) k:=by
 intro nf y' hr K Q hK;rw[←h.P];rw[←h.ep]at hr;unfold n4 at hr;split at hr
 ·rename_i φ _ hφ
  have k1:=h.rd #[x] x φ (by simp) hφ
  split at hr
  ·rename_i kk lo esz
   split at hr
   ·rename_i st nw t T' xs hk
    split at hr
    ·cases hr
    ·rename_i i hi
     split at hr
     ·cases hr
     ·rename_i e he
      split at hr
      ·cases hr
      ·rename_i j hj
       split at hr
       ·rename_i z hb hz
        simp only[zLD]at hb;obtain⟨b1,b2,b3⟩:=hb;have b1:=zLC b1
        have b2:=zLC b2;have b3:=zLC b3
        obtain⟨ys,hys,hr⟩:=run_bind hr;have ht:=(hE.T Y i hi).ty
        rw[ZB he]at ht;have hj':=(hE.T e j hj).ty
        have hO:zu (X.ι kk) (t.gr X.P) T' (X.B nw) X.O w (X.U kk) xs:=h.m kk _ hk;have hx:a.eval x=rS (X.U kk) ((lo:Int).toNat) j.sz:=by rw[←b1];exact k1.1
        rw[b3]at hO;refine S8 (m:=(lo:Int)) (Ty.fits X.P t) (by rw[Ty.yk];exact b2) h.ok0 h.base (h.okB nw) ht hj' hx hO (h.pos kk _ hk rfl).1 hys (fun O w=>KH X.P hz O w) fun w' q1 q2 q3=>?_
        have hR:=h.mod hk rfl (mv:=.sl nw t T' (zGS xs lo z)) q2 q3 fun X' e1 e2 e3 e4 e5 e6 hle=>by
         show zu _ _ _ _ _ _ _ _
         rw[e6,e5,e1,e4,show X'.B=X.B from by funext nw;cases nw<;>simp[Cx.B,e2,e3],b3]
         exact q1
        exact hK _ _ _ hR (Inv.mod _ _ _) hr
       ·cases hr
   ·cases hr
  ·cases hr
 ·cases hr
end
def S.CN(E:VE)(s:S)(k:Nat):S:=match look s.M k with
 |some (_,.bx true c T)=>match look E.T T with
  |some i=>match c.asT E.G s.M i.τ with
   |some x=>{ L:=s.L,M:=(k,s.n,.fb i.τ x)::s.M,n:=s.n+1,ep:=s.ep }
   |none=>s
  |none=>s
 |_=>s
def S.KA(E:VE)(s:S):List Nat→S
 | []=>s
 |k::l=>(s.CN E k).KA E l
def AV.CZ:AV→List Nat
 |.ob k|.bx k _|.ba k .. | .el k .. | .sx k .. | .px k _=>[k]
 |.cl _ a b|.pr a b=>a.CZ++b.CZ
 |.tp l|.ag l=>l.CZ
 |_=>[]
def Wu:List AV→List Nat
 | []=>[]
 |φ::l=>φ.CZ++Wu l
def EH(M:MS):List Nat→List Nat
 | []=>[]
 |k::l=>match look M k with
  |some (_,.bx _ c _)=>c.CZ++EH M l
  |_=>EH M l
def S.YA(E:VE)(s:S)(l:List AV):S :=
 let r:=Wu l
 (s.XW (EH s.M r++r)).KA E r
section
variable {F:Frm} {s:S} {a:Act} {w:World} {X:Cx} {E:VE}
variable {d:Option Tmp} {T Y:TypeId} {pos:String} {aft:Array Edge} {g:Option (Nat×Bool)} {k:S→Comp β}
theorem Inv.CN(s:S)(k:Nat):Inv s (s.CN E k):=by
 unfold S.CN;split
 ·split
  ·split
   ·exact⟨zLO _,ye,vi ye⟩
   ·exact Inv.refl s
  ·exact Inv.refl s
 ·exact Inv.refl s
theorem Rel.CN(hE:E.ok F.P)(h:Rel F s a w)(k:Nat):Rel F (s.CN E k) a w:=by
 unfold S.CN;split
 ·rename_i st c T hk
  split
  ·rename_i i hi
   split
   ·rename_i x hx
    obtain⟨X,h⟩:=h;obtain⟨b,cs,g1,g2,g3,g4⟩:=h.m k _ hk;have hp:=h.pos k _ hk rfl
    have hG:FOk X.P E.G:=by rw[h.P];exact hE.G
    have MN:=(AV.jf hG c h.m).vc hx g3;have hge:F.w0.heap.size≤b:=by
     have:X.F b:=g2.ge;rw[h.Fn]at this;exact this
    let O':=tag X.O (some b) 0
    have hkx:KX (some (X.ι k)) X.O w O' w:=KX.free fun g hg=>by cases hg;exact g2.tag
    have hB:Base F.A F.O0 F.w0 O' w:=h.base.R9 h.ok0 (fun g hg=>by cases hg;exact h.base.new b hge) fun g hg hlt=>by cases hg;omega
    have h0:zg 0 X.O w O' w:=hkx.keep (by simpa using hp.1.symm)
    let X':Cx:={ X with O:=O',n:=s.n+1 }
    have hlt:=(h.mn k _ hk).2;have hv:(MV.fb i.τ x).holds X' w k:=by
     show (KR _).v O' w (X.U k) x
     rw[g1];have hcs:cs=cs.toList.toArray:=by simp
     rw[hcs]at g2;exact g2.freeze hp.1 MN
    refine⟨X',h.go h.fit rfl rfl rfl (fun j hj=>hkx.keep (by rcases hj with rfl|rfl;simpa using hp.1.symm;simpa using hp.2.symm)) (fun _ _=>rfl) rfl h.ep (zLO _) (Nat.le_succ_of_le h.epn) hB (fun hf=>⟨hf,Ext.refl _⟩) (fun _ _ _=>rfl) (fun t e he=>.inr ⟨he,rfl,fun _ hf=>⟨hf,Ext.refl _⟩⟩) (fun k' e he=>?_) (fun j k' e e' he he' ho ho' heq=>?_) (fun k' e he ho=>?_)⟩
    ·rcases zD he with ⟨h1,h2⟩|⟨h1,h2⟩
     ·subst h1 h2;exact .inl ⟨zLP _,Nat.lt_succ_of_lt hlt,hv⟩
     ·refine .inr ⟨h2,rfl,fun ho=>hkx.keep ?_⟩
      intro e1;simp only[Option.some.injEq]at e1;exact h1 (h.inj k k' _ e hk h2 rfl ho e1.symm)
    ·rcases zD he with ⟨h1,h2⟩|⟨h1,h2⟩
     ·rw[←h2]at ho;cases ho
     ·rcases zD he' with ⟨h3,h4⟩|⟨h3,h4⟩
      ·rw[←h4]at ho';cases ho'
      ·exact h.inj j k' e e' h2 h4 ho ho' heq
    ·rcases zD he with ⟨h1,h2⟩|⟨h1,h2⟩
     ·rw[←h2]at ho;cases ho
     ·exact h.pos k' e h2 ho
   ·exact h
  ·exact h
 ·exact h
theorem Rel.KA(hE:E.ok F.P):∀(l:List Nat) {s:S},Rel F s a w→Rel F (s.KA E l) a w
 | [],_,h=>h
 |k::l,s,h=>Rel.KA hE l (h.CN hE k)
theorem Inv.KA:∀(l:List Nat) (s:S),Inv s (s.KA E l)
 | [],s=>Inv.refl s
 |k::l,s=>(Inv.CN s k).trans (Inv.KA l _)
theorem Rel.YA(hE:E.ok F.P)(h:Rel F s a w)(l:List AV):Rel F (s.YA E l) a w:=Rel.KA hE _ (h.XW _)
theorem Inv.YA(s:S)(l:List AV):Inv s (s.YA E l):=(Inv.XW _ _).trans (Inv.KA _ _)
theorem BH{P:Program}{k T:Nat}{B:Nat→Prop}{O:zR}{w:World}{u:Value}{t t':Ty}{xs:List t.D}{ys:List t'.D}(e:Ty.sl t=.sl t')(h:Ty.cast e xs=ys)(hO:zu k (t.gr P) T B O w u xs):zu k (t'.gr P) T B O w u ys:=by
 injection e with e1
 subst e1;subst h;exact hO
def n5(E:VE)(s:S)(d:Option Tmp)(φ:Option AV)(l:Option (List AV))(k:S→Comp β):Comp β:=match φ,l with
 |some (.cl f .un .un),some (x::l)=>match E.O f with
  |none=>Comp.fail
  |some fs=>match X4 s.M x with
   |none=>Comp.fail
   |some p=>match (Ty.sl p.2.2.2.1).to (.sl fs.e) p.2.2.2.2,Nat.beq p.2.2.1 fs.T,Xp (l.map (fun φ=>φ.asT E.G s.M)) fs.ps with
    |some xs,true,some z=>(fs.sem xs z).bind fun ys=>match fs.ret with
     |true=>k (s.ren d p.1 (.sl p.2.1 fs.e fs.T ys))
     |false=>k ((s.mod p.1 (.sl p.2.1 fs.e fs.T ys)).put d .top)
    |_,_,_=>Comp.fail
 |_,_=>Comp.fail
theorem C5(hE:E.ok X.P)(h:RelX F s a w X)(hd:F.dst d){x:Operand}{xs:Array Operand}{ts:Array TypeId}:gP F s a w ⟨d,.call ⟨.value x,xs,ts⟩,T,pos,aft,g⟩ (n5 E s d (rdO s.ep s.L [] [] x) (jK (rdO s.ep s.L [] []) xs.toList) k) k:=by
 intro nf y hr K Q hK;rw[←h.P];rw[←h.ep]at hr;unfold n5 at hr;split at hr
 ·rename_i f φ1 l hφ hl
  split at hr
  ·cases hr
  ·rename_i fs hs
   split at hr
   ·cases hr
   ·rename_i p hp
    split at hr
    ·rename_i xs0 z hxs hT hz
     obtain⟨ys,hys,hr⟩:=run_bind hr;have H:=h.rd (Op.operands (.call ⟨.value x,xs,ts⟩))
     have k1:=H x _ (by simp[Op.operands,Call.operands]) hφ
     have hlen:=jg hl;obtain⟨vs,us,e1,e2,e3⟩:=k1;have e1:vs=[]:=e1
     have e2:us=[]:=e2;subst e1 e2;have hget:∀(i:Nat) φ v,(φ1::l)[i]?=some φ→(xs.toList.map a.eval)[i]?=some v→φ.holds X w v:=by
      intro i φ v hi hv;rw[List.getElem?_map,Option.map_eq_some_iff]at hv;obtain⟨z,hz,rfl⟩:=hv;obtain⟨z',hz1,hz2⟩:=Zd hl i φ hi;rw[hz]at hz1;cases hz1;refine H z φ ?_ hz2;have hz':z∈xs:=Array.mem_toList_iff.1 (zLI hz)
      simp[Op.operands,Call.operands,hz']
     obtain⟨u,vs,hvs⟩:∃u vs,xs.toList.map a.eval=u::vs:=by
      cases hxl:xs.toList with
      |nil=>rw[hxl]at hlen;cases hlen
      |cons u vs=>exact⟨_,_,rfl⟩
     rw[hvs]at hget;have hvl:vs.length=l.length:=by
      have h1:=congrArg List.length hvs;rw[List.length_map]at h1;simp only[zLL]at h1 hlen;omega
     have hu:=hget 0 φ1 u rfl rfl;obtain⟨e0,f1,f2,f3,f4⟩:=w8 h.m hu hp;obtain⟨ee,ee2⟩:=Ty.jS hxs;have hne:=h.pos p.1 e0 f1 (by rw[f2];rfl)
     have hargs:fs.ps.args X.P X.O w vs z:=kZ hz (by simp[hvl]) fun i f v hf hv t y hy=>by
      rw[List.getElem?_map,Option.map_eq_some_iff]at hf;obtain⟨ψ,g1,rfl⟩:=hf;exact AV.Z5 hE.G h.m hy (hget (i+1) ψ v (by simpa using g1) (by simpa using hv))
     obtain⟨o1,o2⟩:=hE.O f fs hs;have hO:zu (X.ι p.1) (fs.e.gr X.P) fs.T (X.B p.2.1) X.O w u xs0:=by
      have hT':=zLC hT;rw[hT']at f3;exact BH ee ee2 f3
     have hc:=o2 X.O w h.okO u xs0 (MC hO hne.1) vs z hargs nf ys hys;have harr:(u::vs).toArray=#[]++xs.map a.eval++#[]:=by
      rw[show xs.map a.eval=(xs.toList.map a.eval).toArray by rw[←Array.toList_map],hvs];simp
     rw[harr]at hc;refine nZ o1 e3 hc fun e w2 he=>?_
     obtain⟨v,u2,he,h1,⟨vs2,h2,h3⟩,h4⟩:=he;refine⟨v,he,?_⟩;have hge:=hO.ge
     obtain⟨hB2,hkx⟩:=wT h.base h.ok0 h1 (fun g hg=>(h.okB p.2.1).sub g (hge g hg).1) hne.1 (fun g hg=>h2.gM g hg) hO.tagged
     have hnew:zu (X.ι p.1) (fs.e.gr X.P) fs.T (X.B p.2.1) (tag X.O u2.ownBlock (X.ι p.1)) w2 u2 ys:=by
      refine⟨vs2,h2,h3.mono ⟨zLF _,fun b _ hb=>⟨?_,rfl⟩⟩,fun g hg=>⟨by rw[hg];exact yj _ _ _,?_⟩⟩
      ·by_cases hg:u2.ownBlock=some b
       ·rw[hg,yj]at hb;cases hb
       ·rw[gC hg]at hb ⊢;exact hb
      ·rcases h1.at_ with h8|h8
       ·exact(hge g (h8 ▸ hg)).1
       ·exact(h.okB p.2.1).new g (by have:=h8 g hg;have:=h.base.size;omega)
     split at hr
     ·rename_i hret
      rw[hret]at h4;have h4:v=u2:=h4
      subst h4;refine hK _ _ _ (h.ren hd f1 (by rw[f2];rfl) hB2 hkx (ZN hnew) fun X' e1 e2 e3 e4 e5 e6 hle=>?_) (Inv.ren _ _ _ _) hr
      show zu _ _ _ _ _ _ _ _
      rw[e5,e6,e1,e4,show X'.B=X.B from by funext nw;cases nw<;>simp[Cx.B,e2,e3]]
      exact hnew
     ·rename_i hret
      rw[hret]at h4;obtain⟨h5,h6⟩:u2=u∧v=.tuple #[]:=h4;subst h5;have hR:=h.mod f1 (by rw[f2];rfl) (mv:=.sl p.2.1 fs.e fs.T ys) hB2 hkx fun X' e1 e2 e3 e4 e5 e6 hle=>by
       show zu _ _ _ _ _ _ _ _
       rw[e6,e5,e1,e4,show X'.B=X.B from by funext nw;cases nw<;>simp[Cx.B,e2,e3],←f4]
       exact hnew
      obtain⟨X2,hX2⟩:=hR;exact hK _ _ _ ⟨_,hX2.val (Ext.refl w2) hd (show AV.top.holds X2 w2 v from trivial)⟩ ((Inv.mod _ _ _).trans (Inv.put _ _ _)) hr
    ·cases hr
 ·cases hr
end
theorem K1{P:Program}{w:World}(t ti ty e:TypeId)(i:TypeInfo)(z:Value)(ik:IntKind)(ht:P.underlying t=some (.slice e))(hti:P.underlying ti=some (.int ik))(hi:P.info? e=some i)(hz:i.zero=some z)
  (k:IntKind) (n:Nat) (h0:0<n) (h63:(n:Int)≤9223372036854775807) (h48:n * i.bytes≤281474976710656) (hsz:0<i.size) :
  (Builtin.append_ #[t,ti] ty #[.slice none 0 0,.int k n]).run P w =
   .ok (.slice (some ⟨w.heap.size,0,none⟩) n (grownCap w n 0 e)) (w.drew.alloc (.cells (Builtin.zeroCells z.cells n++Builtin.zeroCells z.cells (grownCap w n 0 e-n)) e)):=by
 have hn:n≠0:=by omega
 have hw:IntKind.i64.wrap (n:Int)=n:=by rw[IntKind.wrap_i64];omega
 have h63':¬(9223372036854775807<(n:Int)):=by omega
 have h48':¬(281474976710656<Builtin.nextslicecap n 0 * i.bytes):=by rw[nextslicecap_zero h0];omega
 have h48i:¬((281474976710656:Int)<(n:Int) * (i.bytes:Int)):=by
  have h:((n * i.bytes:Nat):Int)≤281474976710656:=by omega
  rw[Int.natCast_mul]at h;omega
 have hneg:¬((n:Int)<0):=by omega
 have hnz:¬(n=0∨i.size=0):=by omega
 simp[Builtin.append_,run_underlying ht,run_underlying hti,sizeOf,typeInfo,zeroValue,hi,hz,asInt,asIntOf,hw,hneg,hn,h63',h48',h48i,hnz,Question.forced,run_firstCells_none,newRow,grownCap];intro hm;rcases Nat.mul_eq_zero.1 hm with h|h<;>omega
section
variable {F:Frm} {s:S} {a:Act} {w:World} {X:Cx} {E:VE}
variable {d:Option Tmp} {T Y Z:TypeId} {pos:String} {aft:Array Edge} {g:Option (Nat×Bool)} {k:S→Comp β}
theorem H5{P:Program}{α:Type}{A:Nat→Prop}{K:Act→World→Prop}{Q:Exit→Act→World→Prop}{x y:Operand}{t ti e E bytes k:Nat}{ik:IntKind}{d0:Option Tmp}{g0:Option (Nat×Bool)}{dd:TypeDesc}{z z' zi:Value}{sz by_ szi byi:Nat}{r:GR α}(hr:r.fits)(hE:r.sz=E+1)(hT:Eng.Ty P t (.slice e) z sz by_)(hti:Eng.Ty P ti (.int ik) zi szi byi)(he:Eng.Ty P e dd z' (E+1) bytes)(hz:z'.cells.size=E+1)(hby:bytes≤131072)
  {O O0:zR} {w0:World} (hO0:OkO O0 w0) (hB:Base A O0 w0 O w) {B:Nat→Prop} (hAB:OkB A w0 B) (hx:a.eval x=.slice none 0 0) {kk:IntKind} {m:Int} (hy:a.eval y=.int kk m) {z0:α} (hz0:∀O w,r.v O w z' z0) {zs:List α} {n:Nat} (happ:(mk m z0).run n=some zs) (hk:k≠0)
  (hK:∀u2 w2 O2,zu k r e B O2 w2 u2 zs→Base A O0 w0 O2 w2→KX (some k) O w O2 w2→K (a.put d0 u2) w2):Oper.wp P ⟨d0,.call ⟨.builtin .append,#[x,y],#[t,ti]⟩,T,pos,aft,g0⟩ a w K Q:=by
 obtain⟨⟨h0,h1⟩,h2⟩:=run_mk happ;unfold LIM at h1;obtain⟨i,hi,hzz,hsz,hby'⟩:=he.info;obtain⟨c,rfl⟩:∃c:Nat,m=(c:Int):=⟨m.toNat,by omega⟩
 rw[Int.toNat_natCast]at h2;by_cases hc:c=0
 ·subst hc
  have hu:a.eval y=.int kk 0:=hy;have hw:IntKind.i64.wrap (0:Int)=0:=by rw[IntKind.wrap_i64];omega
  have hrun:(Builtin.append_ #[t,ti] T #[.slice none 0 0,.int kk 0]).run P w=.ok (.slice none 0 0) w:=by
   simp[Builtin.append_,hT.gq,hti.gq,he.z6,sizeOf,typeInfo,hi,asInt,asIntOf,hw]
  refine qz (v:=.slice none 0 0) (w':=w) (by simp[execOp,resolve,invoke,builtin,hx,hu,hrun]) (hK _ w O ?_ hB ⟨zLF _,fun _ _ _=>⟨rfl,rfl⟩⟩)
  rw[←h2];exact zu.nil _ _ _ _ _ _
 ·have hcb:c * i.bytes≤1073741824 * 131072:=Nat.mul_le_mul (by omega) (by rw[hby'];exact hby)
  have hrun:=K1 (P:=P) (w:=w) t ti T e i z' ik hT.u hti.u hi hzz kk c (by omega) (by omega) (by omega) (by rw[hsz];omega)
  have hge:=grownCap_ge w c 0 e;have hcm:grownCap w c 0 e≤maxLen:=grownCap_le_maxLen w c 0 e (by unfold maxLen;omega)
  have hEx:Ext w (w.drew.alloc (.cells (Builtin.zeroCells z'.cells c++Builtin.zeroCells z'.cells (grownCap w c 0 e-c)) e)):=⟨rfl,rfl,rfl,by simp,fun k hk=>heap_alloc_old w.drew _ hk⟩
  refine qz (v:=.slice (some ⟨w.heap.size,0,none⟩) c (grownCap w c 0 e)) (w':=w.drew.alloc (.cells (Builtin.zeroCells z'.cells c++Builtin.zeroCells z'.cells (grownCap w c 0 e-c)) e)) (by simp[execOp,resolve,invoke,builtin,hx,hy,hrun]) ?_
  have hflat:(Builtin.zeroCells z'.cells c).toList=flat (List.replicate c z'):=by
   rw[range_zero];unfold flat
   rw[List.flatMap_def,List.map_replicate]
  refine hK _ _ (tag O (some w.heap.size) k) ⟨List.replicate c z',?_,?_,fun g hg=>?_⟩ ?_ ?_
  ·rw[hE]
   refine⟨fun x hx=>by rw[List.eq_of_mem_replicate hx];exact hz,?_,.inr ⟨w.heap.size,grownCap w c 0 e,_,by rw[List.length_replicate],Nat.zero_le _,heap_alloc_new w.drew _,by rw[List.length_replicate];exact hge,hcm,?_,?_⟩⟩
   ·rw[←hflat,List.length_replicate,Array.length_toList,size_zeroCells,hz]
   ·rw[Array.size_append,size_zeroCells,size_zeroCells,hz,←Nat.add_mul];congr 1;omega
   ·rw[Array.toList_append,←hflat,List.length_replicate]
    have:c * (E+1)=(Builtin.zeroCells z'.cells c).toList.length:=by rw[Array.length_toList,size_zeroCells,hz]
    rw[this];exact List.take_left
  ·rw[←h2]
   exact yr.replicate (hz0 _ _) c
  ·simp only[Value.ownBlock,Option.some.injEq]at hg
   subst hg;exact⟨yj _ _ _,hAB.new _ hB.size⟩
  ·exact(hB.step hEx hO0).tag hk fun g hg=>by cases hg;exact⟨hB.new _ hB.size,by simp⟩
  ·have h3:KX none O w (tag O (some w.heap.size) k) _:=KX.tag hEx fun g hg=>by cases hg;exact zLF _
   exact⟨h3.1,fun b hb _=>h3.2 b hb (by simp)⟩
def D8(E:VE)(s:S)(d:Option Tmp)(Y Z:TypeId)(φ:Option AV)(m:Option (IntKind×Int))(k:S→Comp β):Comp β:=match φ,m with
 |some φ,some m=>match look E.T Y,look E.T Z with
  |some i,some iz=>match slD i.dd with
   |none=>Comp.fail
   |some e=>match look E.T e with
    |none=>Comp.fail
    |some j=>match Yq φ && (J8 j j.τ && (WY iz.dd).isSome),ofV j.τ j.z with
     |true,some z=>(mk m.2 z).bind fun zs=>k (s.KS d (.sl true j.τ e zs) (.ob s.n))
     |_,_=>Comp.fail
  |_,_=>Comp.fail
 |_,_=>Comp.fail
theorem II(hE:E.ok X.P)(h:RelX F s a w X)(hd:F.dst d){x z:Operand}:gP F s a w ⟨d,.call ⟨.builtin .append,#[x,z],#[Y,Z]⟩,T,pos,aft,g⟩ (D8 E s d Y Z (rdO s.ep s.L [] [] x) ((rdO s.ep s.L [] [] z).bind AV.int?) k) k:=by
 intro nf y hr K Q hK;rw[←h.P];rw[←h.ep]at hr;unfold D8 at hr;split at hr
 ·rename_i φ m hφ hm
  have k1:=h.rd #[x] x φ (by simp) hφ
  have k2:=vO (h.rd #[z]) (by simp) hm
  split at hr
  ·rename_i i iz hi hiz
   have ht:=(hE.T Y i hi).ty;have htz:=(hE.T Z iz hiz).ty
   split at hr
   ·cases hr
   ·rename_i e he
    rw[ZB he]at ht;split at hr
    ·cases hr
    ·rename_i j hj
     have ht':=(hE.T e j hj).ty;split at hr
     ·rename_i z0 hb hz0
      simp only[zLD]at hb;obtain⟨b1,b2,b3⟩:=hb;obtain⟨ik,hik⟩:=Option.isSome_iff_exists.1 b3;rw[mS hik]at htz;rw[jh b1]at k1;unfold J8 at b2;simp only[zLD]at b2;obtain⟨c1,c2,c3,c4⟩:=b2;rw[za]at c1;have c1:0<j.sz:=by simpa using c1
      have c2:=zLC c2;have c4:=zLC c4
      have g1:j.sz=(j.sz-1)+1:=by omega
      rw[g1]at ht';obtain⟨zs,hz,hr⟩:=run_bind hr;obtain⟨τ,t0,t1⟩:=ZL X.ι s.M F.x.st
      refine H5 (B:=X.B true) (r:=j.τ.gr X.P) (Ty.fits X.P _) (by rw[Ty.yk];omega) ht htz ht' (by omega) (Nat.le_of_ble_eq_true c3) h.ok0 h.base (h.okB true) k1 k2 (fun O w=>KH X.P hz0 O w) hz t0.1 fun u2 w2 O2 q1 q2 q3=>hK _ _ _ (h.KS (φ:=.ob s.n) hd (v:=u2) (u:=u2) q2 q3 t0 t1 fun X' e1 e2 e3 e4 e5 e6 e7 e8 hle=>⟨⟨e7.symm,by omega,ZN q1⟩,?_⟩) (Inv.KS _ _ _ _) hr
      show zu _ _ _ _ _ _ _ _
      rw[e7,e8,e1,e4,show X'.B=X.B from by funext nw;cases nw<;>simp[Cx.B,e2,e3]]
      exact q1
     ·cases hr
  ·cases hr
 ·cases hr
def n9(E:VE)(s:S)(d:Option Tmp)(φ:Option AV)(l:Option (List AV))(k:S→Comp β):Comp β:=match φ,l with
 |some (.cl f .un .un),some (x::l)=>match E.N f,Yq x with
  |some fs,true=>match Xp (l.map (fun φ=>φ.asT E.G s.M)) fs.ps with
   |some z=>(fs.sem z).bind fun y=>match YS fs.rk fs.rs y with
    |some q=>k (s.obj d (.sl true q.2.1 q.1 q.2.2) (Hf s.n fs.rk fs.rs y))
    |none=>Comp.fail
   |none=>Comp.fail
  |_,_=>Comp.fail
 |_,_=>Comp.fail
theorem DO{P:Program}{O:zR}{B:Nat}{w:World}{ks:List (Option TypeId)}{rs:Ty}{vs:List Value}{y:rs.D}{q:TypeId×(t:Ty)×List t.D}(hq:YS ks rs y=some q)(h:Y6 P O B w ks rs vs y):vs≠[]:=by
 intro e;subst e
 match ks,rs,y,hq,h with
 |k::ks,.cons a b,y,hq,h=>obtain⟨v,vs',h1,_⟩:=h;cases h1
theorem C6(hE:E.ok X.P)(h:RelX F s a w X)(hd:F.dst d){x:Operand}{xs:Array Operand}{ts:Array TypeId}:gP F s a w ⟨d,.call ⟨.value x,xs,ts⟩,T,pos,aft,g⟩ (n9 E s d (rdO s.ep s.L [] [] x) (jK (rdO s.ep s.L [] []) xs.toList) k) k:=by
 intro nf y hr K Q hK;rw[←h.P];rw[←h.ep]at hr;unfold n9 at hr;split at hr
 ·rename_i f φ1 l hφ hl
  split at hr
  ·rename_i fs hs hn
   split at hr
   ·rename_i z hz
    obtain⟨y0,hy0,hr⟩:=run_bind hr;have H:=h.rd (Op.operands (.call ⟨.value x,xs,ts⟩))
    have k1:=H x _ (by simp[Op.operands,Call.operands]) hφ
    have hlen:=jg hl;obtain⟨vs,us,e1,e2,e3⟩:=k1;have e1:vs=[]:=e1
    have e2:us=[]:=e2;subst e1 e2;have hget:∀(i:Nat) φ v,(φ1::l)[i]?=some φ→(xs.toList.map a.eval)[i]?=some v→φ.holds X w v:=by
     intro i φ v hi hv;rw[List.getElem?_map,Option.map_eq_some_iff]at hv;obtain⟨z,hz,rfl⟩:=hv;obtain⟨z',hz1,hz2⟩:=Zd hl i φ hi;rw[hz]at hz1;cases hz1;refine H z φ ?_ hz2;have hz':z∈xs:=Array.mem_toList_iff.1 (zLI hz)
     simp[Op.operands,Call.operands,hz']
    obtain⟨u,vs,hvs⟩:∃u vs,xs.toList.map a.eval=u::vs:=by
     cases hxl:xs.toList with
     |nil=>rw[hxl]at hlen;cases hlen
     |cons u vs=>exact⟨_,_,rfl⟩
    rw[hvs]at hget;have hvl:vs.length=l.length:=by
     have h1:=congrArg List.length hvs;rw[List.length_map]at h1;simp only[zLL]at h1 hlen;omega
    have hu:=hget 0 φ1 u rfl rfl;rw[jh hn]at hu;have hu:u=.slice none 0 0:=hu
    subst hu;have hargs:fs.ps.args X.P X.O w vs z:=kZ hz (by simp[hvl]) fun i f v hf hv t y hy=>by
     rw[List.getElem?_map,Option.map_eq_some_iff]at hf;obtain⟨ψ,g1,rfl⟩:=hf;exact AV.Z5 hE.G h.m hy (hget (i+1) ψ v (by simpa using g1) (by simpa using hv))
    obtain⟨o1,o2⟩:=hE.N f fs hs;have hc:=o2 X.O w h.okO vs z hargs nf y0 hy0
    have harr:(Value.slice none 0 0::vs).toArray=#[]++xs.map a.eval++#[]:=by
     rw[show xs.map a.eval=(xs.toList.map a.eval).toArray by rw[←Array.toList_map],hvs];simp
    rw[harr]at hc;refine nZ o1 e3 hc fun e w2 he=>?_
    obtain⟨v,he,hEx,rs,h3,h4⟩:=he;refine⟨v,he,?_⟩;split at hr
    ·rename_i q hq
     obtain⟨u,h5,h6⟩:=Jv (k:=s.n) hq h4;refine hK _ _ _ (h.Cg hEx hd h5 fun X' e1 hle e2 e3 e4=>?_) (Inv.obj _ _ _ _) hr
     exact GV (h6 X' e1 e2 e3 e4) (DO hq h4) h3
    ·cases hr
   ·cases hr
  ·cases hr
 ·cases hr
end
def nx(E:VE)(s:S)(d:Option Tmp)(Y:TypeId)(k:S→Comp β):Option Operand→Comp β
 |some _=>Comp.fail
 |none=>match look E.T Y with
  |some i=>match mpD i.dd with
   |some kv=>match look E.T kv.1,look E.T kv.2 with
    |some p,some q=>k (s.obj d (.mp true p.τ q.τ []) (.ob s.n))
    |_,_=>Comp.fail
   |none=>Comp.fail
  |none=>Comp.fail
def SV(M:MS):AV→Option (Nat×Bool×(a:Ty)×(b:Ty)×List (a.D×b.D))
 |.ob k=>match look M k with
  |some (_,.mp nw a b xs)=>some (k,nw,⟨a,b,xs⟩)
  |_=>none
 |_=>none
theorem Nm{M:MS}{φ:AV}{q}(h:SV M φ=some q):φ=.ob q.1∧∃st,look M q.1=some (st,.mp q.2.1 q.2.2.1 q.2.2.2.1 q.2.2.2.2):=by
 unfold SV at h;split at h
 ·split at h
  ·rename_i st nw a b xs hk;cases h;exact⟨rfl,st,hk⟩
  ·cases h
 ·cases h
def qh(E:VE)(s:S)(Y:TypeId)(k:S→Comp β):Option AV→Option AV→Option AV→Comp β
 |some φ,some ψ,some χ=>match look E.T Y,SV s.M φ with
  |some i,some q=>match mpD i.dd with
   |some kv=>match look E.T kv.1 with
    |some p=>match p.kq && p.τ.beq q.2.2.1,ψ.asT E.G s.M q.2.2.1,χ.asT E.G s.M q.2.2.2.1 with
     |true,some y,some z=>k (s.mod q.1 (.mp q.2.1 q.2.2.1 q.2.2.2.1 (mpB q.2.2.1.eqb q.2.2.2.2 y z)))
     |_,_,_=>Comp.fail
    |none=>Comp.fail
   |none=>Comp.fail
  |_,_=>Comp.fail
 |_,_,_=>Comp.fail
section
variable {F:Frm} {s:S} {a:Act} {w:World} {X:Cx} {E:VE}
variable {d:Option Tmp} {T Y:TypeId} {pos:String} {aft:Array Edge} {g:Option (Nat×Bool)} {k:S→Comp β}
theorem C1(h:RelX F s a w X)(hd:F.dst d){n:Option Operand}:gP F s a w ⟨d,.makeMap Y n,T,pos,aft,g⟩ (nx E s d Y k n) k:=by
 intro nf y hr K Q hK;rw[←h.P];unfold nx at hr;split at hr
 ·cases hr
 split at hr
 ·rename_i i hi
  split at hr
  ·rename_i kv hkv
   split at hr
   ·rename_i p q hp hq
    have hrun:(execOp a.eval ⟨d,.makeMap Y none,T,pos,aft,g⟩).run X.P w=.ok (.value (.map (some w.heap.size))) (w.alloc (.map #[] 0)):=by simp[execOp,run_makeMap]
    refine qz hrun ?_;obtain⟨τ,h0,h1⟩:=ZL X.ι s.M F.x.st;obtain⟨O',hB',hk,hO⟩:=VT (t:=p.τ) (r:=q.τ.gr X.P) h.ok0 h.base τ h0.1;refine hK _ _ _ (h.obj (φ:=.ob s.n) (Ext.alloc w (.map #[] 0)) hd (u:=.map (some w.heap.size)) hB' hk h0 h1 fun X' e1 e2 e3 e4 e5 e6 e7 e8 hle=>⟨⟨e7.symm,by omega,rfl⟩,?_⟩) (Inv.obj _ _ _ _) hr
    show Z8 _ _ _ _ _ _ _ _
    rw[e7,e8,e1,e4];show Z8 _ _ _ X'.F _ _ _ _
    rw[e3,h.Fn];exact hO
   ·cases hr
  ·cases hr
 ·cases hr
theorem rZ(hE:E.ok X.P)(h:RelX F s a w X){m x v:Operand}:gP F s a w ⟨none,.mapUpdate Y m x v,T,pos,aft,g⟩ (qh E s Y k (rdO s.ep s.L [] [] m) (rdO s.ep s.L [] [] x) (rdO s.ep s.L [] [] v)) k:=by
 intro nf y hr K Q hK;rw[←h.P];rw[←h.ep]at hr;unfold qh at hr;split at hr
 ·rename_i φ ψ χ hφ hψ hχ
  have k1:=h.rd #[m] m φ (by simp) hφ
  have k2:=h.rd #[x] x ψ (by simp) hψ
  have k3:=h.rd #[v] v χ (by simp) hχ
  split at hr
  ·rename_i i q hi hq
   split at hr
   ·rename_i kv hkv
    split at hr
    ·rename_i p hp
     split at hr
     ·rename_i y0 z hb hy hz
      rw[zLD]at hb;obtain⟨hkq,hbe⟩:=hb;obtain⟨rfl,st,hk⟩:=Nm hq;have ht:=(hE.T Y i hi).ty
      rw[RK hkv]at ht;have hK':=(hE.T _ p hp).key hkq
      rw[Ty.KB hbe]at hK';have hy':=Sg hK'.clo (AV.Z5 hE.G h.m hy k2)
      have hne:=h.pos _ _ hk rfl;have hO:Z8 (X.ι q.1) (gx q.2.2.1) (q.2.2.2.1.gr X.P) (X.B q.2.1) X.O w (X.U q.1) q.2.2.2.2:=h.m _ _ hk
      refine pd h.ok0 h.base (h.okB q.2.1) ht hK' k1.1 hO hne.1 hy' (AV.Z5 hE.G h.m hz k3) fun w' q1 q2 q3=>hK _ undef _ (h.mod hk rfl q2 q3 fun X' e1 e2 e3 e4 e5 e6 hle=>?_) (Inv.mod _ _ _) hr
      show Z8 _ _ _ _ _ _ _ _
      rw[e6,e1,e4,e5,Cx.KU e2 e3];exact q1
     ·cases hr
    ·cases hr
   ·cases hr
  ·cases hr
 ·cases hr
theorem Mw(hE:E.ok X.P)(h:RelX F s a w X){m x v:Operand}:gP F s a w ⟨none,.insert Y m x v,T,pos,aft,g⟩ (qh E s Y k (rdO s.ep s.L [] [] m) (rdO s.ep s.L [] [] x) (rdO s.ep s.L [] [] v)) k :=
 rZ (T:=T) (pos:=pos) (aft:=aft) (g:=g) hE h
end
abbrev OwQ:=TypeId×(t:Ty)×List t.D
def Yo:List (Option TypeId)→(rs:Ty)→rs.D→Option (List OwQ)
 |some T::ks,.cons a b,y=>match slT a y.1 with
  |some q=>match q.1.closed,Yo ks b y.2 with
   |true,some l=>some ((T,q)::l)
   |_,_=>none
  |none=>none
 |none::ks,.cons a b,y=>match a.closed with
  |true=>Yo ks b y.2
  |false=>none
 | [],.nil,_=>some []
 |_,_,_=>none
def Cc(k:Nat):List (Option TypeId)→(rs:Ty)→rs.D→AV
 |some _::ks,.cons _ b,y=>.pr (.ob k) (Cc (k+1) ks b y.2)
 |none::ks,.cons a b,y=>.pr (.rd a y.1) (Cc k ks b y.2)
 |_,_,_=>.un
def nJ(φ:AV):AV:=match φ with
 |.pr ψ .un=>ψ
 |φ=>.tp φ
theorem E2{X':Cx}{w1:World}{φ:AV}{vs:List Value}{v:Value}(h:(φ.sem X' w1).l vs)(hne:vs≠[])(ht:kc vs v):(nJ φ).holds X' w1 v:=by
 have hv:v=tup vs:=ht.resolve_left hne;by_cases hu:∃ψ,φ=.pr ψ .un
 ·obtain⟨ψ,rfl⟩:=hu
  obtain⟨v1,vs1,h1,h2,h3⟩:=h;rw[show vs1=[] from h3]at h1
  show ψ.holds X' w1 v
  rw[hv,h1];exact h2
 ·have e:nJ φ=.tp φ:=by
   cases φ<;>try rfl
   rename_i a b;cases b<;>first|rfl|exact absurd ⟨_,rfl⟩ hu
  rw[e]
  match vs,hne with
  | [v1],_ =>
   exfalso;cases φ<;>try exact h.elim
   ·cases h
   ·rename_i a b
    obtain⟨_,vs1,h1,_,h3⟩:=h;cases h1;cases b<;>try exact h3.elim
    ·exact hu ⟨_,rfl⟩
    ·obtain⟨_,_,h4,_⟩:=h3;cases h4
  |v1::v2::vs,_=>exact⟨_,h,hv⟩
structure OwU(P:Program)(B:Nat)(w:World)(q:OwQ)(u:Value):Prop where
 c:q.2.1.closed=true
 o:∃vs,OwnS w B q.1 (q.2.1.gr P).sz u vs∧∀O,yr (q.2.1.gr P) O w vs q.2.2
theorem JC{P:Program}{t:Ty}(hc:t.closed=true){O O' w}:∀ {vs:List Value} {xs:List t.D},yr (t.gr P) O w vs xs→yr (t.gr P) O' w vs xs
 | [],[],_=>trivial
 |v::vs,x::xs,h=>⟨XT hc h.1,JC hc h.2⟩
 | [],_::_,h=>h.elim
 |_::_,[],h=>h.elim
def S7(P:Program)(B:Nat)(w:World):List OwQ→List Value→Prop
 | [],[]=>True
 |q::qs,u::us=>OwU P B w q u∧S7 P B w qs us∧∀g,u.ownBlock=some g→∀u'∈us,u'.ownBlock≠some g
 |_,_=>False
theorem JD{P:Program}{O:zR}{B:Nat}{w1:World}:∀ {ks:List (Option TypeId)} {rs:Ty} {y:rs.D} {vs:List Value} {qs:List OwQ},Yo ks rs y=some qs→Y6 P O B w1 ks rs vs y →
  ∃us,S7 P B w1 qs us∧(∀u∈us,∀g,u.ownBlock=some g→g∈K9 ks vs)∧∀(X':Cx) (k:Nat),X'.P=P→(∀(j:Nat) u,us[j]?=some u→X'.U (k+j)=u∧k+j<X'.n∧u.oneCell'=true)→((Cc k ks rs y).sem X' w1).l vs
 |some T::ks,.cons a b,y,vs,qs,hq,h=>by
  simp only[Yo]at hq;split at hq
  ·rename_i q hs
   split at hq
   ·rename_i l hc hl
    cases hq
    obtain⟨v,vs',h1,h2,h3,h4⟩:=h;obtain⟨e,he⟩:=Qk hs;subst e;obtain⟨us,f1,f2,f3⟩:=JD hl h3;have h2:Zj (q.1.gr P) T B O w1 v y.1:=h2
    have he:y.1=q.2:=he;rw[he]at h2;obtain⟨zs,g1,g2⟩:=h2;refine⟨v::us,⟨⟨hc,zs,g1,fun O=>JC hc g2⟩,f1,fun g hg u' hu' hg'=>h4 g hg (f2 u' hu' g hg')⟩,?_,fun X' k hP hU=>⟨v,vs',h1,?_,f3 X' (k+1) hP fun j u hj=>?_⟩⟩
    ·intro u hu g hg
     rw[h1];simp only[K9,zLM,Option.mem_toList];rcases zLH.1 hu with rfl|hu
     ·exact .inl hg
     ·exact .inr (f2 u hu g hg)
    ·obtain⟨p1,p2,p3⟩:=hU 0 v rfl
     exact⟨p1.symm,p2,p3⟩
    ·have:=hU (j+1) u hj
     rwa[show k+(j+1)=k+1+j by omega]at this
   ·cases hq
  ·cases hq
 |none::ks,.cons a b,y,vs,qs,hq,h=>by
  simp only[Yo]at hq;split at hq
  ·rename_i hc
   obtain⟨v,vs',h1,h2,h3,_⟩:=h;obtain⟨us,f1,f2,f3⟩:=JD hq h3;refine⟨us,f1,fun u hu g hg=>by rw[h1];simpa[K9,nR] using f2 u hu g hg,fun X' k hP hU=>⟨v,vs',h1,?_,f3 X' k hP hU⟩⟩
   show (a.gr X'.P).v _ _ _ _
   rw[hP];exact XT hc h2
  ·cases hq
 | [],.nil,y,vs,qs,hq,h=>by
  cases hq
  exact⟨[],trivial,(fun u hu=>by cases hu),fun X' k hP hU=>h⟩
 | [],.int _,_,_,_,h,_ | [],.bool,_,_,_,h,_ | [],.str,_,_,_,h,_ | [],.sl _,_,_,_,h,_ | [],.cons ..,_,_,_,h,_ | [],.arr ..,_,_,_,h,_ | [],.box ..,_,_,_,h,_ | [],.fn ..,_,_,_,h,_ | [],.seq ..,_,_,_,h,_ | [],.slo ..,_,_,_,h,_ | [],.mp ..,_,_,_,h,_=>by cases h
 |some _::_,.int _,_,_,_,h,_|some _::_,.bool,_,_,_,h,_|some _::_,.str,_,_,_,h,_|some _::_,.sl _,_,_,_,h,_|some _::_,.nil,_,_,_,h,_|some _::_,.arr ..,_,_,_,h,_|some _::_,.box ..,_,_,_,h,_|some _::_,.fn ..,_,_,_,h,_|some _::_,.seq ..,_,_,_,h,_|some _::_,.slo ..,_,_,_,h,_|some _::_,.mp ..,_,_,_,h,_=>by cases h
 |none::_,.int _,_,_,_,h,_|none::_,.bool,_,_,_,h,_|none::_,.str,_,_,_,h,_|none::_,.sl _,_,_,_,h,_|none::_,.nil,_,_,_,h,_|none::_,.arr ..,_,_,_,h,_|none::_,.box ..,_,_,_,h,_|none::_,.fn ..,_,_,_,h,_|none::_,.seq ..,_,_,_,h,_|none::_,.slo ..,_,_,_,h,_|none::_,.mp ..,_,_,_,h,_=>by cases h
def tgs(O:zR):Nat→List Value→zR
 |_,[]=>O
 |τ,u::us=>tag (tgs O (τ+1) us) u.ownBlock τ
theorem uY{O:zR}{b:Nat}:∀ {τ:Nat} {us:List Value},(∀u∈us,u.ownBlock≠some b)→tgs O τ us b=O b
 |_,[],_=>rfl
 |τ,u::us,h=>by
  unfold tgs;rw[gC (h u (by simp)),uY fun u' hu'=>h u' (by simp[hu'])]
theorem qI{A:Nat→Prop}{O Oc:zR}{w0 w:World}(h:Base A O w0 Oc w):∀ {τ:Nat} {us:List Value},τ≠0→(∀u∈us,∀g,u.ownBlock=some g→A g∧g<w.heap.size)→Base A O w0 (tgs Oc τ us) w
 |_,[],_,_=>h
 |τ,u::us,h0,hu=>(qI h (τ:=τ+1) (us:=us) (by omega) fun u' hu'=>hu u' (by simp[hu'])).tag h0 (hu u (by simp))
def S.rU(s:S)(d:Option Tmp)(φ:AV):List OwQ→S
 | []=>s.put d φ
 |q::qs=>(s.obj none (.sl true q.2.1 q.1 q.2.2) .top).rU d φ qs
theorem Inv.rU{d:Option Tmp}{φ:AV}:∀(qs:List OwQ) (s:S),Inv s (s.rU d φ qs)
 | [],s=>Inv.put _ _ _
 |q::qs,s=>(Inv.obj _ _ _ _).trans (Inv.rU qs _)
section
variable {F:Frm} {a:Act} {d:Option Tmp} {v:Value} {φ:AV} {O':zR} {w':World}
theorem mI(hd:F.dst d)(hB:Base F.A F.O0 F.w0 O' w'):∀ {qs:List OwQ} {us:List Value} {s:S} {X:Cx} {w:World} {τ:Nat},RelX F s a w X→Ext w w'→KX none X.O w O' w'→(qs=[]→X.O=O')→(τ≠0∧F.x.st<τ)→(∀k e,look s.M k=some e→X.ι k<τ) →
  qs.length=us.length→(∀(j:Nat) q u,qs[j]?=some q→us[j]?=some u→zu (τ+j) (q.2.1.gr X.P) q.1 (Go.Lift.Fr F.w0) O' w' u q.2.2) →
  (∀X':Cx,X'.P=X.P→X'.O=O'→(∀k,k<X.n→X'.U k=X.U k)→X.n≤X'.n→(∀(j:Nat) u,us[j]?=some u→X'.U (s.n+j)=u∧s.n+j<X'.n∧u.oneCell'=true)→φ.holds X' w' v)→Rel F (s.rU d φ qs) (a.put d v) w'
 | [],us,s,X,w,τ,h,hE,hk,h0,hτ,hι,hl,hO,hφ=>by
  have hus:us=[]:=List.eq_nil_of_length_eq_zero hl.symm;subst hus;exact⟨_,h.val hE hd (hφ X rfl (h0 rfl) (fun _ _=>rfl) (zLF _) fun j u hj=>by simp at hj)⟩
 |q::qs,[],s,X,w,τ,h,hE,hk,h0,hτ,hι,hl,hO,hφ=>by cases hl
 |q::qs,u::us,s,X,w,τ,h,hE,hk,h0,hτ,hι,hl,hO,hφ=>by
  have hO0:zu τ (q.2.1.gr X.P) q.1 (Go.Lift.Fr F.w0) O' w' u q.2.2:=hO 0 q u rfl rfl;obtain⟨X2,r1,r2,r3,r4,r5,r6,r7,r8⟩:=h.zGn (d:=none) hE (fun _ e=>nomatch e) (v:=u) (u:=u) (mv:=.sl true q.2.1 q.1 q.2.2) (φ:=.top) hB hk ⟨hτ.1,by omega⟩ (fun k e he=>by have:=hι k e he;omega)
   (fun X' e1 e2 e3 e4 e5 e6 e7 e8 hle=>⟨trivial,by
    show zu _ _ _ _ _ _ _ _
    rw[e7,e8,e1,e4];show zu _ _ _ (X'.F) _ _ _ _
    rw[e3,h.Fn];exact hO0⟩)
  have hn:(s.obj none (.sl true q.2.1 q.1 q.2.2) .top).n=s.n+1:=rfl
  refine mI hd hB (qs:=qs) (us:=us) (τ:=τ+1) r1 (Ext.refl _) ⟨zLF _,fun b _ _=>⟨by rw[r3],rfl⟩⟩ (fun _=>r3) ⟨by omega,by omega⟩ (fun k e he=>?_) (by simpa using hl) (fun j q' u' hq hu=>?_) (fun X' hP hO' hUo hno hU=>hφ X' (hP.trans r2) hO' (fun k hk=>(hUo k (by rw[r8];have:=h.n;omega)).trans (r7.U k hk)) (zLK r7.n hno) fun j u' hj=>?_)
  ·rcases zD he with ⟨h1,h2⟩|⟨h1,h2⟩
   ·subst h1;rw[r6];omega
   ·rw[r5 k (Ne.symm h1)];have:=hι k e h2;omega
  ·have:=hO (j+1) q' u' hq hu
   rw[show τ+(j+1)=τ+1+j by omega]at this
   rw[r2];exact this
  ·cases j with
   |zero =>
    simp only[List.getElem?_cons_zero,Option.some.injEq]at hj;subst hj;exact⟨(hUo s.n (by rw[r8];omega)).trans r4,by rw[r8]at hno;omega,ZN hO0⟩
   |succ j =>
    have:=hU j u' hj;rw[hn]at this;rwa[show s.n+1+j=s.n+(j+1) by omega]at this
end
theorem qc{P:Program}{B:Nat}{w:World}:∀ {qs:List OwQ} {us:List Value},S7 P B w qs us→qs.length=us.length
 | [],[],_=>rfl
 |q::qs,u::us,h=>by simp[qc h.2.1]
 | [],_::_,h=>h.elim
 |_::_,[],h=>h.elim
theorem CF{P:Program}{B:Nat}{w:World}:∀ {qs:List OwQ} {us:List Value},S7 P B w qs us→∀u∈us,∃q,OwU P B w q u
 | [],[],_,u,hu=>by cases hu
 |q::qs,u0::us,h,u,hu=>by
  rcases zLH.1 hu with rfl|hu
  ·exact⟨q,h.1⟩
  ·exact CF h.2.1 u hu
 | [],_::_,h,_,_=>h.elim
 |_::_,[],h,_,_=>h.elim
theorem CD{P:Program}{B:Nat}{w:World}{O:zR}:∀ {qs:List OwQ} {us:List Value} {τ:Nat},S7 P B w qs us→∀(j:Nat) q u,qs[j]?=some q→us[j]?=some u→OwU P B w q u∧∀g,u.ownBlock=some g→tgs O τ us g=τ+j
 | [],[],_,_,j,q,u,hq,_=>by simp at hq
 |q0::qs,u0::us,τ,h,j,q,u,hq,hu=>by
  cases j with
  |zero =>
   simp only[List.getElem?_cons_zero,Option.some.injEq]at hq hu;subst hq hu;exact⟨h.1,fun g hg=>by unfold tgs;rw[hg];exact yj _ _ _⟩
  |succ j =>
   have hq':qs[j]?=some q:=by simpa using hq
   have hu':us[j]?=some u:=by simpa using hu
   obtain⟨r1,r2⟩:=CD (O:=O) (τ:=τ+1) h.2.1 j q u hq' hu';refine⟨r1,fun g hg=>?_⟩
   unfold tgs;rw[gC (fun e=>h.2.2 g e u (zLI hu') hg),r2 g hg]
   omega
 | [],_::_,_,h,_,_,_,_,_=>h.elim
 |_::_,[],_,h,_,_,_,_,_=>h.elim
def zAI(ks:List (Option TypeId)):Bool:=Nat.ble 2 (ks.filter Option.isSome).length
theorem RelX.zCy{F:Frm}{s:S}{a:Act}{w w':World}{X:Cx}(h:RelX F s a w X)(hE:Ext w w'){d:Option Tmp}(hd:F.dst d){v:Value}{ks:List (Option TypeId)}{rs:Ty}{y:rs.D}{vs:List Value}{qs:List OwQ}(hm:zAI ks=true)(hq:Yo ks rs y=some qs)(hr:Y6 X.P X.O w.heap.size w' ks rs vs y)(ht:kc vs v) :
  Rel F (s.rU d (nJ (Cc s.n ks rs y)) qs) (a.put d v) w':=by
 have hne:vs≠[]:=by
  intro e;subst e
  match ks,rs,y,hq,hr,hm with
  | [],_,_,_,_,hm=>cases hm
  |k::ks,.cons a b,y,hq,h,_=>obtain⟨v,vs',h1,_⟩:=h;cases h1
 obtain⟨us,f1,_,f3⟩:=JD hq hr;obtain⟨τ,hτ0,hτ1⟩:∃τ,(τ≠0∧F.x.st<τ)∧∀k e,look s.M k=some e→X.ι k<τ:=by
  refine⟨1+F.x.st+(s.M.map fun e=>X.ι e.1).sum,⟨by omega,by omega⟩,fun k e h=>?_⟩
  have:=uC (l:=s.M.map fun e=>X.ι e.1) (x:=X.ι k) (List.mem_map.2 ⟨_,ZI h,rfl⟩)
  omega
 have hge:∀u∈us,∀g,u.ownBlock=some g→w.heap.size≤g∧g<w'.heap.size:=fun u hu g hg=>by
  obtain⟨q,hq⟩:=CF f1 u hu;obtain⟨zs,g1,_⟩:=hq.o;exact⟨g1.Kk g hg,g1.gM g hg⟩
 have hB:=h.base.step hE h.ok0;have hs:=h.base.size
 refine mI hd (qI (τ:=τ) (us:=us) hB hτ0.1 fun u hu g hg=>⟨hB.new g (by have:=(hge u hu g hg).1;omega),(hge u hu g hg).2⟩) h hE ⟨hE.size,fun b hb _=>⟨uY fun u hu e=>by have:=(hge u hu b e).1;omega,hE.block b hb⟩⟩ (fun e=>?_) hτ0 hτ1 (qc f1) (fun j q u hqj huj=>?_) fun X' hP _ _ _ hU=>E2 (f3 X' s.n hP hU) hne ht
 ·subst e
  have:=qc f1;have:us=[]:=List.eq_nil_of_length_eq_zero this.symm
  subst this;rfl
 ·obtain⟨r1,r2⟩:=CD (O:=X.O) (τ:=τ) f1 j q u hqj huj
  obtain⟨zs,g1,g2⟩:=r1.o;exact⟨zs,g1.mono (Nat.zero_le _),g2 _,fun g hg=>⟨r2 g hg,by have:=(hge u (zLI huj) g hg).1;show F.w0.heap.size≤g;omega⟩⟩
def Knd.q:(k:Knd)→k.D→List OwQ
 |.o _ t T,xs=>[(T,⟨t,xs⟩)]
 |.pr a b,x=>a.q x.1++b.q x.2
 |.ag l,x=>l.q x
 |_,_=>[]
def Knd.a(n:Nat):(k:Knd)→k.D→AV
 |.v t,x=>.rd t x
 |.o ..,_=>.ob n
 |.un,_=>.un
 |.pr a b,x=>.pr (a.a n x.1) (b.a (n+(a.q x.1).length) x.2)
 |.ag l,x=>.ag (l.a n x)
 |_,_=>.top
theorem w9{P:Program}{O:zR}{w:World}{B:Nat}:∀ {k:Knd} {x:k.D} {cs us:List Value},CM P O w B k x cs us→(k.q x).length=us.length∧∀(j:Nat) q u,(k.q x)[j]?=some q→us[j]?=some u→u.oneCell'=true∧∃vs,OwnS w B q.1 (q.2.1.gr P).sz u vs∧yr (q.2.1.gr P) O w vs q.2.2
 |.v t,x,cs,us,h=>by obtain⟨_,rfl⟩:=h;exact⟨rfl,fun j q u hq=>by simp[Knd.q]at hq⟩
 |.o nw t T,xs,cs,us,h=>by
  obtain⟨u,vs,rfl,rfl,h0,h1,h2⟩:=h;refine⟨rfl,fun j q u' hq hu=>?_⟩
  cases j with
  |zero=>simp[Knd.q]at hq hu;subst hq hu;exact⟨h0,vs,h1,h2⟩
  |succ j=>simp[Knd.q]at hq
 |.un,_,cs,us,h=>by obtain⟨_,rfl⟩:=h;exact⟨rfl,fun j q u hq=>by simp[Knd.q]at hq⟩
 |.pr a b,x,cs,us,h=>by
  obtain⟨c1,c2,u1,u2,rfl,rfl,h1,h2⟩:=h;obtain⟨a1,a2⟩:=w9 h1;obtain⟨b1,b2⟩:=w9 h2;refine⟨by simp[Knd.q,a1,b1],fun j q u hq hu=>?_⟩
  simp only[Knd.q]at hq;by_cases hj:j<u1.length
  ·rw[zLR (by omega)]at hq
   rw[zLR hj]at hu;exact a2 j q u hq hu
  ·rw[zLS (by omega),a1]at hq
   rw[zLS (by omega)]at hu
   exact b2 _ q u hq hu
 |.ag l,x,cs,us,h=>w9 (k:=l) h
 |.m ..,_,_,_,h=>h.elim
 |.bv ..,_,_,_,h=>h.elim
theorem lF{P:Program}{O:zR}{w:World}{B:Nat}{X':Cx}(hP:X'.P=P)(hk:zg 0 O w X'.O w):∀ {k:Knd} {x:k.D} {cs us:List Value} {n:Nat},CM P O w B k x cs us→(∀(j:Nat) u,us[j]?=some u→X'.U (n+j)=u∧n+j<X'.n)→((k.a n x).sem X' w).c cs
 |.v t,x,cs,us,n,h,hU=>by
  show (t.gr X'.P).rel X'.O w cs x
  rw[hP];exact GR.mono _ hk h.1
 |.o nw t T,xs,cs,us,n,h,hU=>by
  obtain⟨u,vs,rfl,rfl,h0,h1,h2⟩:=h;obtain⟨g1,g2⟩:=hU 0 u rfl;exact⟨u,rfl,h0,g1.symm,g2,h0⟩
 |.un,_,cs,us,n,h,hU=>by obtain⟨rfl,rfl⟩:=h;exact rfl
 |.pr a b,x,cs,us,n,h,hU=>by
  obtain⟨c1,c2,u1,u2,rfl,rfl,h1,h2⟩:=h;have hl:=(w9 h1).1
  have a1:=lF hP hk (n:=n) h1 fun j u hj=>hU j u (by rw[zLR (zLJ.1 hj).1];exact hj)
  have b1:=lF hP hk (n:=n+(a.q x.1).length) h2 fun j u hj=>by
   have:=hU (u1.length+j) u (by rw[zLS (by omega),Nat.add_sub_cancel_left];exact hj)
   rw[hl];rwa[←Nat.add_assoc]at this
  exact⟨c1,c2,rfl,a1,b1⟩
 |.ag l,x,cs,us,n,h,hU=>lF (k:=l) hP hk (n:=n) h hU
 |.m ..,_,_,_,_,h,_=>h.elim
 |.bv ..,_,_,_,_,h,_=>h.elim
def Knd.zEH:Knd→Bool
 |.v _|.o .. | .ag _=>true
 |_=>false
theorem zAo{P:Program}{O:zR}{w:World}{B:Nat}{X':Cx}(hP:X'.P=P)(hk:zg 0 O w X'.O w){k:Knd}{x:k.D}{cs us:List Value}{n:Nat}(hv:k.zEH=true)(h:CM P O w B k x cs us)(hU:∀(j:Nat) u,us[j]?=some u→X'.U (n+j)=u∧n+j<X'.n):(k.a n x).holds X' w (yE k.agg cs):=by
 have hc:=lF hP hk (n:=n) h hU
 cases k with
 |v t=>exact zGj hc
 |o nw t T =>
  obtain⟨u,vs,rfl,rfl,h0,h1,h2⟩:=h;obtain⟨g1,g2⟩:=hU 0 u rfl;exact⟨g1.symm,g2,h0⟩
 |ag l=>exact⟨cs,hc,rfl⟩
 |_=>cases hv
def Knd.Dw:Knd→Bool
 |.pr a b=>a.zEH && b.Dw
 |.un=>true
 |_=>false
theorem GM{P:Program}{O:zR}{w:World}{B:Nat}{X':Cx}(hP:X'.P=P)(hk:zg 0 O w X'.O w):∀ {k:Knd} {x:k.D} {vs us:List Value} {n:Nat},k.Dw=true→K8 P O w B k x vs us→(∀(j:Nat) u,us[j]?=some u→X'.U (n+j)=u∧n+j<X'.n)→((k.a n x).sem X' w).l vs
 |.pr a b,x,vs,us,n,hv,h,hU=>by
  simp only[Knd.Dw,zLD]at hv;obtain⟨v,vs',u1,u2,cs,rfl,rfl,rfl,h1,h2⟩:=h;have hl:=(w9 h1).1
  refine⟨_,vs',rfl,zAo hP hk hv.1 h1 fun j u hj=>hU j u (by rw[zLR (zLJ.1 hj).1];exact hj),GM hP hk hv.2 h2 fun j u hj=>?_⟩
  have:=hU (u1.length+j) u (by rw[zLS (by omega),Nat.add_sub_cancel_left];exact hj)
  rw[hl];rwa[←Nat.add_assoc]at this
 |.un,_,vs,us,n,_,h,hU=>h.1
 |.v _,_,_,_,_,_,h,_|.o ..,_,_,_,_,_,h,_|.m ..,_,_,_,_,_,h,_|.bv ..,_,_,_,_,_,h,_|.ag _,_,_,_,_,_,h,_=>h.elim
theorem GL{P:Program}{O:zR}{w:World}{B:Nat}:∀ {k:Knd} {x:k.D} {vs us:List Value},K8 P O w B k x vs us→(k.q x).length=us.length∧∀(j:Nat) q u,(k.q x)[j]?=some q→us[j]?=some u→u.oneCell'=true∧∃vs,OwnS w B q.1 (q.2.1.gr P).sz u vs∧yr (q.2.1.gr P) O w vs q.2.2
 |.pr a b,x,vs,us,h=>by
  obtain⟨v,vs',u1,u2,cs,rfl,rfl,_,h1,h2⟩:=h;obtain⟨a1,a2⟩:=w9 h1;obtain⟨b1,b2⟩:=GL h2;refine⟨by simp[Knd.q,a1,b1],fun j q u hq hu=>?_⟩
  simp only[Knd.q]at hq;by_cases hj:j<u1.length
  ·rw[zLR (by omega)]at hq
   rw[zLR hj]at hu;exact a2 j q u hq hu
  ·rw[zLS (by omega),a1]at hq
   rw[zLS (by omega)]at hu
   exact b2 _ q u hq hu
 |.un,_,vs,us,h=>by obtain⟨_,rfl⟩:=h;exact⟨rfl,fun j q u hq=>by simp[Knd.q]at hq⟩
 |.v _,_,_,_,h|.o ..,_,_,_,h|.m ..,_,_,_,h|.bv ..,_,_,_,h|.ag _,_,_,_,h=>h.elim
def Knd.un?:Knd→Bool
 |.un=>true
 |_=>false
theorem NF{P:Program}{O:zR}{w:World}{B:Nat}{k:Knd}{x:k.D}{vs us:List Value}(hn:k.un?=false)(h:K8 P O w B k x vs us):vs≠[]:=by
 cases k<;>first|exact h.elim|cases hn|skip
 obtain⟨v,vs',u1,u2,cs,rfl,_⟩:=h;simp
theorem UX{O:zR}{us:List Value}{b:Nat}(h:uF O us b=0):O b=0∧∀u∈us,u.ownBlock≠some b:=by
 unfold uF at h;split at h
 ·cases h
 ·rename_i hn
  refine⟨h,fun u hu e=>hn ?_⟩
  rw[List.any_eq_true];exact⟨u,hu,by rw[e];simp⟩
theorem Qe{O:zR}:∀ {us:List Value} {τ:Nat},(us.filterMap Value.ownBlock).Nodup→∀(j:Nat) u g,us[j]?=some u→u.ownBlock=some g→tgs O τ us g=τ+j
 | [],_,_,j,u,g,h,_=>by simp at h
 |u0::us,τ,hn,j,u,g,hu,hg=>by
  have hnt:(us.filterMap Value.ownBlock).Nodup:=by
   cases h0:u0.ownBlock with
   |none=>simpa[h0] using hn
   |some g0=>rw[List.filterMap_cons_some h0]at hn;exact(List.nodup_cons.1 hn).2
  cases j with
  |zero =>
   simp only[List.getElem?_cons_zero,Option.some.injEq]at hu;subst hu;unfold tgs;rw[hg];exact yj _ _ _
  |succ j =>
   have hu':us[j]?=some u:=by simpa using hu
   have hne:u0.ownBlock≠some g:=fun h0=>by
    rw[List.filterMap_cons_some h0]at hn;exact(List.nodup_cons.1 hn).1 (List.mem_filterMap.2 ⟨u,zLI hu',hg⟩)
   unfold tgs;rw[gC hne,Qe (τ:=τ+1) hnt j u g hu' hg];omega
section
variable {F:Frm} {s:S} {a:Act} {w w':World} {X:Cx}
theorem RelX.zKg(h:RelX F s a w X)(hE:Ext w w'){d:Option Tmp}(hd:F.dst d){v:Value}{kd:Knd}{y:kd.D}{vs us:List Value}(hv:kd.Dw=true)(hun:kd.un?=false)(hr:K8 X.P (uF X.O us) w' w.heap.size kd y vs us)(hnd:(us.filterMap Value.ownBlock).Nodup)(ht:kc vs v) :
  Rel F (s.rU d (nJ (kd.a s.n y)) (kd.q y)) (a.put d v) w':=by
 have hne:=NF hun hr;obtain⟨f1,f2⟩:=GL hr;obtain⟨τ,hτ0,hτ1⟩:∃τ,(τ≠0∧F.x.st<τ)∧∀k e,look s.M k=some e→X.ι k<τ:=by
  refine⟨1+F.x.st+(s.M.map fun e=>X.ι e.1).sum,⟨by omega,by omega⟩,fun k e h=>?_⟩
  have:=uC (l:=s.M.map fun e=>X.ι e.1) (x:=X.ι k) (List.mem_map.2 ⟨_,ZI h,rfl⟩)
  omega
 have hown:∀u∈us,∀g,u.ownBlock=some g→w.heap.size≤g∧g<w'.heap.size:=fun u hu g hg=>by
  obtain⟨j,hj⟩:=List.mem_iff_getElem?.1 hu;have hlt:j<(kd.q y).length:=by rw[f1];exact(zLJ.1 hj).1
  obtain⟨_,zs,g1,_⟩:=f2 j _ u (zLT hlt) hj;exact⟨g1.Kk g hg,g1.gM g hg⟩
 have hB:=h.base.step hE h.ok0;have hs:=h.base.size
 have hkt:zg 0 (uF X.O us) w' (tgs X.O τ us) w':=⟨zLF _,fun b _ hz=>by
  obtain⟨q1,q2⟩:=UX hz;exact⟨(uY q2).trans q1,rfl⟩⟩
 refine mI hd (qI (τ:=τ) (us:=us) hB hτ0.1 fun u hu g hg=>⟨hB.new g (by have:=(hown u hu g hg).1;omega),(hown u hu g hg).2⟩) h hE ⟨hE.size,fun b hb _=>⟨uY fun u hu e=>by have:=(hown u hu b e).1;omega,hE.block b hb⟩⟩ (fun e=>?_) hτ0 hτ1 f1 (fun j q u hqj huj=>?_) fun X' hP hO' _ _ hU=>?_
 ·have:us=[]:=List.eq_nil_of_length_eq_zero (by rw[←f1,e];rfl)
  subst this;rfl
 ·obtain⟨_,zs,g1,g2⟩:=f2 j q u hqj huj
  exact⟨zs,g1.mono (Nat.zero_le _),g2.mono hkt,fun g hg=>⟨Qe hnd j u g huj hg,by have:=(hown u (zLI huj) g hg).1;show F.w0.heap.size≤g;omega⟩⟩
 ·exact E2 (GM hP (by rw[hO'];exact hkt) hv hr fun j u hj=>⟨(hU j u hj).1,(hU j u hj).2.1⟩) hne ht
variable {E:VE} {d:Option Tmp} {T:TypeId} {pos:String} {aft:Array Edge} {g:Option (Nat×Bool)} {k:S→Comp β}
def mC(E:VE)(s:S)(d:Option Tmp)(φ:Option AV)(l:Option (List AV))(k:S→Comp β):Comp β:=match φ,l with
 |some (.cl f ca cb),some l=>match E.J f with
  |none=>Comp.fail
  |some fs=>match fs.kd.Dw && !fs.kd.un?,Xp ((ca.asv E.G s.M).2.2++(l.map (fun φ=>φ.asT E.G s.M)++(cb.asv E.G s.M).2.2)) fs.ps with
   |true,some z=>(fs.sem z).bind fun y=>k (s.rU d (nJ (fs.kd.a s.n y)) (fs.kd.q y))
   |_,_=>Comp.fail
 |_,_=>Comp.fail
theorem C9(hE:E.ok X.P)(h:RelX F s a w X)(hd:F.dst d){x:Operand}{xs:Array Operand}{ts:Array TypeId}:gP F s a w ⟨d,.call ⟨.value x,xs,ts⟩,T,pos,aft,g⟩ (mC E s d (rdO s.ep s.L [] [] x) (jK (rdO s.ep s.L [] []) xs.toList) k) k:=by
 intro nf y hr K Q hK;rw[←h.P];rw[←h.ep]at hr;unfold mC at hr;split at hr
 ·rename_i f ca cb l hφ hl
  split at hr
  ·cases hr
  ·rename_i fs hs
   split at hr
   ·rename_i z hvu hz
    rw[zLD]at hvu;obtain⟨y0,hy0,hr⟩:=run_bind hr;have H:=h.rd (Op.operands (.call ⟨.value x,xs,ts⟩))
    have k1:=H x _ (by simp[Op.operands,Call.operands]) hφ
    have hlen:=jg hl;have hget:=Kl hE.G h.m (a:=a) hl fun z ψ hz hψ=>H z ψ (by have hz':z∈xs:=Array.mem_toList_iff.1 hz;simp[Op.operands,Call.operands,hz']) hψ
    have hmap:(xs.map a.eval)=(xs.toList.map a.eval).toArray:=by rw[←Array.toList_map]
    obtain⟨vs,us,e1,e2,e3⟩:=k1;have A:=AV.jf hE.G ca h.m
    have B:=AV.jf hE.G cb h.m;obtain⟨f1,f2⟩:=hE.J f fs hs;have n1:=A.n e1
    have n2:=B.n e2;have hargs:fs.ps.args X.P X.O w (vs++(xs.toList.map a.eval++us)) z:=kZ hz (by simp[n1,n2,hlen]) (XA (R:=fun f v=>∀t x,f t=some x→(t.gr X.P).v X.O w v x) n1 (A.e e1) (XA (by simp[hlen]) hget (B.e e2)))
    have hp:=f2 X.O w h.okO _ _ hargs nf y0 hy0;refine KV (d:=d) (T:=T) (pos:=pos) (aft:=aft) (g:=g) (ts:=ts) e3 hmap (Xd f1 (by rw[Zk];exact hp)) K Q fun v w' hEx hv=>?_
    obtain⟨rs,us',h3,h4,h5⟩:=hv;exact hK _ _ _ (h.zKg hEx hd hvu.1 (by simpa using hvu.2) h4 h5 h3) (Inv.rU _ _) hr
   ·cases hr
 ·cases hr
end
section
variable {F:Frm} {s:S} {a:Act} {w:World} {X:Cx} {E:VE}
variable {d:Option Tmp} {T Y:TypeId} {pos:String} {aft:Array Edge} {g:Option (Nat×Bool)} {k:S→Comp β}
theorem B5(hE:E.ok X.P){M:MS}(hM:yF M X w)(hO:OkO X.O w){rd:Operand→Option AV}{x:Operand}{xs:Array Operand}{ts:Array TypeId}(H:ZT X w a rd (Op.operands (.call ⟨.value x,xs,ts⟩))){f:FuncId}{ca cb:AV}{l:List AV}(h1:rd x=some (.cl f ca cb))(h2:jK rd xs.toList=some l){fs:FS}(hs:E.G f=some fs)
  {z:fs.ps.D} (hz:Xp ((ca.asv E.G M).2.2++(l.map (fun φ=>φ.asT E.G M)++(cb.asv E.G M).2.2)) fs.ps=some z) {nf:Nat} {y:fs.rs.D} (hy:(fs.sem z).run nf=some y) :
  Ok X.P ⟨d,.call ⟨.value x,xs,ts⟩,T,pos,aft,g⟩ a w (fun w' v=>∃rs,kc rs v∧Y6 X.P X.O w.heap.size w' fs.rk fs.rs rs y):=by
 have k1:=H x _ (by simp[Op.operands,Call.operands]) h1
 have hlen:=jg h2;have hget:=Kl hE.G hM (a:=a) h2 fun y ψ hy hψ=>H y ψ (by have hy':y∈xs:=Array.mem_toList_iff.1 hy;simp[Op.operands,Call.operands,hy']) hψ
 have hmap:(xs.map a.eval)=(xs.toList.map a.eval).toArray:=by rw[←Array.toList_map]
 obtain⟨vs,us,e1,e2,e3⟩:=k1;have A:=AV.jf hE.G ca hM
 have B:=AV.jf hE.G cb hM;obtain⟨f1,f2⟩:=hE.G f fs hs;refine KV e3 hmap (Xd f1 ?_);rw[Zk];have n1:=A.n e1
 have n2:=B.n e2;have hargs:fs.ps.args X.P X.O w (vs++(xs.toList.map a.eval++us)) z:=kZ hz (by simp[n1,n2,hlen]) (XA (R:=fun f v=>∀t x,f t=some x→(t.gr X.P).v X.O w v x) n1 (A.e e1) (XA (by simp[hlen]) hget (B.e e2)))
 exact f2 X.O w hO _ _ hargs nf y hy
def zDN(G:FE):Option AV→Bool
 |some (.cl f _ _)=>match G f with
  |some fs=>fs.rk.any Option.isSome
  |none=>false
 |_=>false
def zGE(G:ME):Option AV→Bool
 |some (.cl f _ _)=>(G f).isSome
 |_=>false
def Ho{α:Type}(G:FuncId→Option α):Option AV→Bool
 |some (.cl f _ _)=>(G f).isSome
 |_=>false
def tlV:Option (List AV)→List AV
 |some (_::l)=>l
 |_=>[]
def rD:List (Option TypeId)→Ty→Bool
 |none::ks,.cons a b=>a.closed && rD ks b
 |some _::ks,.cons a b=>(match a with
  |.sl e=>e.closed
  |_=>false) && rD ks b
 | [],.nil=>true
 |_,_=>false
def Hm(G:FE)(M:MS)(fs:FS):MS:=match rD fs.rk fs.rs with
 |true=>SX G M
 |false=>M
theorem wF{P:Program}{O O':zR}{B:Nat}{w:World}:∀ {ks:List (Option TypeId)} {rs:Ty} {vs:List Value} {y:rs.D},rD ks rs=true→Y6 P O B w ks rs vs y→Y6 P O' B w ks rs vs y
 |k::ks,.cons a b,vs,y,hl,h=>by
  obtain⟨v,vs',h1,h2,h3,h4⟩:=h
  cases k with
  |none =>
   simp only[rD,zLD]at hl;exact⟨v,vs',h1,XT hl.1 h2,wF hl.2 h3,h4⟩
  |some T =>
   simp only[rD,zLD]at hl;refine⟨v,vs',h1,?_,wF hl.2 h3,h4⟩;cases a<;>first|exact h2.elim|skip
   obtain⟨zs,g1,g2⟩:=h2;exact⟨zs,g1,JC hl.1 g2⟩
 | [],.nil,vs,_,_,h=>h
 | [],.int _,_,_,h,_ | [],.bool,_,_,h,_ | [],.str,_,_,h,_ | [],.sl _,_,_,h,_ | [],.cons ..,_,_,h,_ | [],.arr ..,_,_,h,_ | [],.box ..,_,_,h,_ | [],.fn ..,_,_,h,_ | [],.seq ..,_,_,h,_ | [],.slo ..,_,_,h,_ | [],.mp ..,_,_,h,_=>by cases h
 |_::_,.int _,_,_,_,h|_::_,.bool,_,_,_,h|_::_,.str,_,_,_,h|_::_,.sl _,_,_,_,h|_::_,.nil,_,_,_,h|_::_,.arr ..,_,_,_,h|_::_,.box ..,_,_,_,h|_::_,.fn ..,_,_,_,h|_::_,.seq ..,_,_,_,h|_::_,.slo ..,_,_,_,h|_::_,.mp ..,_,_,_,h=>h.elim
def D7(E:VE)(s:S)(d:Option Tmp)(φ:Option AV)(l:Option (List AV))(k:S→Comp β):Comp β:=match φ,l with
 |some (.cl f ca cb),some l=>match E.G f with
  |none=>Comp.fail
  |some fs=>match Xp ((ca.asv E.G (Hm E.G s.M fs)).2.2++(l.map (fun φ=>φ.asT E.G (Hm E.G s.M fs))++(cb.asv E.G (Hm E.G s.M fs)).2.2)) fs.ps with
   |some z=>(fs.sem z).bind fun y=>match YS fs.rk fs.rs y with
    |some q=>k (s.obj d (.sl true q.2.1 q.1 q.2.2) (Hf s.n fs.rk fs.rs y))
    |none=>match zAI fs.rk,Yo fs.rk fs.rs y with
     |true,some qs=>k (s.rU d (nJ (Cc s.n fs.rk fs.rs y)) qs)
     |_,_=>k (s.put d (CW fs.rs y))
   |none=>Comp.fail
 |_,_=>Comp.fail
theorem Uo{P:Program}{O:zR}{B:Nat}{w:World}{ks:List (Option TypeId)}{rs:Ty}{vs:List Value}{y:rs.D}{q:TypeId×(t:Ty)×List t.D}(hq:YS ks rs y=some q)(h:Y6 P O B w ks rs vs y):vs≠[]:=by
 intro e;subst e
 match ks,rs,y,hq,h with
 |k::ks,.cons a b,y,hq,h=>obtain⟨v,vs',h1,_⟩:=h;cases h1
theorem IH(hE:E.ok X.P)(h:RelX F s a w X)(hd:F.dst d){x:Operand}{xs:Array Operand}{ts:Array TypeId}:gP F s a w ⟨d,.call ⟨.value x,xs,ts⟩,T,pos,aft,g⟩ (D7 E s d (rdO s.ep s.L [] [] x) (jK (rdO s.ep s.L [] []) xs.toList) k) k:=by
 intro nf y hr K Q hK;rw[←h.P];rw[←h.ep]at hr;unfold D7 at hr;split at hr
 ·rename_i f ca cb l hφ hl
  split at hr
  ·cases hr
  ·rename_i fs hs
   split at hr
   ·rename_i z hz
    obtain⟨y0,hy0,hr⟩:=run_bind hr;have hok:Ok X.P ⟨d,.call ⟨.value x,xs,ts⟩,T,pos,aft,g⟩ a w (fun w' v=>∃rs,kc rs v∧Y6 X.P X.O w.heap.size w' fs.rk fs.rs rs y0):=by
     unfold Hm at hz;split at hz
     ·rename_i hlr
      refine yY (B5 (X:=X.lent) (d:=d) (T:=T) (pos:=pos) (aft:=aft) (g:=g) (ts:=ts) hE (BR hE.G h.m) (Nh w) (fun z ψ hz hψ=>(ψ.mono (X.le_lent w) fun _=>Ext.refl w).1 _ (h.rd _ z ψ hz hψ)) hφ hl hs hz hy0) fun w' v _ hv=>?_
      obtain⟨rs,h3,h4⟩:=hv;exact⟨rs,h3,wF hlr h4⟩
     ·exact B5 (d:=d) (T:=T) (pos:=pos) (aft:=aft) (g:=g) (ts:=ts) hE h.m h.okO (h.rd _) hφ hl hs hz hy0
    split at hr
    ·rename_i q hq
     refine hok K Q fun v w' hEx hv=>?_
     obtain⟨rs,h3,h4⟩:=hv;obtain⟨u,h5,h6⟩:=Jv (k:=s.n) hq h4;refine hK _ _ _ (h.Cg hEx hd h5 fun X' e1 hle e2 e3 e4=>?_) (Inv.obj _ _ _ _) hr
     exact GV (h6 X' e1 e2 e3 e4) (Uo hq h4) h3
    ·split at hr
     ·rename_i qs hm hqs
      refine hok K Q fun v w' hEx hv=>?_
      obtain⟨rs,h3,h4⟩:=hv;exact hK _ _ _ (h.zCy hEx hd hm hqs h4 h3) (Inv.rU _ _) hr
     ·refine hok K Q fun v w' hEx hv=>?_
      obtain⟨rs,h3,h4⟩:=hv;exact hK _ _ _ ⟨_,h.val hEx hd (uc (XM (fun b hb=>h.okO b hb) h4) h3)⟩ (Inv.put _ _ _) hr
   ·cases hr
 ·cases hr
def WD{α:Type}:List α→Option (α×α)
 | [x,y]=>some (x,y)
 |_=>none
theorem uX{α:Type}{l:Array α}{p:α×α}(h:WD l.toList=some p):l=#[p.1,p.2]:=by
 unfold WD at h;split at h
 ·rename_i x y e;cases h;exact Array.ext' e
 ·cases h
def zAJ:Builtin→Bool
 |.clear=>true
 |_=>false
theorem Nu{b:Builtin}(h:zAJ b=true):b=.clear:=by cases b<;>first|rfl|cases h
def one? {α:Type}:List α→Option α
 | [x]=>some x
 |_=>none
theorem GW{α:Type}{l:Array α}{p:α}(h:one? l.toList=some p):l=#[p]:=by
 unfold one? at h;split at h
 ·rename_i x e;cases h;exact Array.ext' (by simpa using e)
 ·cases h
def Ww(E:VE)(s:S)(Y:TypeId)(x:Operand)(l h m:Option Operand):Option (Operand×(Nat×Bool×TypeId×(t:Ty)×List t.D)):=match l,h,m with
 |none,some y,none=>match rdO s.ep s.L [] [] x with
  |some φ=>match X4 s.M φ,look E.T Y with
   |some p,some i=>match slD i.dd with
    |some e=>match look E.T e with
     |some j=>match Nat.beq p.2.2.2.1.sz j.sz with
      |true=>some (y,p)
      |false=>none
     |none=>none
    |none=>none
   |_,_=>none
  |none=>none
 |_,_,_=>none
def isApp:Builtin→Bool
 |.append=>true
 |_=>false
theorem Nv{b:Builtin}(h:isApp b=true):b=.append:=by cases b<;>first|rfl|cases h
def AV.refs:AV→List Nat
 |.ob k|.bx k _|.ba k .. | .el k .. | .sx k .. | .px k _=>[k]
 |.cl _ a b|.pr a b=>a.refs++b.refs
 |.tp l|.ag l=>l.refs
 |_=>[]
def CX(rd:Operand→Option AV):List Operand→List Nat
 | []=>[]
 |x::xs=>match rd x with
  |some φ=>φ.refs++CX rd xs
  |none=>CX rd xs
def zKj:Option AV→Bool
 |some (.bx _ _)=>true
 |_=>false
def clC(G:FE):Option AV→Bool
 |some (.cl f _ _)=>match G f with
  |some fs=>fs.rs.closed || rD fs.rk fs.rs
  |none=>true
 |some (.rd (.fn _ tr) _)=>tr.closed
 |_=>true
def St(E:VE)(s:S)(o:Op):S:=match o with
 |.buildSlice _ _ ps=>s.XW (CX (rdO s.ep s.L [] []) (ps.toList.map (·.2)))
 |.store _ x z=>match zKj (rdO s.ep s.L [] [] x) with
  |true=>s
  |false=>s.XW (CX (rdO s.ep s.L [] []) [z])
 |.call c=>match c.callee with
  |.value x=>match clC E.G (rdO s.ep s.L [] [] x) && !Ho E.J (rdO s.ep s.L [] [] x) with
   |true=>s
   |false=>s.XW (CX (rdO s.ep s.L [] []) (x::c.args.toList))
  |_=>s
 |_=>s
def Hc(E:VE)(wr:List Nat)(s:S)(o:Oper)(k:S→Comp β):Comp β:=match o.op with
 |.alloc Y=>uZ E s o.dst Y k
 |.box Y x=>SH s o.dst Y (rdO s.ep s.L [] [] x) k
 |.store Y x z=>match o.dst with
  |none=>nu E s Y (rdO s.ep s.L [] [] x) (rdO s.ep s.L [] [] z) k
  |some _=>Comp.fail
 |.buildSlice Y n ps=>SG E s o.dst (HO E.T E.G s.M (rdO s.ep s.L [] []) Y n ps.toList) k
 |.makeSlice Y x z=>D6 E s o.dst Y x z ((rdO s.ep s.L [] [] z).bind AV.int?) k
 |.call c=>match c.callee with
  |.builtin b=>match isApp b with
   |true=>match WD c.args.toList,WD c.argTypes.toList with
    |some p,some q=>match Nat.beq q.1 q.2 with
     |true=>match zEF (rdO s.ep s.L [] [] p.1) with
      |some r=>D9 E s o.dst q.1 r.1 r.2 (rdO s.ep s.L [] [] p.2) k
      |none=>SI E s o.dst q.1 (rdO s.ep s.L [] [] p.1) (rdO s.ep s.L [] [] p.2) k
     |false=>D8 E s o.dst q.1 q.2 (rdO s.ep s.L [] [] p.1) ((rdO s.ep s.L [] [] p.2).bind AV.int?) k
    |_,_=>Comp.fail
   |false=>match zAJ b with
    |true=>match one? c.args.toList,one? c.argTypes.toList with
     |some x,some Y=>n4 E s o.dst Y (rdO s.ep s.L [] [] x) k
     |_,_=>Comp.fail
    |false=>nM (val E s.M s.ep s.L [] [] wr o.dst o.op) s o.dst k
  |.value x=>match zGE E.H (rdO s.ep s.L [] [] x) with
   |true=>mA E s o.dst (rdO s.ep s.L [] [] x) (jK (rdO s.ep s.L [] []) c.args.toList) k
   |false=>match Ho E.O (rdO s.ep s.L [] [] x) with
   |true =>
    let s1:=s.YA E (tlV (jK (rdO s.ep s.L [] []) c.args.toList))
    n5 E s1 o.dst (rdO s1.ep s1.L [] [] x) (jK (rdO s1.ep s1.L [] []) c.args.toList) k
   |false=>match Ho E.J (rdO s.ep s.L [] [] x) with
   |true=>mC E s o.dst (rdO s.ep s.L [] [] x) (jK (rdO s.ep s.L [] []) c.args.toList) k
   |false=>match Ho E.N (rdO s.ep s.L [] [] x) with
   |true=>n9 E s o.dst (rdO s.ep s.L [] [] x) (jK (rdO s.ep s.L [] []) c.args.toList) k
   |false=>match zDN E.G (rdO s.ep s.L [] [] x) with
   |true=>D7 E s o.dst (rdO s.ep s.L [] [] x) (jK (rdO s.ep s.L [] []) c.args.toList) k
   |false=>nM (val E s.M s.ep s.L [] [] wr o.dst o.op) s o.dst k
  |.invoke _ _=>Comp.fail
 |.makeMap Y n=>nx E s o.dst Y k n
 |.mapUpdate Y m x v=>match o.dst with
  |none=>qh E s Y k (rdO s.ep s.L [] [] m) (rdO s.ep s.L [] [] x) (rdO s.ep s.L [] [] v)
  |some _=>Comp.fail
 |.insert Y m x v=>match o.dst with
  |none=>qh E s Y k (rdO s.ep s.L [] [] m) (rdO s.ep s.L [] [] x) (rdO s.ep s.L [] [] v)
  |some _=>Comp.fail
 |.slice Y x l h m=>match Ww E s Y x l h m with
  |some q=>SD s o.dst q.2 ((rdO s.ep s.L [] [] q.1).bind AV.int?) k
  |none=>nM (val E s.M s.ep s.L [] [] wr o.dst o.op) s o.dst k
 |_=>nM (val E s.M s.ep s.L [] [] wr o.dst o.op) s o.dst k
theorem Mr(hE:E.ok X.P)(h:RelX F s a w X)(wr:List Nat)(o:Oper)(hd:F.dst o.dst):gP F s a w o (Hc E wr s o k) k:=by
 have hv:gP F s a w o (nM (val E s.M s.ep s.L [] [] wr o.dst o.op) s o.dst k) k:=by
  refine Ms h hd ?_;rw[←h.ep];exact KD (R:=[]) (g:=[]) hE trivial h.okO h.m o (h.zGC o) trivial
 have hfail:gP F s a w o (Comp.fail:Comp β) k:=fun nf y hr=>nomatch hr
 obtain⟨d,op,T,pos,aft,g⟩:=o;unfold Hc;split
 ·rename_i Y e;simp only at e;subst e;exact DA hE h hd
 ·rename_i Y x e;simp only at e;subst e;exact Mx h hd
 ·rename_i Y x z e;simp only at e;subst e
  split
  ·rename_i e;simp only at e;subst e;exact C0 hE h
  ·exact hfail
 ·rename_i Y n ps e;simp only at e;subst e;exact Mv hE h hd
 ·rename_i Y x z e;simp only at e;subst e;exact IF hE h hd
 ·rename_i c e
  simp only at e;obtain⟨cal,xs,ts⟩:=c;split
  ·rename_i b e2
   simp only at e2;split
   ·rename_i hb
    rw[Nv hb]at e2;split
    ·rename_i p q hp hq
     split
     ·rename_i hpq
      have h1:=uX hp;have h2:=uX hq
      simp only at h1 h2;have h3:=zLC hpq
      rw[←h3]at h2;subst e2 h1 h2 e;split
      ·rename_i r hr
       exact IJ hE h hd (Ur hr)
      ·exact My hE h hd
     ·have h1:=uX hp
      have h2:=uX hq;simp only at h1 h2;subst e2 h1 h2 e;exact II hE h hd
    ·exact hfail
   ·split
    ·rename_i hb
     rw[Nu hb]at e2;split
     ·rename_i x Y hx hY
      have h1:=GW hx;have h2:=GW hY
      simp only at h1 h2;subst e2 h1 h2 e
      cases d with
      |none=>exact C4 hE h
      |some d=>exact fun nf y hr=>(by cases hr)
     ·exact hfail
    ·exact hv
  ·rename_i x e2
   simp only at e2;split
   ·subst e2 e;exact C7 hE h hd
   ·split
    ·subst e2 e
     obtain⟨X1,h1⟩:=Rel.YA (E:=E) (by rw[←h.P];exact hE) ⟨X,h⟩ (tlV (jK (rdO s.ep s.L [] []) xs.toList))
     intro nf y hr K Q hK;exact C5 (by rw[h1.P,←h.P];exact hE) h1 hd nf y hr K Q fun s' v w' q1 q2 q3=>hK s' v w' q1 ((Inv.YA _ _).trans q2) q3
    split
    ·subst e2 e;exact C9 hE h hd
    split
    ·subst e2 e;exact C6 hE h hd
    split
    ·subst e2 e;exact IH hE h hd
    ·exact hv
  ·exact hfail
 ·rename_i Y n e;simp only at e;subst e;exact C1 h hd
 ·rename_i Y m x v e;simp only at e;subst e
  split
  ·rename_i e;simp only at e;subst e;exact rZ hE h
  ·exact hfail
 ·rename_i Y m x v e;simp only at e;subst e
  split
  ·rename_i e;simp only at e;subst e;exact Mw hE h
  ·exact hfail
 ·rename_i Y x l h' m e
  simp only at e;split
  ·rename_i q hq
   unfold Ww at hq;split at hq
   ·rename_i y
    split at hq
    ·rename_i φ hφ
     split at hq
     ·rename_i p i hp hi
      split at hq
      ·rename_i e' he'
       split at hq
       ·rename_i j hj
        split at hq
        ·rename_i hs
         cases hq
         subst e;exact Mt hE h hd hφ hp hi he' hj hs
        ·cases hq
       ·cases hq
      ·cases hq
     ·cases hq
    ·cases hq
   ·cases hq
  ·exact hv
 ·exact hv
def step(E:VE)(wr:List Nat)(s:S)(o:Oper)(k:S→Comp β):Comp β:=Hc E wr (St E s o.op) o k
theorem Uu(h:Rel F s a w)(o:Op):Rel F (St E s o) a w∧Inv s (St E s o):=by
 unfold St;split
 ·exact⟨Rel.XW _ h,Inv.XW _ _⟩
 ·split
  ·exact⟨h,Inv.refl _⟩
  ·exact⟨Rel.XW _ h,Inv.XW _ _⟩
 ·split
  ·split
   ·exact⟨h,Inv.refl _⟩
   ·exact⟨Rel.XW _ h,Inv.XW _ _⟩
  ·exact⟨h,Inv.refl _⟩
 ·exact⟨h,Inv.refl _⟩
theorem Kp(hE:E.ok F.P)(h:Rel F s a w)(wr:List Nat)(o:Oper)(hd:F.dst o.dst):gP F s a w o (step E wr s o k) k:=by
 intro nf y hr K Q hK;obtain⟨⟨X,h1⟩,h2⟩:=Uu (E:=E) h o.op;exact Mr (by rw[h1.P];exact hE) h1 wr o hd nf y hr K Q fun s' v w' g1 g2 g3=>hK s' v w' g1 (h2.trans g2) g3
def Hb(E:VE)(wr:List Nat)(k:S→Comp β):List Oper→S→Comp β
 | [],s=>k s
 |o::os,s=>step E wr s o (Hb E wr k os)
theorem Ai(hE:E.ok F.P)(wr:List Nat){nf:Nat}{y:β}{ops:Array Oper}{Q:Exit→Act→World→Prop}{s0:S}:∀ {os:List Oper} {s:S} {a:Act} {w:World},Rel F s a w→Inv s0 s→(Hb E wr k os s).run nf=some y→(∀o∈os,(o.guard.isNone=true∧∀c,o.op≠.defer c)∧F.dst o.dst) →
  (∀s' a' w',Rel F s' a' w'→Inv s0 s'→(k s').run nf=some y→Q .normal a' w')→vy (F.W Q) ops (Q .normal) os a w
 | [],s,a,w,h,hi,hr,_,hK=>hK s a w h hi hr
 |o::os,s,a,w,h,hi,hr,ho,hK=>by
  have h1:=ho o (by simp)
  have hg:o.guard=none:=by cases hgo:o.guard<;>simp_all
  have hw:Region.wanted o (yielded ops a.tmps)=true:=by simp[Region.wanted,hg]
  simp only[vy,hw,if_true];refine j4 h1.1.2 (Kp (k:=Hb E wr k os) hE h wr o h1.2 nf y hr _ _ fun s' v w' hR hi' hr'=>?_)
  exact Ai hE wr hR (hi.trans hi') hr' (fun o' ho'=>ho o' (by simp[ho'])) hK
end
def zKm:Builtin→Bool
 |.len|.max|.min|.cap=>false
 |_=>true
def eff(G:FE):Op→Bool
 |.alloc _|.box .. | .store .. | .buildSlice .. | .makeSlice .. | .makeMap .. | .mapUpdate .. | .insert .. | .panic _|.defer _=>true
 |.call c=>match c.callee with
  |.builtin b=>zKm b
  |.value (.func f)=>match G f with
   |some fs=>!fs.rs.closed
   |none=>true
  |_=>false
 |_=>false
def MQ:List Oper→Bool
 | []=>false
 |o::os=>o.guard.isSome || MQ os
def cut(G:FE)(draw:Bool)(all:List Oper):Nat→List Oper→Nat
 |i,[]=>i
 |i,o::os=>match eff G o.op && (!MQ (o::os) && (!draw || Xy all i)) with
  |true=>i
  |false=>cut G draw all (i+1) os
def wrS:List Oper→List Nat
 | []=>[]
 |o::os=>match o.op with
  |.store _ (.tmp t) _=>t::wrS os
  |.fieldAddr _ (.tmp t) _=>match Dr o.dst (wrS os) with
   |true=>t::wrS os
   |false=>wrS os
  |.indexAddr _ (.tmp t) _=>match Dr o.dst (wrS os) with
   |true=>t::wrS os
   |false=>wrS os
  |_=>wrS os
def Si{β:Type}(c:Nat)(E:VE)(draw:Bool)(os:List Oper)(s:S)(k:S→Comp β):Comp β :=
 Dt E s.M s.ep s.L s.n (wrS os) (fun tl R F=>match !MQ tl && (!draw || Xy os R.length) with
  |true=>Hb E (wrS os) k tl { s with L:=F,n:=s.n+1 }
  |false=>Comp.fail) c 0 os [] s.L
def zKo{β:Type}(E:VE)(draw:Bool)(os:List Oper)(s:S)(k:S→Comp β):Comp β:=Si (cut E.G draw os 0 os) E draw os s k
theorem mT:∀ {os:List Oper},MQ os=false→∀o∈os,o.guard.isNone=true
 | [],_,o,h=>by cases h
 |o'::os,h,o,ho=>by
  simp only[MQ,Bool.or_eq_false_iff]at h;rcases zLH.1 ho with rfl|ho
  ·have:=h.1
   cases hg:o.guard<;>simp_all
  ·exact mT h.2 o ho
theorem Bt{F:Frm}{c:Nat}(hLh:∀t φ,¬F.Lh t φ){E:VE}(hE:E.ok F.P){s0 s:S}{a:Act}{w:World}(hR:Rel F s a w)(hi:Inv s0 s){os:List Oper}{id nf:Nat}{draw:Bool}{β:Type}{y:β}{k:S→Comp β}{Q:Exit→Act→World→Prop}(hm:F.P.follows .mixedOrders=true)
  (hok:Xk F.N os=true) (h:(Si c E draw os s k).run nf=some y) (hK:∀s' a' w',Rel F s' a' w'→Inv s0 s'→(k s').run nf=some y→Q .normal a' w'):F.wp (Code.region id os.toArray draw) Q a w:=by
 refine DK hLh hE hR (draw:=draw) (fun _=>hm) hok h fun tl R' F' hF hr=>?_
 split at hr
 ·rename_i hb
  rw[zLD]at hb;have hg:MQ tl=false:=by simpa using hb.1
  refine⟨List.all_eq_true.2 (mT hg),fun hd=>?_,fun a' w' hR' hmem=>?_⟩
  ·have:=hb.2;rw[hd]at this;simpa using this
  ·refine Ai hE (wrS os) hR' (hi.trans ⟨zLO _,hF,ye⟩) hr (fun o ho=>⟨⟨mT hg o ho,Kt hok o (hmem o ho)⟩,fun t ht=>?_⟩) hK
   obtain⟨j,hj⟩:=List.mem_iff_getElem?.1 (hmem o ho);exact⟨((zW (Xt hok) hj).2.1 t ht).1,fun φ=>hLh t φ⟩
 ·cases hr
def AV.bd(n:Nat):AV→Prop
 |.ob k|.bx k _|.ba k .. | .el k .. | .sx k .. | .px k _=>k<n
 |.cl _ a b|.pr a b=>a.bd n∧b.bd n
 |.tp l|.ag l=>l.bd n
 |_=>True
theorem AV.Sk{X:Cx}{w:World}(φ:AV):(∀u,(φ.sem X w).v u→φ.bd X.n)∧(∀vs,(φ.sem X w).l vs→φ.bd X.n)∧(∀cs,(φ.sem X w).c cs→φ.bd X.n):=by
 have one_case:∀ {q:Value→Prop} {p:Prop},(∀u,q u→p)→(∀u,(one q).v u→p)∧(∀vs,(one q).l vs→p)∧(∀cs,(one q).c cs→p) :=
  fun h=>⟨h,fun _ h=>h.elim,fun cs ⟨u,_,_,h3⟩=>h u h3⟩
 induction φ with
 |ob k=>exact one_case fun u h=>h.2.1
 |bx k off=>exact one_case fun u h=>h.1
 |ba k off sz i esz off2=>exact one_case fun u h=>h.1
 |el k i esz off2=>exact one_case fun u h=>h.1
 |sx k lo esz=>exact one_case fun u h=>h.2
 |px k n=>exact one_case fun u h=>h.2
 |yl=>exact one_case fun u h=>trivial
 |cl f a b iha ihb =>
  refine one_case fun u h=>?_
  obtain⟨vs,us,h1,h2,_⟩:=h;exact⟨iha.2.1 _ h1,ihb.2.1 _ h2⟩
 |pr a b iha ihb =>
  refine⟨fun _ h=>h.elim,fun vs h=>?_,fun cs h=>?_⟩
  ·obtain⟨v,vs',_,h2,h3⟩:=h;exact⟨iha.1 _ h2,ihb.2.1 _ h3⟩
  ·obtain⟨c1,c2,_,h2,h3⟩:=h;exact⟨iha.2.2 _ h2,ihb.2.2 _ h3⟩
 |tp l ih=>exact⟨fun u ⟨vs,h1,_⟩=>ih.2.1 _ h1,fun _ h=>h.elim,fun _ h=>h.elim⟩
 |ag l ih=>exact⟨fun u ⟨cs,h1,_⟩=>ih.2.2 _ h1,fun _ h=>h.elim,fun cs h=>ih.2.2 _ h⟩
 |_=>exact⟨fun _ _=>trivial,fun _ _=>trivial,fun _ _=>trivial⟩
structure Cx.al(X X':Cx)(n:Nat):Prop where
 P:X'.P=X.P
 O:X'.O=X.O
 U:∀k,k<n→X'.U k=X.U k
 n:n≤X'.n
 L:X'.Lp=X.Lp
theorem AV.al{X X':Cx}{n:Nat}(hX:X.al X' n){w:World}(φ:AV)(hb:φ.bd n):(∀u,(φ.sem X w).v u→(φ.sem X' w).v u)∧(∀vs,(φ.sem X w).l vs→(φ.sem X' w).l vs)∧(∀cs,(φ.sem X w).c cs→(φ.sem X' w).c cs):=by
 induction φ with
 |rd t x =>
  refine⟨fun u h=>?_,fun _ h=>h,fun cs h=>?_⟩
  ·show (t.gr X'.P).v _ _ _ _;rw[hX.P,hX.O];exact h
  ·show (t.gr X'.P).rel _ _ _ _;rw[hX.P,hX.O];exact h
 |pt t x=>refine vN fun u h=>?_;rw[hX.P,hX.O];exact h
 |ob k=>exact vN fun u h=>⟨by rw[h.1,hX.U k hb],zLQ hb hX.n,h.2.2⟩
 |bx k off =>
  refine vN fun u h=>?_
  obtain⟨h1,b,h2,h3⟩:=h;exact⟨zLQ hb hX.n,b,by rw[hX.U k hb];exact h2,h3⟩
 |ba k off sz i esz off2 =>
  refine vN fun u h=>?_
  obtain⟨h1,h2,h3,b,h4,h5⟩:=h;exact⟨zLQ hb hX.n,h2,h3,b,by rw[hX.U k hb];exact h4,h5⟩
 |el k i esz off2 =>
  refine vN fun u h=>?_
  obtain⟨h1,h2,h3,h4⟩:=h;exact⟨zLQ hb hX.n,h2,by rw[hX.U k hb];exact h3,by rw[hX.U k hb];exact h4⟩
 |pq t x =>
  refine⟨fun u h=>?_,fun _ h=>h,fun _ h=>h⟩
  show ∃v,Y5 w u v∧(t.gr X'.P).v X'.O w v x
  rw[hX.P,hX.O];exact h
 |cl f a b iha ihb =>
  refine vN fun u h=>?_
  obtain⟨vs,us,h1,h2,h3⟩:=h;exact⟨vs,us,(iha hb.1).2.1 _ h1,(ihb hb.2).2.1 _ h2,h3⟩
 |un=>exact⟨fun _ h=>h,fun _ h=>h,fun _ h=>h⟩
 |pr a b iha ihb =>
  refine⟨fun _ h=>h,fun vs h=>?_,fun cs h=>?_⟩
  ·obtain⟨v,vs',h1,h2,h3⟩:=h
   exact⟨v,vs',h1,(iha hb.1).1 _ h2,(ihb hb.2).2.1 _ h3⟩
  ·obtain⟨c1,c2,h1,h2,h3⟩:=h
   exact⟨c1,c2,h1,(iha hb.1).2.2 _ h2,(ihb hb.2).2.2 _ h3⟩
 |tp l ih =>
  refine⟨fun u h=>?_,fun _ h=>h,fun _ h=>h⟩
  obtain⟨vs,h1,h2⟩:=h;exact⟨vs,(ih hb).2.1 _ h1,h2⟩
 |ag l ih =>
  refine⟨fun u h=>?_,fun _ h=>h,fun cs h=>(ih hb).2.2 _ h⟩
  obtain⟨cs,h1,h2⟩:=h;exact⟨cs,(ih hb).2.2 _ h1,h2⟩
 |ex v=>exact⟨fun _ h=>h,fun _ h=>h,fun _ h=>h⟩
 |nb p e=>exact⟨fun _ h=>h,fun _ h=>h,fun _ h=>h⟩
 |sx k lo esz=>exact vN fun u h=>⟨by rw[h.1,hX.U k hb],zLQ hb hX.n⟩
 |px k n=>exact vN fun u h=>⟨by rw[hX.U k hb];exact h.1,zLQ hb hX.n⟩
 |yl=>exact vN fun u h=>by rw[hX.L];exact h
 |em t=>exact⟨fun _ h=>h,fun _ h=>h,fun _ h=>h⟩
 |top=>exact⟨fun _ h=>h,fun _ h=>h,fun _ h=>h⟩
def Knd.put(st:Nat):(k:Knd)→k.D→Nat→AV×MS×Nat
 |.v t,x,n=>(.rd t x,[],n)
 |.o nw t T,xs,n=>(.ob n,[(n,st,.sl nw t T xs)],n+1)
 |.m nw a b,xs,n=>(.ob n,[(n,st,.mp nw a b xs)],n+1)
 |.bv nw t T,x,n=>(.bx n 0,[(n,st,.bx nw (.rd t x) T)],n+1)
 |.un,_,n=>(.un,[],n)
 |.pr a b,x,n =>
  let p:=a.put st x.1 n
  let q:=b.put st x.2 p.2.2
  (.pr p.1 q.1,p.2.1++q.2.1,q.2.2)
 |.ag l,x,n =>
  let p:=l.put st x n
  (.ag p.1,p.2.1,p.2.2)
def K5:AV→Option AV
 |.ag l=>some l
 |.rd t x=>match t.agg && okE t with
  |true=>some (Sz t x)
  |false=>none
 |_=>none
def Ty.zEL:Ty→Bool
 |.slo _=>false
 |_=>true
theorem VO{P:Program}{k:Nat}{B:Nat→Prop}{O:zR}{w:World}{u:Value}{a b a' b':Ty}{xs:List (a.D×b.D)}{ys:List (a'.D×b'.D)}(e:Ty.mp a b=.mp a' b')(h:Ty.cast e xs=ys)(hO:Z8 k (gx a) (b.gr P) B O w u xs):Z8 k (gx a') (b'.gr P) B O w u ys:=by
 injection e with e1 e2
 subst e1 e2;subst h;exact hO
def WT(M:MS):AV→Option (Nat×Bool×(a:Ty)×(b:Ty)×List (a.D×b.D))
 |.ob k=>match look M k with
  |some (_,.mp nw a b xs)=>some (k,nw,⟨a,b,xs⟩)
  |_=>none
 |_=>none
theorem VP{M:MS}{φ:AV}{p:Nat×Bool×(a:Ty)×(b:Ty)×List (a.D×b.D)}(h:WT M φ=some p):φ=.ob p.1∧∃e,look M p.1=some e∧e.2=.mp p.2.1 p.2.2.1 p.2.2.2.1 p.2.2.2.2:=by
 unfold WT at h;split at h
 ·split at h
  ·rename_i k _ st nw a b xs hk
   cases h
   exact⟨rfl,_,hk,rfl⟩
  ·cases h
 ·cases h
def Wi(M:MS):AV→Option (Nat×Bool×AV×TypeId)
 |.bx k 0=>match look M k with
  |some (_,.bx nw c T)=>some (k,nw,c,T)
  |_=>none
 |_=>none
theorem Vt{M:MS}{φ:AV}{p:Nat×Bool×AV×TypeId}(h:Wi M φ=some p):φ=.bx p.1 0∧∃st,look M p.1=some (st,.bx p.2.1 p.2.2.1 p.2.2.2):=by
 unfold Wi at h;split at h
 ·split at h
  ·rename_i hk;cases h;exact⟨rfl,_,hk⟩
  ·cases h
 ·cases h
def Knd.get(G:FE)(M:MS):(k:Knd)→AV→Option (k.D×List (Option Nat))
 |.v t,φ=>match t.zEL,φ.asT G M t with
  |true,some x=>some (x,[])
  |_,_=>none
 |.o nw t T,φ=>match X4 M φ with
  |some p=>match my p.2.1 nw && Nat.beq p.2.2.1 T,(Ty.sl p.2.2.2.1).to (.sl t) p.2.2.2.2 with
   |true,some xs=>some ((xs:List t.D),[some p.1])
   |_,_=>none
  |none=>match Yq φ && nw with
   |true=>some (([]:List t.D),[none])
   |false=>none
 |.m nw a b,φ=>match WT M φ with
  |some p=>match my p.2.1 nw,(Ty.mp p.2.2.1 p.2.2.2.1).to (.mp a b) p.2.2.2.2 with
   |true,some xs=>some ((xs:List (a.D×b.D)),[some p.1])
   |_,_=>none
  |none=>none
 |.bv nw t T,φ=>match Wi M φ with
  |some p=>match my p.2.1 nw && (Nat.beq p.2.2.2 T && t.zEL),p.2.2.1.asT G M t with
   |true,some x=>some (x,[some p.1])
   |_,_=>none
  |none=>none
 |.un,φ=>match φ with
  |.un=>some ((),[])
  |_=>none
 |.pr a b,φ=>match φ with
  |.pr φ1 φ2=>match a.get G M φ1,b.get G M φ2 with
   |some p,some q=>some ((p.1,q.1),p.2++q.2)
   |_,_=>none
  |_=>none
 |.ag l,φ=>match K5 φ with
  |some φ=>l.get G M φ
  |none=>none
structure Ren(X X':Cx)(n:Nat)(olds:List (Option Nat)):Prop where
 P:X'.P=X.P
 O:X'.O=X.O
 A:X'.A=X.A
 F:X'.F=X.F
 L:X'.Lp=X.Lp
 U:∀i k,olds[i]?=some (some k)→X'.U (n+i)=X.U k∧X'.ι (n+i)=X.ι k
 N:∀i,olds[i]?=some none→X'.U (n+i)=.slice none 0 0
 n:n+olds.length≤X'.n
theorem Ren.left{X X':Cx}{n:Nat}{a b:List (Option Nat)}(h:Ren X X' n (a++b)):Ren X X' n a :=
 ⟨h.P,h.O,h.A,h.F,h.L,fun i k hi=>h.U i k (by rw[zLR (zLJ.1 hi).1];exact hi),fun i hi=>h.N i (by rw[zLR (zLJ.1 hi).1];exact hi),by have:=h.n;rw[zLE]at this;omega⟩
theorem Ren.right{X X':Cx}{n:Nat}{a b:List (Option Nat)}(h:Ren X X' n (a++b)):Ren X X' (n+a.length) b :=
 ⟨h.P,h.O,h.A,h.F,h.L,fun i k hi=>by
   have:=h.U (a.length+i) k (by rw[zLS (by omega),Nat.add_sub_cancel_left];exact hi)
   rwa[←Nat.add_assoc]at this,fun i hi=>by
   have:=h.N (a.length+i) (by rw[zLS (by omega),Nat.add_sub_cancel_left];exact hi)
   rwa[←Nat.add_assoc]at this,by have:=h.n;rw[zLE]at this;omega⟩
theorem Z1{α:Type}{l m:List (Nat×α)}{t:Nat}{e:α}(h:look (l++m) t=some e):look l t=some e∨(look l t=none∧look m t=some e):=by
 induction l with
 |nil=>exact .inr ⟨rfl,h⟩
 |cons x l ih =>
  obtain⟨k,y⟩:=x;rw[List.cons_append]at h;simp only[look]at h ⊢
  cases hb:Nat.beq k t with
  |true=>rw[hb]at h;exact .inl h
  |false=>rw[hb]at h;exact ih h
def H1(M:MS)(k:Nat):Prop:=∃e,look M k=some e∧e.2.own=true
theorem Knd.ok{X X':Cx}{G:FE}(hG:FOk X.P G){M:MS}{w:World}(hM:yF M X w){st:Nat}:∀ {kd:Knd} {φ:AV} {x:kd.D} {olds:List (Option Nat)} {n:Nat},kd.get G M φ=some (x,olds)→Ren X X' n olds →
  (kd.put st x n).2.2=n+olds.length∧(∀u,(φ.sem X w).v u→((kd.put st x n).1.sem X' w).v u)∧(∀cs,(φ.sem X w).c cs→((kd.put st x n).1.sem X' w).c cs∧(kd.put st x n).1.zm=false)∧(kd.put st x n).1.zm=false ∧
  (∀j e,look (kd.put st x n).2.1 j=some e→e.1=st∧n≤j∧j<n+olds.length∧e.2.holds X' w j)∧(∀(i:Nat) k,olds[i]?=some (some k)→H1 M k):=by
 intro kd
 induction kd with
 |v t =>
  intro φ x olds n h hR;simp only[Knd.get]at h;split at h
  ·rename_i y _ hy
   cases h
   have hA:=AV.jf hG φ hM;refine⟨rfl,fun u hu=>?_,fun cs hc=>⟨?_,rfl⟩,rfl,fun j e he=>(nomatch he),fun i k hi=>by simp at hi⟩
   ·show (t.gr X'.P).v _ _ _ _;rw[hR.P,hR.O];exact hA.v hy hu
   ·show (t.gr X'.P).rel _ _ _ _;rw[hR.P,hR.O];exact hA.vc hy hc
  ·cases h
 |o nw t T =>
  intro φ x olds n h hR;simp only[Knd.get]at h;have hn1:olds.length=1→n<X'.n:=fun hl=>by have:=hR.n;omega
  split at h
  ·rename_i p hp
   split at h
   ·rename_i xs hb hx
    cases h
    rw[zLD]at hb;have hb1:=Xw hb.1
    have hb2:=zLC hb.2;obtain⟨hU,hι⟩:=hR.U 0 p.1 rfl;rw[Nat.add_zero]at hU hι;have hn:=hn1 rfl
    have hmv:∀u,φ.holds X w u→(AV.ob n).holds X' w u∧∃e,look M p.1=some e∧e.2=.sl p.2.1 p.2.2.2.1 p.2.2.1 p.2.2.2.2:=by
     intro u hu;obtain⟨e,h1,h2,h3,h4⟩:=w8 hM hu hp;exact⟨⟨by rw[hU];exact h4,hn,ZN h3⟩,e,h1,h2⟩
    have hob:∃k,φ=.ob k∧p.1=k∧∃e,look M k=some e∧e.2=.sl p.2.1 p.2.2.2.1 p.2.2.1 p.2.2.2.2:=by
     unfold X4 at hp;split at hp
     ·split at hp
      ·rename_i k _ st' nw' t' T' xs' hk
       cases hp
       exact⟨k,rfl,rfl,_,hk,rfl⟩
      ·cases hp
     ·cases hp
    obtain⟨k,hφ,hpk,e,he1,he2⟩:=hob;refine⟨rfl,fun u hu=>(hmv u hu).1,fun cs hc=>⟨?_,rfl⟩,rfl,fun j e' he'=>?_,fun i k' hi=>?_⟩
    ·subst hφ
     obtain⟨u,h1,h2,h3⟩:=hc;exact⟨u,h1,h2,(hmv u h3).1⟩
    ·rcases zD he' with ⟨h1,h2⟩|⟨_,h2⟩
     ·subst h1 h2
      refine⟨rfl,zLF _,zLP _,?_⟩;have:=hM k e he1
      rw[he2]at this;show zu _ _ _ _ _ _ _ _
      rw[hU,hι,hR.P,hR.O,Cx.KU hR.A hR.F,hpk];obtain⟨e3,hx⟩:=Ty.jS hx;rw[hb1,hb2]at this;cases e3;cases hx;exact this
     ·cases h2
    ·match i,hi with
     |0,hi=>cases hi;rw[hpk];exact⟨e,he1,by rw[he2];rfl⟩
     |i+1,hi=>simp at hi
   ·cases h
  ·split at h
   ·rename_i hb
    cases h
    rw[zLD]at hb;have hφ:=jh hb.1
    subst hφ;have hU:=hR.N 0 rfl
    rw[Nat.add_zero]at hU;have hn:=hn1 rfl
    refine⟨rfl,fun u hu=>⟨by rw[hU];exact hu,hn,by rw[show u=_ from hu];rfl⟩,fun cs hc=>⟨⟨.slice none 0 0,hc,rfl,hU.symm,hn,rfl⟩,rfl⟩,rfl,fun j e' he'=>?_,fun i k' hi=>?_⟩
    ·rcases zD he' with ⟨h1,h2⟩|⟨_,h2⟩
     ·subst h1 h2
      refine⟨rfl,zLF _,zLP _,?_⟩;show zu _ _ _ _ _ _ _ _
      rw[hU];exact zu.nil _ _ _ _ _ _
     ·cases h2
    ·match i,hi with
     |0,hi=>cases hi
     |i+1,hi=>simp at hi
   ·cases h
 |m nw a b =>
  intro φ x olds n h hR;simp only[Knd.get]at h;split at h
  ·rename_i p hp
   split at h
   ·rename_i xs hb hx
    cases h
    have hb1:=Xw hb;obtain⟨hU,hι⟩:=hR.U 0 p.1 rfl;rw[Nat.add_zero]at hU hι;have hn:n<X'.n:=by have:=hR.n;simp at this;omega
    obtain⟨hφ,e,he1,he2⟩:=VP hp;have hmm:=hM _ e he1
    rw[he2]at hmm;have h1c:(X.U p.1).oneCell'=true:=by
     obtain⟨c,es,clock,q1,_⟩:=hmm;rw[q1];rfl
    have hmv:∀u,(φ.sem X w).v u→(AV.ob n).holds X' w u:=fun u hu=>by
     subst hφ;exact⟨by rw[hU];exact hu.1,hn,hu.2.2⟩
    refine⟨rfl,fun u hu=>hmv u hu,fun cs hc=>⟨?_,rfl⟩,rfl,fun j e' he'=>?_,fun i k' hi=>?_⟩
    ·subst hφ
     obtain⟨u,g1,g2,g3⟩:=hc;exact⟨u,g1,g2,hmv u g3⟩
    ·rcases zD he' with ⟨h1,h2⟩|⟨_,h2⟩
     ·subst h1 h2
      refine⟨rfl,zLF _,zLP _,?_⟩;show Z8 _ _ _ _ _ _ _ _
      rw[hU,hι,hR.P,hR.O,Cx.KU hR.A hR.F];obtain⟨e3,hx⟩:=Ty.jS hx;rw[hb1]at hmm;exact VO e3 hx hmm
     ·cases h2
    ·match i,hi with
     |0,hi=>cases hi;exact⟨e,he1,by rw[he2];rfl⟩
     |i+1,hi=>simp at hi
   ·cases h
  ·cases h
 |bv nw t T =>
  intro φ x olds n h hR;simp only[Knd.get]at h;split at h
  ·rename_i p hp
   split at h
   ·rename_i x' hb hx
    cases h
    rw[zLD,zLD]at hb;have hb1:=Xw hb.1
    have hb2:=zLC hb.2.1;obtain⟨hU,hι⟩:=hR.U 0 p.1 rfl;rw[Nat.add_zero]at hU hι;have hn:n<X'.n:=by have:=hR.n;simp at this;omega
    obtain⟨hφ,st',hk⟩:=Vt hp;obtain⟨b',cs,q1,q2,q3,q4⟩:=hM _ _ hk;have hmv:∀u,(φ.sem X w).v u→(AV.bx n 0).holds X' w u:=fun u hu=>by
     subst hφ;obtain⟨_,b2,h2,h3⟩:=hu;exact⟨hn,b2,by rw[hU];exact h2,h3⟩
    refine⟨rfl,fun u hu=>hmv u hu,fun cs hc=>⟨?_,rfl⟩,rfl,fun j e' he'=>?_,fun i k' hi=>?_⟩
    ·subst hφ
     obtain⟨u,g1,g2,g3⟩:=hc;exact⟨u,g1,g2,hmv u g3⟩
    ·rcases zD he' with ⟨h1,h2⟩|⟨_,h2⟩
     ·subst h1 h2
      refine⟨rfl,zLF _,zLP _,b',cs,by rw[hU];exact q1,?_,?_,rfl⟩
      ·rw[hι,hR.O,Cx.KU hR.A hR.F,←hb1,←hb2];exact q2
      ·show (t.gr X'.P).rel X'.O w cs.toList _
       rw[hR.P,hR.O];exact(AV.jf hG p.2.2.1 hM).vc hx q3
     ·cases h2
    ·match i,hi with
     |0,hi=>cases hi;exact⟨_,hk,rfl⟩
     |i+1,hi=>simp at hi
   ·cases h
  ·cases h
 |un =>
  intro φ x olds n h hR;simp only[Knd.get]at h;split at h
  ·cases h
   exact⟨rfl,fun u hu=>hu,fun cs hc=>⟨hc,rfl⟩,rfl,fun j e he=>(nomatch he),fun i k hi=>by simp at hi⟩
  ·cases h
 |pr a b iha ihb =>
  intro φ x olds n h hR;simp only[Knd.get]at h;split at h
  ·rename_i φ1 φ2
   split at h
   ·rename_i p q hp hq
    cases h
    obtain⟨a1,a2,a3,a4,a5,a6⟩:=iha hp hR.left;obtain⟨b1,b2,b3,b4,b5,b6⟩:=ihb hq hR.right;simp only[Knd.put];rw[a1];refine⟨by rw[b1,zLE];omega,fun u hu=>hu.elim,fun cs hc=>?_,by simp[AV.zm,a4,b4],fun j e he=>?_,fun i k hi=>?_⟩
    ·obtain⟨c1,c2,h1,h2,h3⟩:=hc
     exact⟨⟨c1,c2,h1,(a3 _ h2).1,(b3 _ h3).1⟩,by simp[AV.zm,a4,b4]⟩
    ·rw[zLE]
     rcases Z1 he with h1|⟨_,h1⟩
     ·obtain⟨g1,g2,g3,g4⟩:=a5 j e h1;exact⟨g1,g2,by omega,g4⟩
     ·obtain⟨g1,g2,g3,g4⟩:=b5 j e h1;exact⟨g1,by omega,by omega,g4⟩
    ·by_cases hlt:i<p.2.length
     ·rw[zLR hlt]at hi;exact a6 i k hi
     ·rw[zLS (by omega)]at hi;exact b6 _ k hi
   ·cases h
  ·cases h
 |ag l ih =>
  intro φ x olds n h hR;simp only[Knd.get]at h;split at h
  ·rename_i ψ hψ
   obtain⟨a1,a2,a3,a4,a5,a6⟩:=ih h hR;simp only[Knd.put];have hc:∀cs,(φ.sem X w).c cs→(ψ.sem X w).c cs:=by
    intro cs hc;unfold K5 at hψ;split at hψ
    ·cases hψ;exact hc
    ·split at hψ
     ·rename_i hb
      cases hψ
      rw[zLD]at hb;exact Ei hb.2 hc
     ·cases hψ
    ·cases hψ
   refine⟨a1,fun u hu=>?_,fun cs h1=>⟨(a3 cs (hc cs h1)).1,a4⟩,a4,a5,a6⟩
   unfold K5 at hψ;split at hψ
   ·obtain⟨cs,h1,h2⟩:=hu
    exact⟨cs,(a3 cs (hc cs h1)).1,h2⟩
   ·split at hψ
    ·rename_i hb
     rw[zLD]at hb;obtain⟨cs,h1,h2⟩:=hu;refine⟨cs,(a3 cs (hc cs h1)).1,?_⟩;rw[h2,Ty.jL,hb.1];rfl
    ·cases hψ
   ·cases hψ
  ·cases h
abbrev KE:=Bool×Nat×Knd
def LD:List KE→Type
 | []=>Unit
 | [e]=>e.2.2.D
 |e::e'::l=>e.2.2.D×LD (e'::l)
def LD.hd:(e:KE)→(l:List KE)→LD (e::l)→e.2.2.D
 |_,[],x=>x
 |_,_::_,x=>x.1
def LD.tl:(e:KE)→(l:List KE)→LD (e::l)→LD l
 |_,[],_=>()
 |_,_::_,x=>x.2
def LD.mk:(e:KE)→(l:List KE)→e.2.2.D→LD l→LD (e::l)
 |_,[],x,_=>x
 |_,_::_,x,y=>(x,y)
theorem LD.SZ{e:KE}{l:List KE}{x:e.2.2.D}{y:LD l}:LD.hd e l (LD.mk e l x y)=x:=by cases l<;>rfl
theorem LD.SC{e:KE}{l:List KE}{x:e.2.2.D}{y:LD l}:LD.tl e l (LD.mk e l x y)=y:=by
 cases l with
 |nil=>cases y;rfl
 |cons _ _=>rfl
def Cn(s:S)(t:Nat):Option (Nat×Bool×TypeId):=match look s.L t with
 |some (_,.bx k 0)=>match look s.M k with
  |some (_,.bx nw _ T)=>some (k,nw,T)
  |_=>none
 |_=>none
theorem Dl{s:S}{t:Nat}{p:Nat×Bool×TypeId}(h:Cn s t=some p):∃st c,look s.M p.1=some (st,.bx p.2.1 c p.2.2):=by
 unfold Cn at h;split at h
 ·split at h
  ·rename_i k _ st nw c T hk
   cases h;exact⟨st,c,hk⟩
  ·cases h
 ·cases h
def WJ(s:S)(t:Nat):Option (Nat×Bool×TypeId):=match look s.L t with
 |some (_,.ob k)=>match look s.M k with
  |some (_,.sl nw _ T _)=>some (k,nw,T)
  |_=>none
 |_=>none
theorem IL{s:S}{t:Nat}{p:Nat×Bool×TypeId}(h:WJ s t=some p):∃e,look s.M p.1=some e:=by
 unfold WJ at h;split at h
 ·split at h
  ·rename_i hk;cases h;exact⟨_,hk⟩
  ·cases h
 ·cases h
def slM(M:MS)(b:Nat×Bool×TypeId):Option ((t:Ty)×List t.D):=match look M b.1 with
 |some (_,.sl nw t T xs)=>match my nw b.2.1 && Nat.beq T b.2.2 with
  |true=>some ⟨t,xs⟩
  |false=>none
 |_=>none
theorem M6{M:MS}{b:Nat×Bool×TypeId}{r:(t:Ty)×List t.D}(h:slM M b=some r):∃st,look M b.1=some (st,.sl b.2.1 r.1 b.2.2 r.2):=by
 unfold slM at h;split at h
 ·rename_i st nw t T xs hk
  split at h
  ·rename_i hb
   rw[zLD]at hb;cases h;rw[←Xw hb.1,←zLC hb.2];exact⟨st,hk⟩
  ·cases h
 ·cases h
def zEn(k st:Nat)(nw:Bool)(T:TypeId):AV→MS
 |.rd (.sl t) xs=>[(k,st,.sl nw t T xs)]
 |_=>[]
theorem zAb{a b:Ty}{x:a.D}{y:b.D}(hag:a.agg=false)(hn:b.zEL=true)(h:a.toN b x=some y):a.to b x=some y:=by
 unfold Ty.toN at h;split at h
 ·rename_i z hz;cases h;exact hz
 ·split at h
  ·cases hn
  ·split at h
   ·rename_i ha hy
    obtain⟨e,_⟩:=Ty.jS hy;subst e;rw[hag]at ha;cases ha
   ·cases h
  ·cases h
theorem zDK{G:FE}{M:MS}{ek:Knd}{t:Ty}{xs:List t.D}{p:ek.D×List (Option Nat)}(h:ek.get G M (.rd (.sl t) xs)=some p)(st n:Nat):ek.put st p.1 n=(.rd (.sl t) xs,[],n)∧p.2=[]:=by
 cases ek with
 |v t' =>
  simp only[Knd.get]at h;split at h
  ·rename_i x hn hx
   cases h
   have hx:(Ty.sl t).toN t' xs=some x:=hx;obtain⟨e,h2⟩:=Ty.jS (zAb rfl hn hx);subst e;have h2:xs=x:=h2
   subst h2;exact⟨rfl,rfl⟩
  ·cases h
 |o nw t' T=>simp only[Knd.get,X4,Yq]at h;simp at h
 |m nw a b=>simp only[Knd.get,WT]at h;cases h
 |bv nw t' T=>simp only[Knd.get,Wi]at h;cases h
 |un=>simp only[Knd.get]at h;cases h
 |pr a b=>simp only[Knd.get]at h;cases h
 |ag l=>simp only[Knd.get,K5,Ty.agg]at h;simp at h
def mr(s:S):(l:List KE)→LD l→Nat→LS×MS×Nat
 | [],_,n=>([],[],n)
 |e::l,x,n =>
  let p:=e.2.2.put s.n (LD.hd e l x) n
  let q:=mr s l (LD.tl e l x) p.2.2
  match e.1 with
  |false=>((e.2.1,s.n,p.1)::q.1,p.2.1++q.2.1,q.2.2)
  |true=>match Cn s e.2.1 with
   |some b=>(q.1,(b.1,s.n,.bx b.2.1 p.1 b.2.2)::(p.2.1++q.2.1),q.2.2)
   |none=>match WJ s e.2.1 with
    |none=>(q.1,p.2.1++q.2.1,q.2.2)
    |some b=>(q.1,zEn b.1 s.n b.2.1 b.2.2 p.1++(p.2.1++q.2.1),q.2.2)
def bxM(M:MS)(b:Nat×Bool×TypeId):Option AV:=match look M b.1 with
 |some (_,.bx nw c T)=>match my nw b.2.1 && Nat.beq T b.2.2 with
  |true=>some c
  |false=>none
 |_=>none
theorem QP{M:MS}{b:Nat×Bool×TypeId}{c:AV}(h:bxM M b=some c):∃st,look M b.1=some (st,.bx b.2.1 c b.2.2):=by
 unfold bxM at h;split at h
 ·rename_i st nw c' T hk
  split at h
  ·rename_i hb
   cases h
   rw[zLD]at hb;rw[Xw hb.1,zLC hb.2]at hk;exact⟨st,hk⟩
  ·cases h
 ·cases h
def MR(G:FE)(s s1:S):(l:List KE)→Option (LD l×List (Option Nat)×List Nat)
 | []=>some ((),[],[])
 |e::l=>match MR G s s1 l with
  |none=>none
  |some q=>match e.1 with
   |false=>match look s1.L e.2.1 with
    |none=>none
    |some f=>match fresh s1.ep f,e.2.2.get G s1.M f.2 with
     |true,some p=>some (LD.mk e l p.1 q.1,p.2++q.2.1,q.2.2)
     |_,_=>none
   |true=>match Cn s e.2.1 with
    |none=>match WJ s e.2.1 with
     |none=>none
     |some b=>match slM s1.M b with
      |none=>none
      |some r=>match e.2.2.get G s1.M (.rd (.sl r.1) r.2) with
       |some p=>some (LD.mk e l p.1 q.1,p.2++q.2.1,b.1::q.2.2)
       |none=>none
    |some b=>match bxM s1.M b with
     |none=>none
     |some c=>match e.2.2.get G s1.M c with
      |some p=>some (LD.mk e l p.1 q.1,p.2++q.2.1,b.1::q.2.2)
      |none=>none
theorem Jt{α:Type}{l m:List (Nat×α)}{t:Nat}(h:look (l++m) t=none):look l t=none∧look m t=none:=by
 induction l with
 |nil=>exact⟨rfl,h⟩
 |cons x l ih =>
  obtain⟨k,y⟩:=x;rw[List.cons_append]at h;simp only[look]at h ⊢
  cases hb:Nat.beq k t with
  |true=>rw[hb]at h;cases h
  |false=>rw[hb]at h;exact ih h
theorem ZD{α:Type}{k:Nat}{x:α}{l:List (Nat×α)}{t:Nat}(h:look ((k,x)::l) t=none):k≠t∧look l t=none:=by
 simp only[look]at h
 cases hb:Nat.beq k t with
 |true=>rw[hb]at h;cases h
 |false=>rw[hb]at h;rw[zV]at hb;exact⟨by simpa using hb,h⟩
structure AOk(s s1:S)(X':Cx)(w:World)(a:Act)(n:Nat)(olds:List (Option Nat))(obs:List Nat)(r:LS×MS×Nat):Prop where
 nn:r.2.2=n+olds.length
 l:∀t e,look r.1 t=some e→e.1=s.n∧e.2.holds X' w (a.get t)
 m:∀j e,look r.2.1 j=some e→e.1=s.n∧e.2.holds X' w j∧((n≤j∧j<n+olds.length)∨j∈obs)
 o:∀(i:Nat) k,olds[i]?=some (some k)→H1 s1.M k
 b:∀k,k∈obs→H1 s1.M k∧k<s.n∧look r.2.1 k≠none
theorem uh{s s1:S}{a:Act}{w:World}{X X':Cx}{E:VE}(hE:E.ok X.P)(hM:yF s1.M X w)(hL:Xq s1.L X w a)(hep:X.ep=s1.ep)(hmn:∀k e,look s.M k=some e→k<s.n)(hU:∀k,k<s.n→X'.U k=X.U k∧X'.ι k=X.ι k):∀ {l:List KE} {x:LD l} {olds:List (Option Nat)} {obs:List Nat} {n:Nat},MR E.G s s1 l=some (x,olds,obs)→s.n≤n→Ren X X' n olds→AOk s s1 X' w a n olds obs (mr s l x n)
 | [],x,olds,obs,n,h,hn,hR=>by
  cases h
  exact⟨rfl,fun t e he=>(nomatch he),fun j e he=>(nomatch he),fun i k hi=>by simp at hi,fun k hk=>by cases hk⟩
 |e::l,x,olds,obs,n,h,hn,hR=>by
  obtain⟨eb,et,ek⟩:=e;simp only[MR]at h
  cases hq:MR E.G s s1 l with
  |none=>rw[hq]at h;cases h
  |some q =>
   obtain⟨y,olds2,obs2⟩:=q;rw[hq]at h;simp only at h
   cases eb with
   |false =>
    simp only at h;split at h
    ·cases h
    ·rename_i f hf
     split at h
     ·rename_i p hfr hp
      cases h
      obtain⟨k1,k2,k3,k4,k5,k6⟩:=Knd.ok hE.G hM (st:=s.n) hp hR.left;have ih:=uh hE hM hL hep hmn hU hq (n:=n+p.2.length) (by omega) hR.right
      simp only[mr];rw[LD.SZ,LD.SC,k1];refine⟨by rw[ih.nn,zLE];omega,fun t e' he'=>?_,fun j e' he'=>?_,fun i k hi=>?_,fun k hk=>?_⟩
      ·rcases zD he' with ⟨h1,h2⟩|⟨_,h2⟩
       ·subst h1 h2
        exact⟨rfl,k2 _ (hL _ f hf (by rw[hep];exact hfr))⟩
       ·exact ih.l t e' h2
      ·rw[zLE]
       rcases Z1 he' with h1|⟨_,h1⟩
       ·obtain⟨g1,g2,g3,g4⟩:=k5 j e' h1;exact⟨g1,g4,.inl ⟨g2,by omega⟩⟩
       ·obtain⟨g1,g2,g3⟩:=ih.m j e' h1
        exact⟨g1,g2,g3.imp (fun h=>⟨by omega,by omega⟩) id⟩
      ·by_cases hlt:i<p.2.length
       ·rw[zLR hlt]at hi;exact k6 i k hi
       ·rw[zLS (by omega)]at hi;exact ih.o _ k hi
      ·obtain⟨g1,g2,g3⟩:=ih.b k hk
       exact⟨g1,g2,fun hnn=>g3 (Jt hnn).2⟩
     ·cases h
   |true =>
    simp only at h;split at h
    ·rename_i hnb
     split at h
     ·cases h
     ·rename_i b hb
      split at h
      ·cases h
      ·rename_i r hr
       split at h
       ·rename_i p hp
        cases h
        obtain⟨pe1,pe2⟩:=zDK hp s.n n;have ih:=uh hE hM hL hep hmn hU hq (n:=n) hn (by have:=hR;rw[pe2]at this;exact this)
        simp only[mr,hnb,hb];rw[LD.SZ,LD.SC,pe1,pe2];obtain⟨st1,hb1⟩:=M6 hr;obtain⟨e0,hb0⟩:=IL hb;have hlt:=hmn _ _ hb0
        have hO:zu _ _ _ _ _ _ _ _:=hM _ _ hb1;obtain⟨u1,u2⟩:=hU _ hlt;show AOk s s1 X' w a n ([]++olds2) (b.1::obs2) ((mr s l y n).1,(b.1,s.n,MV.sl b.2.1 r.1 b.2.2 r.2)::([]++(mr s l y n).2.1),(mr s l y n).2.2)
        refine⟨ih.nn,ih.l,fun j e' he'=>?_,ih.o,fun k hk=>?_⟩
        ·rcases zD he' with ⟨h1,h2⟩|⟨_,h2⟩
         ·subst h1 h2
          refine⟨rfl,?_,.inr (by simp)⟩
          show zu _ _ _ _ _ _ _ _
          rw[u1,u2,hR.P,hR.O,Cx.KU hR.A hR.F];exact hO
         ·obtain⟨g1,g2,g3⟩:=ih.m j e' h2
          exact⟨g1,g2,g3.imp id (fun h=>by simp[h])⟩
        ·rcases zLH.1 hk with rfl|hk
         ·refine⟨⟨_,hb1,rfl⟩,hlt,fun hnn=>?_⟩
          exact(ZD hnn).1 rfl
         ·obtain⟨g1,g2,g3⟩:=ih.b k hk
          exact⟨g1,g2,fun hnn=>g3 (ZD hnn).2⟩
       ·cases h
    ·rename_i b hb
     split at h
     ·cases h
     ·rename_i c hc
      split at h
      ·rename_i p hp
       cases h
       obtain⟨k1,k2,k3,k4,k5,k6⟩:=Knd.ok hE.G hM (st:=s.n) hp hR.left;have ih:=uh hE hM hL hep hmn hU hq (n:=n+p.2.length) (by omega) hR.right
       simp only[mr,hb];rw[LD.SZ,LD.SC,k1];obtain⟨st0,c0,hb0⟩:=Dl hb;obtain⟨st1,hb1⟩:=QP hc;have hlt:=hmn _ _ hb0
       obtain⟨bb,cs,m1,m2,m3,m4⟩:=hM _ _ hb1;obtain⟨u1,u2⟩:=hU _ hlt;refine⟨by rw[ih.nn,zLE];omega,ih.l,fun j e' he'=>?_,fun i k hi=>?_,fun k hk=>?_⟩
       ·rw[zLE]
        rcases zD he' with ⟨h1,h2⟩|⟨_,h2⟩
        ·subst h1 h2
         refine⟨rfl,⟨bb,cs,by rw[u1];exact m1,?_,(k3 _ m3).1,k4⟩,.inr (by simp)⟩
         rw[u2,hR.O,Cx.KU hR.A hR.F];exact m2
        ·rcases Z1 h2 with h1|⟨_,h1⟩
         ·obtain⟨g1,g2,g3,g4⟩:=k5 j e' h1;exact⟨g1,g4,.inl ⟨g2,by omega⟩⟩
         ·obtain⟨g1,g2,g3⟩:=ih.m j e' h1
          exact⟨g1,g2,g3.imp (fun h=>⟨by omega,by omega⟩) (fun h=>by simp[h])⟩
       ·by_cases hlt:i<p.2.length
        ·rw[zLR hlt]at hi;exact k6 i k hi
        ·rw[zLS (by omega)]at hi;exact ih.o _ k hi
       ·rcases zLH.1 hk with rfl|hk
        ·refine⟨⟨_,hb1,rfl⟩,hlt,fun hnn=>?_⟩
         exact(ZD hnn).1 rfl
        ·obtain⟨g1,g2,g3⟩:=ih.b k hk
         exact⟨g1,g2,fun hnn=>g3 (Jt (ZD hnn).2).2⟩
      ·cases h
def rF(L:LS):List Nat→LS
 | []=>[]
 |t::l=>match look L t with
  |some e=>match e.2.zm with
   |false=>(t,e)::rF L l
   |true=>rF L l
  |none=>rF L l
theorem Za{L:LS}:∀ {l:List Nat} {t:Nat} {e:Nat×AV},look (rF L l) t=some e→look L t=some e∧e.2.zm=false∧gw t l=true
 | [],t,e,h=>by cases h
 |u::l,t,e,h=>by
  have st:gw t l=true→gw t (u::l)=true:=fun h=>by simp only[gw];cases Nat.beq u t<;>simp[h]
  simp only[rF]at h;split at h
  ·rename_i f hf
   split at h
   ·rename_i hfr
    rcases zD h with ⟨h1,h2⟩|⟨_,h2⟩
    ·subst h1 h2;exact⟨hf,hfr,by simp[gw,zV]⟩
    ·obtain⟨g1,g2,g3⟩:=Za h2;exact⟨g1,g2,st g3⟩
   ·obtain⟨g1,g2,g3⟩:=Za h;exact⟨g1,g2,st g3⟩
  ·obtain⟨g1,g2,g3⟩:=Za h;exact⟨g1,g2,st g3⟩
def Ck(M:MS):List Nat→MS
 | []=>[]
 |t::l=>match look M t with
  |some e=>(t,e)::Ck M l
  |none=>Ck M l
theorem J2{M:MS}:∀ {l:List Nat} {t:Nat} {e:Nat×MV},look (Ck M l) t=some e→look M t=some e∧gw t l=true
 | [],t,e,h=>by cases h
 |u::l,t,e,h=>by
  have st:gw t l=true→gw t (u::l)=true:=fun h=>by simp only[gw];cases Nat.beq u t<;>simp[h]
  simp only[Ck]at h;split at h
  ·rename_i f hf
   rcases zD h with ⟨h1,h2⟩|⟨_,h2⟩
   ·subst h1 h2;exact⟨hf,by simp[gw,zV]⟩
   ·obtain⟨g1,g3⟩:=J2 h2;exact⟨g1,st g3⟩
  ·obtain⟨g1,g3⟩:=J2 h;exact⟨g1,st g3⟩
def Wh(s s1:S):List Nat→Bool
 | []=>true
 |t::l=>(match look s.L t with
  |none=>true
  |some e=>match e.2.zm with
   |true=>true
   |false=>match look s1.L t with
    |some e1=>Nat.blt e1.1 s.n
    |none=>false) && Wh s s1 l
theorem HC{s s1:S}(hi:Inv s s1):∀ {l:List Nat},Wh s s1 l=true→∀ {t e},gw t l=true→look s.L t=some e→e.2.zm=false→look s1.L t=some e
 | [],_,t,e,h,_,_=>by cases h
 |u::l,hc,t,e,h,he,hf=>by
  simp only[Wh,zLD]at hc;simp only[gw]at h
  cases hb:Nat.beq u t with
  |false=>rw[hb]at h;exact HC hi hc.2 h he hf
  |true =>
   have:=zLC hb;subst this;have h1:=hc.1
   rw[he]at h1;simp only[hf]at h1;split at h1
   ·rename_i e1 he1
    rw[za]at h1;have h2:=hi.l u e1 he1 (by simpa using h1)
    rw[he]at h2;cases h2;exact he1
   ·cases h1
def Wg(s s1:S)(obs:List Nat):List Nat→Bool
 | []=>true
 |t::l=>(gw t obs || match look s.M t with
  |none=>true
  |some e=>match look s1.M t with
   |some e1=>Nat.blt e1.1 s.n
   |none=>false) && Wg s s1 obs l
theorem JI{t:Nat}:∀ {l:List Nat},gw t l=true↔t∈l
 | []=>by simp[gw]
 |u::l=>by
  simp only[gw,zLH]
  cases hb:Nat.beq u t with
  |true=>have:=zLC hb;simp[this]
  |false =>
   rw[zV]at hb;have:¬u=t:=by simpa using hb
   simp only[cond_false,JI];exact⟨.inr,fun h=>h.resolve_left fun e=>this e.symm⟩
theorem G9{s s1:S}(hi:Inv s s1){obs:List Nat}:∀ {l:List Nat},Wg s s1 obs l=true→∀ {t e},gw t l=true→t ∉ obs→look s.M t=some e→look s1.M t=some e
 | [],_,t,e,h,_,_=>by cases h
 |u::l,hc,t,e,h,ho,he=>by
  simp only[Wg,zLD,Bool.or_eq_true]at hc;simp only[gw]at h
  cases hb:Nat.beq u t with
  |false=>rw[hb]at h;exact G9 hi hc.2 h ho he
  |true =>
   have:=zLC hb;subst this;rcases hc.1 with h1|h1
   ·exact absurd (JI.1 h1) ho
   ·rw[he]at h1
    simp only at h1;split at h1
    ·rename_i e1 he1
     rw[za]at h1;have h2:=hi.m u e1 he1 (by simpa using h1)
     rw[he]at h2;cases h2;exact he1
    ·cases h1
def S1(no:List Nat):List (Option Nat)→Bool
 | []=>true
 |none::l=>S1 no l
 |some k::l=>!gw k no && S1 (k::no) l
theorem mc:∀ {l:List (Option Nat)} {no:List Nat},S1 no l=true→(∀(i:Nat) k,l[i]?=some (some k)→k ∉ no)∧∀(i j:Nat) k,l[i]?=some (some k)→l[j]?=some (some k)→i=j
 | [],no,_=>⟨fun i k h=>by simp at h,fun i j k h=>by simp at h⟩
 |none::l,no,h=>by
  obtain⟨h1,h2⟩:=mc (l:=l) h;refine⟨fun i k hi=>?_,fun i j k hi hj=>?_⟩
  ·cases i with
   |zero=>simp at hi
   |succ i=>exact h1 i k (by simpa using hi)
  ·cases i with
   |zero=>simp at hi
   |succ i =>
    cases j with
    |zero=>simp at hj
    |succ j=>rw[h2 i j k (by simpa using hi) (by simpa using hj)]
 |some k0::l,no,h=>by
  simp only[S1,zLD]at h;obtain⟨h1,h2⟩:=mc (l:=l) h.2;have h0:k0 ∉ no:=fun hm=>by rw[JI.2 hm]at h;simp at h
  refine⟨fun i k hi=>?_,fun i j k hi hj=>?_⟩
  ·cases i with
   |zero=>simp at hi;subst hi;exact h0
   |succ i=>exact fun hm=>h1 i k (by simpa using hi) (by simp[hm])
  ·cases i with
   |zero =>
    simp at hi;subst hi
    cases j with
    |zero=>rfl
    |succ j=>exact absurd (by simp) (h1 j k0 (by simpa using hj))
   |succ i =>
    cases j with
    |zero=>simp at hj;subst hj;exact absurd (by simp) (h1 i k0 (by simpa using hi))
    |succ j=>rw[h2 i j k (by simpa using hi) (by simpa using hj)]
def Wv:LS→List Nat
 | []=>[]
 |e::L=>e.2.2.refs++Wv L
def CY(M:MS):List Nat→List Nat
 | []=>[]
 |k::l=>match look M k with
  |some (_,.bx _ c _)=>c.refs++CY M l
  |_=>CY M l
structure Sh where
 l:List KE
 keep:List Nat
 fz:List Nat
def SJ(s:S):List Nat→List Nat
 | []=>[]
 |t::l=>match look s.L t with
  |some (_,φ)=>φ.refs++(CY s.M φ.refs++SJ s l)
  |none=>SJ s l
def Hv(s:S):List KE→List Nat
 | []=>[]
 |e::l=>match e.1 with
  |false=>Hv s l
  |true=>match Cn s e.2.1 with
   |some b=>b.1::Hv s l
   |none=>Hv s l
def lU(no:List Nat):List Nat→List Nat
 | []=>[]
 |k::l=>match gw k no with
  |true=>lU no l
  |false=>k::lU no l
def Sh.tags(sh:Sh)(s:S):List Nat :=
 let no:=Hv s sh.l
 let a:=Wv (rF s.L sh.keep)
 let b:=CY s.M (lU no a)
 a++(b++CY s.M (lU no b))
abbrev Sh.D(sh:Sh):Type:=LD sh.l
def Sh.put(sh:Sh)(s:S)(x:sh.D):S :=
 let p:=mr s sh.l x s.n
 { L:=p.1++rF s.L sh.keep,M:=p.2.1++Ck s.M (sh.tags s),n:=p.2.2+1,ep:=s.n }
def Sh.zER(sh:Sh)(G:FE)(s s1:S):Option sh.D:=match MR G s s1 sh.l with
 |none=>none
 |some q=>match Wh s s1 sh.keep && (Wg s s1 q.2.2 (sh.tags s) && S1 (q.2.2++sh.tags s) q.2.1) with
  |true=>some q.1
  |false=>none
def Knd.uP:Knd→AV→List Nat
 |.v _,φ=>φ.refs
 |.o ..,_=>[]
 |.m ..,_=>[]
 |.bv ..,_=>[]
 |.un,_=>[]
 |.pr a b,φ=>match φ with
  |.pr x y=>a.uP x++b.uP y
  |_=>[]
 |.ag l,φ=>match K5 φ with
  |some ψ=>l.uP ψ
  |none=>[]
def nI(s1:S):List KE→List Nat
 | []=>[]
 |e::l=>match look s1.L e.2.1 with
  |none=>nI s1 l
  |some f=>match e.1 with
   |false=>e.2.2.uP f.2++nI s1 l
   |true=>match f.2 with
    |.bx k _=>match look s1.M k with
     |some (_,.bx _ c _)=>e.2.2.uP c++nI s1 l
     |_=>nI s1 l
    |_=>nI s1 l
def Sh.get(sh:Sh)(G:FE)(s s1:S):Option sh.D:=sh.zER G s (s1.XW (nI s1 sh.l++SJ s1 sh.fz))
theorem zAd(ι:Nat→Nat)(M:MS):∃B,0<B∧∀k e,look M k=some e→ι k<B :=
 ⟨1+(M.map fun e=>ι e.1).sum,by omega,fun k e h=>by
  have:=uC (l:=M.map fun e=>ι e.1) (x:=ι k) (List.mem_map.2 ⟨_,ZI h,rfl⟩)
  omega⟩
structure Frm.kin(F F0:Frm):Prop where
 fe:F0.fe=F.fe
 bl:F0.bl=F.bl
 kv:F0.x.kv=F.x.kv
theorem Frm.Ka(F:Frm):F.kin F:=⟨rfl,rfl,rfl⟩
theorem Frm.Same.kin{F F':Frm}(h:F.Same F'):F'.kin F:=⟨h.fe.symm,h.bl.symm,h.kv.symm⟩
theorem Nt{F:Frm}(hLh:∀t φ,¬F.Lh t φ){E:VE}(hE:E.ok F.P){s s1:S}{a0 a1:Act}{w0 w1:World}{F0:Frm}(hff:F.kin F0)(h0:Rel F0 s a0 w0)(h1:Rel F s1 a1 w1)(hi:Inv s s1){sh:Sh}{x:sh.D}(hg:sh.zER E.G s s1=some x):Rel F (sh.put s x) a1 w1∧Inv s (sh.put s x):=by
 obtain⟨X0,h0⟩:=h0;obtain⟨X,h1⟩:=h1;unfold Sh.zER at hg
 cases hq:MR E.G s s1 sh.l with
 |none=>rw[hq]at hg;cases hg
 |some q =>
  obtain⟨y,olds,obs⟩:=q;rw[hq]at hg;simp only at hg;split at hg
  ·rename_i hc
   cases hg
   simp only[zLD]at hc;obtain⟨c1,c2,c3⟩:=hc;obtain⟨t1,t2⟩:=mc c3;obtain⟨B,hB0,hBs,hB⟩:∃B,0<B∧F.x.st<B∧∀k e,look s1.M k=some e→X.ι k<B:=by
    obtain⟨B,hB0,hB⟩:=zAd X.ι s1.M;exact⟨B+F.x.st,by omega,by omega,fun k e he=>by have:=hB k e he;omega⟩
   have hfe0:=hff.fe ▸ h0.fe;have hbl0:=hff.bl ▸ h0.bl
   let pick:Nat→Option Nat:=fun k=>(olds[k-s.n]?).bind id
   let X':Cx:={ X with
    U:=fun k=>if k<s.n then X.U k else match pick k with|some j=>X.U j|none=>.slice none 0 0
    ι:=fun k=>if k<s.n then X.ι k else match pick k with|some j=>X.ι j|none=>B+k
    n:=s.n+olds.length+1
    ep:=s.n }
   have hU:∀k,k<s.n→X'.U k=X.U k∧X'.ι k=X.ι k:=fun k hk=>⟨if_pos hk,if_pos hk⟩
   have hpk:∀i o,olds[i]?=some o→pick (s.n+i)=o:=fun i o hi'=>by
    show (olds[s.n+i-s.n]?).bind id=o
    rw[Nat.add_sub_cancel_left,hi'];rfl
   have hU2:∀i o,olds[i]?=some o→X'.U (s.n+i)=(match o with|some j=>X.U j|none=>.slice none 0 0)∧X'.ι (s.n+i)=(match o with|some j=>X.ι j|none=>B+(s.n+i)):=fun i o hi'=>by
    have h:=hpk i o hi';refine⟨?_,?_⟩
    ·show (if s.n+i<s.n then _ else match pick (s.n+i) with|some j=>X.U j|none=>_)=_
     rw[if_neg (by omega),h]
    ·show (if s.n+i<s.n then _ else match pick (s.n+i) with|some j=>X.ι j|none=>_)=_
     rw[if_neg (by omega),h]
   have hR:Ren X X' s.n olds:=⟨rfl,rfl,rfl,rfl,rfl,fun i k hi'=>hU2 i _ hi',fun i hi'=>(hU2 i _ hi').1,zLO _⟩
   have hmn:∀k e,look s.M k=some e→k<s.n:=fun k e he=>(h0.mn k e he).2
   have hA:=uh (by rw[h1.P];exact hE) h1.m h1.l h1.ep hmn hU hq (zLF _) hR
   have hn:(sh.put s x).n=s.n+olds.length+1:=by show (mr s sh.l x s.n).2.2+1=_;rw[hA.nn]
   have hal:X.al X' s.n:=⟨rfl,rfl,fun k hk=>(hU k hk).1,by show s.n≤s.n+olds.length+1;omega,rfl⟩
   -- the objects
   have cls:∀k e,look (sh.put s x).M k=some e→e.1=s.n∧e.2.holds X' w1 k∧(s.n≤k∧k<s.n+olds.length)∨(e.1=s.n∧e.2.holds X' w1 k∧k∈obs∧k<s.n)∨(k ∉ obs∧k<s.n∧gw k (sh.tags s)=true∧look s.M k=some e∧look s1.M k=some e):=by
    intro k e he;rcases Z1 he with h2|⟨h2,h3⟩
    ·obtain⟨g1,g2,g3⟩:=hA.m k e h2
     rcases g3 with g3|g3
     ·exact .inl ⟨g1,g2,g3⟩
     ·exact .inr (.inl ⟨g1,g2,g3,(hA.b k g3).2.1⟩)
    ·obtain⟨g1,g2⟩:=J2 h3
     have hno:k ∉ obs:=fun hm=>(hA.b k hm).2.2 h2
     exact .inr (.inr ⟨hno,hmn k e g1,g2,g1,G9 hi c2 g2 hno g1⟩)
   -- the tags of the call's own objects
   have tg:∀k e,look (sh.put s x).M k=some e→e.2.own=true→(∃k0,H1 s1.M k0∧X'.ι k=X.ι k0∧((k0=k∧k<s.n∧(k∈obs∨gw k (sh.tags s)=true))∨(∃i,k=s.n+i∧olds[i]?=some (some k0))))∨X'.ι k=B+k:=by
    intro k e he ho;rcases cls k e he with ⟨_,_,g1,g2⟩|⟨_,_,g1,g2⟩|⟨g1,g2,g3,g4,g5⟩
    ·have hlt:k-s.n<olds.length:=by omega
     have hget:olds[k-s.n]?=some olds[k-s.n]:=zLT hlt;have h2:=(hU2 (k-s.n) _ hget).2
     have e1:s.n+(k-s.n)=k:=by omega
     rw[e1]at h2
     cases ho2:olds[k-s.n] with
     |none=>rw[ho2]at h2;exact .inr h2
     |some k0 =>
      rw[ho2]at h2 hget;exact .inl ⟨k0,hA.o _ k0 hget,h2,.inr ⟨k-s.n,e1.symm,hget⟩⟩
    ·exact .inl ⟨k,(hA.b k g1).1,(hU k g2).2,.inl ⟨rfl,g2,.inl g1⟩⟩
    ·exact .inl ⟨k,⟨e,g5,ho⟩,(hU k g2).2,.inl ⟨rfl,g2,.inr g3⟩⟩
   refine⟨⟨X',?_⟩,?_⟩
   ·refine⟨h1.P,h1.A,h1.Fn,hn.symm,rfl,h1.ok0,h1.fit,h1.base,fun t e he hf=>?_,fun k e he=>?_,fun t e he=>?_,fun k e he=>?_,fun k k' e e' he he' ho ho' heq=>?_,fun k e he ho=>?_,by rw[hn];show s.n≤_;omega,by rw[hn];have:=hfe0;omega,fun t φ hp=>absurd hp (hLh t φ),⟨by rw[hn];have:=hbl0.1;omega,fun j b hj=>(hU j (zLQ (zLJ.1 hj).1 hbl0.1)).1.trans (h1.bl.2 j b hj)⟩,⟨h1.ex.st,h1.ex.sys,fun v φ hv=>⟨(h1.ex.kv v φ hv).1,(AV.al hal φ (by have:=(AV.Sk φ).1 _ (h0.ex.kv v φ (by rw[hff.kv];exact hv)).2;rwa[h0.n]at this)).1 _ (h1.ex.kv v φ hv).2⟩,h1.ex.since,h1.ex.L⟩⟩
    ·rcases Z1 he with h2|⟨_,h2⟩
     ·exact(hA.l t e h2).2
     ·obtain⟨g1,g2,g3⟩:=Za h2
      have g4:=HC hi c1 g3 g1 g2;have hfr:∀ep,fresh ep e=true:=fun ep=>by simp[fresh,g2]
      have hb:e.2.bd s.n:=by
       have:=(AV.Sk e.2).1 _ (h0.l t e g1 (hfr _));rwa[h0.n]at this
      exact(AV.al hal e.2 hb).1 _ (h1.l t e g4 (hfr _))
    ·rcases cls k e he with ⟨_,g2,_⟩|⟨_,g2,_⟩|⟨g1,g2,g3,g4,g5⟩
     ·exact g2
     ·exact g2
     ·have hh:=h1.m k e g5
      have hh0:=h0.m k e g4;obtain⟨st,mv⟩:=e
      cases mv with
      |sl nw t T xs =>
       show zu _ _ _ _ _ _ _ _
       rw[(hU k g2).1,(hU k g2).2];exact hh
      |bx nw c T =>
       obtain⟨b,cs,m1,m2,m3,m4⟩:=hh;obtain⟨_,cs0,_,_,m5,_⟩:=hh0;have hb:=(AV.Sk c).2.2 _ m5
       rw[h0.n]at hb;refine⟨b,cs,by rw[(hU k g2).1];exact m1,?_,(AV.al hal c hb).2.2 _ m3,m4⟩
       rw[(hU k g2).2];exact m2
      |fs t xs=>show (rSl _).v _ _ _ _;rw[(hU k g2).1];exact hh
      |fb t x=>show (KR _).v _ _ _ _;rw[(hU k g2).1];exact hh
      |fg f=>intro t x hx;show (KR _).v _ _ _ _;rw[(hU k g2).1];exact hh t x hx
      |mp nw a b xs =>
       show Z8 _ _ _ _ _ _ _ _
       rw[(hU k g2).1,(hU k g2).2];exact hh
      |fm a b xs=>show ((Ty.mp a b).gr X.P).v _ _ _ _;rw[(hU k g2).1];exact hh
      |dead=>trivial
    ·rw[hn]
     rcases Z1 he with h2|⟨_,h2⟩
     ·rw[(hA.l t e h2).1];omega
     ·have:=h0.ln t e (Za h2).1;omega
    ·rw[hn]
     rcases cls k e he with ⟨g1,_,g2⟩|⟨g1,_,_,g2⟩|⟨_,g2,_,g4,_⟩
     ·omega
     ·omega
     ·have:=(h0.mn k e g4).1;omega
    ·rcases tg k e he ho with ⟨k0,a1,a2,a3⟩|a2<;>rcases tg k' e' he' ho' with ⟨k1,b1,b2,b3⟩|b2
     ·have hkk:k0=k1:=by
       obtain⟨e1,f1,f2⟩:=a1;obtain⟨e2,f3,f4⟩:=b1;exact h1.inj k0 k1 e1 e2 f1 f3 f2 f4 (by rw[←a2,←b2,heq])
      subst hkk;rcases a3 with ⟨a3,a4,a5⟩|⟨i,a3,a4⟩<;>rcases b3 with ⟨b3,b4,b5⟩|⟨j,b3,b4⟩
      ·omega
      ·refine absurd ?_ (t1 j k0 b4)
       rw[a3,zLM];exact a5.imp id JI.1
      ·refine absurd ?_ (t1 i k0 a4)
       rw[b3,zLM];exact b5.imp id JI.1
      ·have:=t2 i j k0 a4 b4;omega
     ·obtain⟨e1,f1,_⟩:=a1
      have:=hB k0 e1 f1;rw[a2,b2]at heq;omega
     ·obtain⟨e1,f1,_⟩:=b1
      have:=hB k1 e1 f1;rw[a2,b2]at heq;omega
     ·rw[a2,b2]at heq;omega
    ·rcases tg k e he ho with ⟨k0,⟨e1,f1,f2⟩,a2,_⟩|a2
     ·rw[a2];exact h1.pos k0 e1 f1 f2
     ·rw[a2];exact⟨by omega,by omega⟩
   ·refine⟨by rw[hn];omega,fun t e he hl=>?_,fun k e he hl=>?_⟩
    ·rcases Z1 he with h2|⟨_,h2⟩
     ·rw[(hA.l t e h2).1]at hl;omega
     ·exact(Za h2).1
    ·rcases cls k e he with ⟨g1,_⟩|⟨g1,_⟩|⟨_,_,_,g4,_⟩
     ·omega
     ·omega
     ·exact g4
  ·cases hg
theorem YU{F:Frm}(hLh:∀t φ,¬F.Lh t φ){E:VE}(hE:E.ok F.P){s s1:S}{a0 a1:Act}{w0 w1:World}{F0:Frm}(hff:F.kin F0)(h0:Rel F0 s a0 w0)(h1:Rel F s1 a1 w1)(hi:Inv s s1){sh:Sh}{x:sh.D}(hg:sh.get E.G s s1=some x):Rel F (sh.put s x) a1 w1∧Inv s (sh.put s x) :=
 Nt hLh hE hff h0 (Rel.XW _ h1) (hi.trans (Inv.XW _ _)) hg
section
variable {F:Frm} {s:S} {a:Act} {w w':World} {X:Cx} {E:VE}
theorem RelX.ghost(h:RelX F s a w X)(hLh:∀t φ,¬F.Lh t φ)(hL:s.L=[])(hE:Ext w w')(hsb:F.x.sb≤F.w0.heap.size){d:Option Tmp}{v:Value}{b:Nat}{o0:Obj}(hb:w.heap.size≤b)(ho:w'.heap[b]?=some o0) :
  RelX (F.sys fun c o=>F.x.sys c o∨(c=b∧o=o0)) s (a.put d v) w' { X with O:=tag X.O (some b) F.x.st }:=by
 have hlt:=(Array.getElem?_eq_some_iff.1 ho).1;have hk:KX none X.O w (tag X.O (some b) F.x.st) w':=KX.tag hE fun g hg=>by cases hg;exact hb
 have hB:Base F.A F.O0 F.w0 (tag X.O (some b) F.x.st) w':=(h.base.step hE h.ok0).tag h.ex.st (fun g hg=>by cases hg;exact⟨h.base.new _ (zLK h.base.size hb),hlt⟩)
 have h1:RelX F s (a.put d v) w' { X with O:=tag X.O (some b) F.x.st }:=h.go (ZO h.fit d v) rfl rfl rfl (fun _ _=>hk.keep (by simp)) (fun _ _=>rfl) h.n h.ep (zLF _) h.epn hB (fun hf=>⟨hf,hE⟩) (fun t φ hp=>absurd hp (hLh t φ)) (fun t e he=>by rw[hL]at he;cases he) (fun k e he=>.inr ⟨he,rfl,fun _=>hk.keep (by simp)⟩) h.inj h.pos
 refine⟨h1.P,h1.A,h1.Fn,h1.n,h1.ep,h1.ok0,h1.fit,h1.base,h1.l,h1.m,h1.ln,h1.mn,h1.inj,h1.pos,h1.epn,h1.fe,h1.lh,h1.bl,h1.ex.st,fun c o hc=>?_,h1.ex.kv,h1.ex.since,h1.ex.L⟩
 rcases hc with hc|⟨rfl,rfl⟩
 ·exact h1.ex.sys c o hc
 ·exact⟨⟨ho,yj _ _ _⟩,zLK hsb (zLK h.base.size hb)⟩
theorem RelX.take{q:Nat→Obj→Prop}{b:Nat}{cs:Array Value}{Y:TypeId}{o0:Obj}{d:Nat}{c:AV}(h:RelX (F.sys q) s a w X)(hq:∀c o,F.x.sys c o→c≠b∧q c o)(hb:q b o0)(hw:F.w0.heap.size≤b)(hO:∀w:World,w.heap[b]?=some o0→Own w b cs Y)
  (hd:a.get d=.pointer (some ⟨b,0,none⟩)) (hc:(c.sem X w).c cs.toList) (hf:c.zm=false) (hdl:∀φ,¬F.Lh d φ):Rel F (s.obj (some d) (.bx true c Y) (.bx s.n 0)) a w:=by
 obtain⟨τ,hτ0,hτ⟩:=ZL X.ι s.M F.x.st;obtain⟨⟨e1,e2⟩,e3⟩:=h.ex.sys b o0 hb;have hlt:=(Array.getElem?_eq_some_iff.1 e1).1
 have hKeep:∀k,k≠F.x.st→zg k X.O w (tag X.O (some b) τ) w:=fun k hk=>⟨zLF _,fun c hc hO=>⟨by rw[gC (fun e=>hk (by cases e;rw[←hO];exact e2))];exact hO,rfl⟩⟩
 have hB:Base F.A F.O0 F.w0 (tag X.O (some b) τ) w:=Base.tag h.base hτ0.1 (fun g hg=>by cases hg;exact⟨Base.new h.base _ hw,hlt⟩)
 let X':Cx:={ X with O:=tag X.O (some b) τ,U:=qw X.U s.n (.pointer (some ⟨b,0,none⟩)),ι:=qw X.ι s.n τ,n:=s.n+1 }
 have hU:∀k,k<s.n→X'.U k=X.U k:=fun k hk=>Y8 _ _ (by omega)
 have hι:∀k,k≠s.n→X'.ι k=X.ι k:=fun k hk=>Y8 _ _ hk
 have hιn:X'.ι s.n=τ:=gZ _ _ _;have hUn:X'.U s.n=.pointer (some ⟨b,0,none⟩):=gZ _ _ _
 have hle:X.le w X' w:=⟨rfl,hKeep 0 h.ex.st.symm,fun k hk=>hU k (by rw[←h.n];exact hk),by rw[h.n];exact zLO _,rfl⟩
 have mono:∀ {φ:AV} {v:Value},φ.holds X w v→φ.holds X' w v:=fun {φ v} hv=>(φ.mono hle fun _=>Ext.refl _).1 v hv
 have hmn:∀k e,look s.M k=some e→k<s.n:=fun k e he=>(h.mn k e he).2
 refine⟨X',h.P,h.A,h.Fn,rfl,h.ep,h.ok0,h.fit,hB,fun t e he hf'=>?_,fun k e he=>?_,fun t e he=>?_,fun k e he=>?_,fun k k' e e' he he' ho ho' heq=>?_,fun k e he ho=>?_,Nat.le_succ_of_le h.epn,Nat.lt_succ_of_lt h.fe,fun t φ hp hf'=>mono (h.lh t φ hp hf'),⟨Nat.le_succ_of_le h.bl.1,fun j b' hj=>(hU j (zLQ (zLJ.1 hj).1 h.bl.1)).trans (h.bl.2 j b' hj)⟩,?_⟩
 ·rcases zD he with ⟨h1,h2⟩|⟨h1,h2⟩
  ·subst h1 h2
   exact⟨zLP _,b,hUn,hd⟩
  ·exact mono (h.l t e h2 hf')
 ·rcases zD he with ⟨h1,h2⟩|⟨h1,h2⟩
  ·subst h1 h2
   refine⟨b,cs,hUn,⟨hO w e1,?_,?_⟩,(c.mono hle fun h=>by rw[hf]at h;cases h).2.2 _ hc,hf⟩
   ·show X'.F b
    rw[show X'.F=X.F from rfl,h.Fn];exact hw
   ·rw[hιn];exact yj _ _ _
  ·exact MV.le hle (h.mnX k e h2) (hι k (Nat.ne_of_lt (hmn k e h2))) rfl rfl _ (fun ho=>hKeep _ (h.pos k e h2 ho).2) (h.m k e h2)
 ·rcases zD he with ⟨h1,h2⟩|⟨h1,h2⟩
  ·subst h1 h2;exact zLP _
  ·exact Nat.lt_succ_of_lt (h.ln t e h2)
 ·rcases zD he with ⟨h1,h2⟩|⟨h1,h2⟩
  ·subst h1 h2;exact⟨zLP _,zLP _⟩
  ·exact⟨Nat.lt_succ_of_lt (h.mn k e h2).1,Nat.lt_succ_of_lt (h.mn k e h2).2⟩
 ·rcases zD he with ⟨h1,h2⟩|⟨h1,h2⟩<;>rcases zD he' with ⟨h3,h4⟩|⟨h3,h4⟩
  ·omega
  ·subst h1
   rw[hιn,hι k' (Ne.symm h3)]at heq;exact absurd heq.symm (hτ k' e' h4)
  ·subst h3
   rw[hιn,hι k (Ne.symm h1)]at heq;exact absurd heq (hτ k e h2)
  ·rw[hι k (Ne.symm h1),hι k' (Ne.symm h3)]at heq
   exact h.inj k k' e e' h2 h4 ho ho' heq
 ·rcases zD he with ⟨h1,h2⟩|⟨h1,h2⟩
  ·subst h1;rw[hιn];exact hτ0
  ·rw[hι k (Ne.symm h1)];exact h.pos k e h2 ho
 ·refine⟨h.ex.st,fun c o hc=>?_,fun v φ hv=>⟨(h.ex.kv v φ hv).1,mono (h.ex.kv v φ hv).2⟩,h.ex.since.trans hle.k,h.ex.L⟩
  obtain⟨g1,g2⟩:=hq c o hc;obtain⟨⟨g3,g4⟩,g5⟩:=h.ex.sys c o g2;exact⟨⟨g3,by rw[show X'.O=tag X.O (some b) τ from rfl,gC (fun e=>g1 (by cases e;rfl))];exact g4⟩,g5⟩
end
structure It where
 i:Nat
 d:Nat
 n:Nat
 φ:AV
 L:LS
 M:MS
 ep:Nat
def bit(b:Array Nat)(i k:Nat):Bool:=(b.getD i 0).testBit k
def wOf:List Oper→Nat→Nat→Option Nat
 | [],_,_=>none
 |o::os,i,t=>match Dr o.dst [t] with
  |true=>some i
  |false=>wOf os (i+1) t
def ndD:List Oper→Bool
 | []=>true
 |o::os=>(match o.dst with
  |some d=>(wOf os 0 d).isNone
  |none=>true) && ndD os
def WW:List It→Nat→Option It
 | [],_=>none
 |e::l,i=>bif Nat.beq e.i i then some e else WW l i
def rdX(b:Array Nat)(os:List Oper)(C:List It)(L0:LS)(i t:Nat):Option (Nat×AV):=match wOf os 0 t with
 |none=>look L0 t
 |some j=>match bit b i j with
  |true=>match WW C j with
   |some e=>some (e.n,e.φ)
   |none=>none
  |false=>match bit b j i with
   |true=>look L0 t
   |false=>none
def tmps:List Operand→List Nat
 | []=>[]
 |.tmp t::l=>t::tmps l
 |_::l=>tmps l
def lof(b:Array Nat)(os:List Oper)(C:List It)(L0:LS)(i:Nat):List Nat→LS
 | []=>[]
 |t::l=>match rdX b os C L0 i t with
  |some e=>(t,e)::lof b os C L0 i l
  |none=>lof b os C L0 i l
def frX(b:Array Nat)(i:Nat):List Nat→Bool
 | []=>true
 |e::l=>(bit b i e || bit b e i) && frX b i l
def Sx(kill:List Nat):MS→MS
 | []=>[]
 |p::M=>match gw p.1 kill with
  |true=>Sx kill M
  |false=>p::Sx kill M
def zEb:LS→Bool
 | []=>false
 |e::l=>e.2.2.zm || zEb l
def mvX(b:Array Nat)(i:Nat)(ch:List Nat)(kill:Nat→List Nat)(s:S)(L:LS):MS×Nat:=match frX b i ch with
 |true=>(s.M,s.ep)
 |false=>(Sx (kill i) s.M,match zEb L with
  |true=>s.ep
  |false=>s.n+1000000000)
def Ss(M M':MS):MS→Bool
 | []=>true
 |p::l=>(match look M p.1,look M' p.1 with
  |some e,some e'=>Nat.beq e.1 e'.1
  |_,_=>false) && Ss M M' l
def stays(b:Array Nat)(i:Nat)(s':S):List It→Bool
 | []=>true
 |it::C=>(bit b i it.i || (Ss it.M s'.M it.M && Nat.ble s'.ep it.ep)) && stays b i s' C
def qp(b:Array Nat)(i:Nat):List Nat→Bool
 | []=>true
 |j::l=>bit b j i && qp b i l
def rG(al:Nat):List Nat→List Nat
 | []=>[]
 |i::l=>match Nat.beq i al with
  |true=>rG al l
  |false=>i::rG al l
def alX(b:Array Nat)(os:List Oper)(ch:List Nat):List Nat→Nat
 | []=>os.length
 |i::l=>match os[i]? with
  |some o=>match o.op with
   |.alloc _=>match frX b i (rG i ch) with
    |true=>alX b os ch l
    |false=>i
   |_=>alX b os ch l
  |none=>alX b os ch l
def MU(E:VE)(os:List Oper)(ch:List Nat)(al:Nat):Bool:=match os[al]? with
 |none=>true
 |some o=>gw al ch && (match o.op,o.dst with
  |.alloc Y,some _=>(look E.T Y).isSome
  |_,_=>false)
def HR:List It→LS
 | []=>[]
 |it::C=>(it.d,it.n,it.φ)::HR C
def J6{β:Type}(E:VE)(wr:List Nat)(b:Array Nat)(os:List Oper)(ch:List Nat)(al:Nat)(kill:Nat→List Nat)(L0:LS)(k:S→Comp β):List Nat→List It→S→Comp β
 | [],C,s=>k { s with L:=HR C++L0,n:=s.n+1 }
 |i::rest,C,s=>match gw i rest,os[i]? with
  |false,some o=>match gw i ch with
   |true=>match qp b i (rG al rest) with
    |true=>step E wr { L:=lof b os C L0 i (tmps o.op.operands.toList),M:=s.M,n:=s.n+1,ep:=s.ep } o fun s'=>match Nat.ble s.ep s'.ep && stays b i s' C with
     |true=>match o.dst with
      |none=>J6 E wr b os ch al kill L0 k rest C { L:=[],M:=s'.M,n:=s'.n,ep:=s'.ep }
      |some d=>match look s'.L d with
       |some e=>match Nat.ble s.n e.1 with
        |true=>J6 E wr b os ch al kill L0 k rest (⟨i,d,e.1,e.2,[],[],s.n+1000000000⟩::C) { L:=[],M:=s'.M,n:=s'.n,ep:=s'.ep }
        |false=>Comp.fail
       |none=>Comp.fail
     |false=>Comp.fail
    |false=>Comp.fail
   |false=>match o.dst with
    |none=>Comp.fail
    |some d=>match val E (mvX b i ch kill s (lof b os C L0 i (tmps o.op.operands.toList))).1 (mvX b i ch kill s (lof b os C L0 i (tmps o.op.operands.toList))).2 (lof b os C L0 i (tmps o.op.operands.toList)) [] [] wr (some d) o.op with
     |.no=>Comp.fail
     |.tot φ=>J6 E wr b os ch al kill L0 k rest (⟨i,d,s.n,φ,lof b os C L0 i (tmps o.op.operands.toList),(mvX b i ch kill s (lof b os C L0 i (tmps o.op.operands.toList))).1,(mvX b i ch kill s (lof b os C L0 i (tmps o.op.operands.toList))).2⟩::C) s
     |.par t c mk=>c.bind fun x=>J6 E wr b os ch al kill L0 k rest (⟨i,d,s.n,mk x,lof b os C L0 i (tmps o.op.operands.toList),(mvX b i ch kill s (lof b os C L0 i (tmps o.op.operands.toList))).1,(mvX b i ch kill s (lof b os C L0 i (tmps o.op.operands.toList))).2⟩::C) s
  |_,_=>Comp.fail
def S3:List Oper→List Nat
 | []=>[]
 |o::os=>match o.op with
  |.call c=>match c.callee with
   |.builtin .append=>tmps (c.args.toList.take 1)++S3 os
   |_=>S3 os
  |_=>S3 os
def nQ(L:LS):List Nat→List Nat
 | []=>[]
 |t::l=>match look L t with
  |some e=>e.2.refs++nQ L l
  |none=>nQ L l
def noG:List Oper→Bool
 | []=>true
 |o::os=>o.guard.isNone && noG os
def Hx(can:List Nat):Nat→Bool
 |0=>true
 |n+1=>gw n can && Hx can n
def EF(M:MS):List Nat→List Nat
 | []=>[]
 |k::l=>match look M k with
  |some (_,.bx _ c _)=>c.refs++EF M l
  |_=>EF M l
def SY(L:LS)(M:MS)(HV:List Nat):List (Nat×List Nat)→Nat→List Nat
 | [],_=>HV
 |e::l,i=>match Nat.beq e.1 i with
  |true=>nQ L e.2++EF M (nQ L e.2)
  |false=>SY L M HV l i
def zET{β:Type}(E:VE)(os:List Oper)(ch can:List Nat)(kl:List (Nat×List Nat))(s:S)(k:S→Comp β):Comp β:=match ndD os && (noG os && (Hx can os.length && MU E os ch (alX (bitsOf os) os ch ch))) with
 |true=>J6 E (wrS os) (bitsOf os) os ch (alX (bitsOf os) os ch ch) (SY s.L s.M (nQ s.L (wrS os++S3 os)) kl) s.L k can [] { s with L:=[] }
 |false=>Comp.fail
theorem YT{d:Nat}:∀ {l:List Nat},gw d l=true↔d∈l
 | []=>by simp[gw]
 |e::l=>by
  unfold gw
  cases hb:Nat.beq e d with
  |true=>have:=zLC hb;simp[this]
  |false =>
   rw[zV]at hb;have hne:¬e=d:=by simpa using hb
   simp only[cond_false,YT,zLH];exact⟨.inr,fun h=>h.resolve_left fun h=>hne h.symm⟩
theorem BQ{o:Option Tmp}{t:Nat}:Dr o [t]=true↔o=some t:=by
 cases o with
 |none=>simp[Dr]
 |some d =>
  show gw d [t]=true↔_
  rw[YT];simp
theorem qE:∀ {os:List Oper} {i t j:Nat},wOf os i t=some j→i≤j∧∃o,os[j-i]?=some o∧o.dst=some t
 | [],_,_,_,h=>by cases h
 |o::os,i,t,j,h=>by
  unfold wOf at h
  cases hb:Dr o.dst [t] with
  |true=>rw[hb]at h;cases h;exact⟨zLF _,o,by simp,BQ.1 hb⟩
  |false =>
   rw[hb]at h;obtain⟨h1,o',h2,h3⟩:=qE h;refine⟨by omega,o',?_,h3⟩
   rw[show j-i=(j-(i+1))+1 by omega,List.getElem?_cons_succ];exact h2
theorem qF:∀ {os:List Oper} {i t:Nat},wOf os i t=none→∀(j:Nat) o,os[j]?=some o→o.dst≠some t
 | [],_,_,_,j,o,h=>by simp at h
 |o::os,i,t,h,j,o',ho=>by
  unfold wOf at h
  cases hb:Dr o.dst [t] with
  |true=>rw[hb]at h;cases h
  |false =>
   rw[hb]at h
   cases j with
   |zero =>
    simp only[List.getElem?_cons_zero,Option.some.injEq]at ho;subst ho;intro e;rw[BQ.2 e]at hb;cases hb
   |succ j=>exact qF h j o' (by simpa using ho)
theorem uA:∀ {os:List Oper},ndD os=true→∀ {i j:Nat} {o o':Oper} {t:Nat},os[i]?=some o→os[j]?=some o'→o.dst=some t→o'.dst=some t→i=j
 | [],_,i,j,o,o',t,h,_,_,_=>by simp at h
 |x::os,hn,i,j,o,o',t,hi,hj,h1,h2=>by
  simp only[ndD,zLD]at hn;have key:∀ {j:Nat} {o':Oper},x.dst=some t→os[j]?=some o'→o'.dst=some t→False:=by
   intro j o' hx hj h2;have h:=hn.1
   rw[hx]at h;simp only at h;exact qF (Option.isNone_iff_eq_none.1 h) j o' hj h2
  cases i with
  |zero =>
   cases j with
   |zero=>rfl
   |succ j =>
    simp only[List.getElem?_cons_zero,Option.some.injEq]at hi;subst hi;exact(key h1 (by simpa using hj) h2).elim
  |succ i =>
   cases j with
   |zero =>
    simp only[List.getElem?_cons_zero,Option.some.injEq]at hj;subst hj;exact(key h2 (by simpa using hi) h1).elim
   |succ j=>exact congrArg Nat.succ (uA (os:=os) (i:=i) (j:=j) hn.2 (by simpa using hi) (by simpa using hj) h1 h2)
theorem pK:∀ {C:List It} {j:Nat} {e:It},WW C j=some e→e∈C∧e.i=j
 | [],_,_,h=>by cases h
 |x::C,j,e,h=>by
  unfold WW at h
  cases hb:Nat.beq x.i j with
  |true=>rw[hb]at h;cases h;exact⟨by simp,zLC hb⟩
  |false =>
   rw[hb]at h;obtain⟨h1,h2⟩:=pK h;exact⟨zLN _ h1,h2⟩
theorem KY{b:Array Nat}{os:List Oper}{C:List It}{L0:LS}{i:Nat}:∀ {l:List Nat} {t:Nat} {e:Nat×AV},look (lof b os C L0 i l) t=some e→rdX b os C L0 i t=some e
 | [],_,_,h=>by cases h
 |u::l,t,e,h=>by
  unfold lof at h;split at h
  ·rename_i e' he
   rcases zD h with ⟨h1,h2⟩|⟨_,h2⟩
   ·subst h1 h2;exact he
   ·exact KY h2
  ·exact KY h
theorem wO{kill:List Nat}:∀ {M:MS} {k:Nat} {e:Nat×MV},look (Sx kill M) k=some e→gw k kill=false∧look M k=some e
 | [],_,_,h=>by cases h
 |p::M,k,e,h=>by
  unfold Sx at h
  cases hb:gw p.1 kill with
  |true =>
   rw[hb]at h;obtain⟨h1,h2⟩:=wO h;refine⟨h1,?_⟩;unfold look;rw[zV,decide_eq_false (fun e=>by rw[e,h1]at hb;cases hb)]
   exact h2
  |false =>
   rw[hb]at h;rcases zD (k:=p.1) (x:=p.2) h with ⟨h1,h2⟩|⟨h1,h2⟩
   ·subst h1
    refine⟨hb,?_⟩;unfold look;rw[zV,decide_eq_true rfl,←h2];rfl
   ·obtain⟨h3,h4⟩:=wO h2
    refine⟨h3,?_⟩;unfold look;rw[zV,decide_eq_false h1];exact h4
theorem E7{M M':MS}:∀ {l:MS},Ss M M' l=true→∀ {k:Nat} {e x:Nat×MV},look M k=some e→look l k=some x→∃e',look M' k=some e'∧e'.1=e.1
 | [],_,k,e,x,_,h=>by cases h
 |p::l,h,k,e,x,he,hl=>by
  simp only[Ss,zLD]at h;rcases zD (k:=p.1) (x:=p.2) hl with ⟨h1,_⟩|⟨_,h2⟩
  ·have h0:=h.1
   rw[h1,he]at h0
   cases hm:look M' k with
   |none=>rw[hm]at h0;cases h0
   |some e'=>rw[hm]at h0;exact⟨e',rfl,(zLC h0).symm⟩
  ·exact E7 h.2 he h2
theorem Aj{b:Array Nat}{i:Nat}{s':S}:∀ {C:List It},stays b i s' C=true→∀it∈C,bit b i it.i=true∨(Ss it.M s'.M it.M=true∧s'.ep≤it.ep)
 | [],_,it,h=>by cases h
 |x::C,h,it,hm=>by
  simp only[stays,zLD,Bool.or_eq_true]at h;rcases zLH.1 hm with rfl|hm
  ·exact h.1.imp id fun h=>⟨h.1,Nat.le_of_ble_eq_true h.2⟩
  ·exact Aj h.2 it hm
theorem qY{al j:Nat}:∀ {l:List Nat},j∈l→j≠al→j∈rG al l
 |x::l,hm,hj=>by
  unfold rG;rcases zLH.1 hm with rfl|hm
  ·rw[zV,decide_eq_false hj];exact List.mem_cons_self ..
  ·split
   ·exact qY hm hj
   ·exact zLN _ (qY hm hj)
theorem pJ{b:Array Nat}{i:Nat}:∀ {l:List Nat},qp b i l=true→∀j∈l,bit b j i=true
 | [],_,j,h=>by cases h
 |x::l,h,j,hm=>by
  simp only[qp,zLD]at h;rcases zLH.1 hm with rfl|hm
  ·exact h.1
  ·exact pJ h.2 j hm
theorem pC:∀ {C:List It} {t:Nat} {e:Nat×AV},look (HR C) t=some e→∃it∈C,it.d=t∧(it.n,it.φ)=e
 | [],_,_,h=>by cases h
 |it::C,t,e,h=>by
  rcases zD (k:=it.d) (x:=(it.n,it.φ)) h with ⟨h1,h2⟩|⟨_,h2⟩
  ·exact⟨it,by simp,h1,h2⟩
  ·obtain⟨it',h3,h4⟩:=pC h2
   exact⟨it',zLN _ h3,h4⟩
theorem pA:∀ {C:List It} {t:Nat},look (HR C) t=none→∀it∈C,it.d≠t
 | [],_,_,it,h=>by cases h
 |x::C,t,h,it,hm=>by
  unfold HR look at h;simp only at h
  cases hb:Nat.beq x.d t with
  |true=>rw[hb]at h;cases h
  |false =>
   rw[hb]at h;rcases zLH.1 hm with rfl|hm
   ·intro e;rw[zV,decide_eq_true e]at hb;cases hb
   ·exact pA h it hm
theorem Ee:∀ {os:List Oper},noG os=true→∀o∈os,o.guard=none
 | [],_,o,h=>by cases h
 |x::os,h,o,hm=>by
  simp only[noG,zLD]at h;rcases zLH.1 hm with rfl|hm
  ·exact Option.isNone_iff_eq_none.1 h.1
  ·exact Ee h.2 o hm
theorem CH{can:List Nat}:∀ {n:Nat},Hx can n=true→∀i,i<n→i∈can
 |0,_,i,h=>by omega
 |n+1,h,i,hi=>by
  simp only[Hx,zLD]at h;by_cases e:i=n
  ·subst e;exact YT.1 h.1
  ·exact CH h.2 i (by omega)
structure Rdy(P:Program)(os:List Oper)(L0:LS)(C:List It)(s:S)(it:It):Prop where
 sub:∀k e,look it.M k=some e→look s.M k=some e
 ep:s.ep≤it.ep
 op:∀t e,look it.L t=some e→(wOf os 0 t=none∧look L0 t=some e)∨(∃j,wOf os 0 t=some j∧bit (bitsOf os) j it.i=true∧look L0 t=some e)∨(∃jt∈C,jt.i≠it.i∧wOf os 0 t=some jt.i∧bit (bitsOf os) it.i jt.i=true∧(jt.n,jt.φ)=e)
 ok:∃o,os[it.i]?=some o∧o.dst=some it.d∧∀ {X:Cx} {w:World} {a:Act},X.P=P→OkO X.O w→yF it.M X w→X.ep=it.ep→Xq it.L X w a→Ok P o a w (fun w v=>it.φ.holds X w v)
structure JS(F:Frm)(al:Nat)(os:List Oper)(L0:LS)(M0:MS)(n0:Nat)(rest:List Nat)(C:List It)(s:S)(T:Nat→Bool)(a:Act)(w:World)(X:Cx):Prop where
 rel:RelX F s a w X
 sL:s.L=[]
 hn:n0≤s.n
 l0:∀t e,look L0 t=some e→e.1<n0
 im:∀k e,look s.M k=some e→e.1<n0→look M0 k=some e
 c:∀it∈C,T it.i=true→fresh s.ep (it.n,it.φ)=true→it.φ.holds X w (a.get it.d)
 l:∀t e,look L0 t=some e→(∀j o,os[j]?=some o→o.dst=some t→T j=false)→fresh s.ep e=true→e.2.holds X w (a.get t)
 rd:∀it∈C,T it.i=false→Rdy F.P os L0 C s it
 rs:∀i∈rest,T i=false∨i=al
 nc:∀it∈C,it.i ∉ rest
 un:∀it∈C,∀it'∈C,it.i=it'.i→it=it'
 cov:∀i o,os[i]?=some o→i∈rest∨(o.dst=none∧T i=true)∨∃it∈C,it.i=i
 dst:∀it∈C,∃o,os[it.i]?=some o∧o.dst=some it.d
 st:∀it∈C,n0≤it.n∧it.n≤s.n
section
variable {F:Frm} {E:VE} {os:List Oper} {L0:LS} {M0:MS} {n0 nf:Nat} {rest:List Nat} {C:List It} {s:S} {T:Nat→Bool} {a:Act} {w:World} {X:Cx} {wr ch:List Nat} {al:Nat} {kill:Nat→List Nat} {β:Type} {y:β} {k:S→Comp β}
theorem Rdy.cons{P:Program}{it:It}(h:Rdy P os L0 C s it)(x:It):Rdy P os L0 (x::C) s it :=
 ⟨h.sub,h.ep,fun t e he=>(h.op t e he).imp id (·.imp id fun ⟨jt,h1,h2⟩=>⟨jt,zLN _ h1,h2⟩),h.ok⟩
theorem BA{b:Array Nat}{i t:Nat}{e:Nat×AV}(h:rdX b os C L0 i t=some e):(wOf os 0 t=none∧look L0 t=some e)∨(∃j,wOf os 0 t=some j∧bit b j i=true∧look L0 t=some e)∨(∃jt∈C,wOf os 0 t=some jt.i∧bit b i jt.i=true∧(jt.n,jt.φ)=e):=by
 unfold rdX at h;split at h
 ·rename_i hw;exact .inl ⟨hw,h⟩
 ·rename_i j hw
  split at h
  ·rename_i hb
   split at h
   ·rename_i e' he
    cases h
    obtain⟨h1,h2⟩:=pK he;exact .inr (.inr ⟨e',h1,by rw[h2];exact hw,by rw[h2];exact hb,rfl⟩)
   ·cases h
  ·split at h
   ·rename_i hb;exact .inr (.inl ⟨j,hw,hb,h⟩)
   ·cases h
theorem VN{b:Array Nat}{i:Nat}{L:LS}:∀k e,look (mvX b i ch kill s L).1 k=some e→look s.M k=some e:=by
 intro k e h;unfold mvX at h;split at h
 ·exact h
 ·exact(wO h).2
theorem zDC{b:Array Nat}{i:Nat}{L:LS}(h:s.ep≤s.n):s.ep≤(mvX b i ch kill s L).2:=by
 unfold mvX;split
 ·exact zLF _
 ·show s.ep≤(match zEb L with
  |true=>s.ep
  |false=>s.n+1000000000)
  split
  ·exact zLF _
  ·exact zLK h (Nat.le_add_right _ _)
theorem JS.add(hE:E.ok F.P){i:Nat}(h:JS F al os L0 M0 n0 (i::rest) C s T a w X)(hn:i ∉ rest)(hia:i≠al){o:Oper}(ho:os[i]?=some o){d:Nat}(hd:o.dst=some d){φ:AV}
  (hv:∀ {X:Cx} {w:World} {a:Act},X.P=F.P→OkO X.O w→yF (mvX (bitsOf os) i ch kill s (lof (bitsOf os) os C L0 i (tmps o.op.operands.toList))).1 X w→X.ep=(mvX (bitsOf os) i ch kill s (lof (bitsOf os) os C L0 i (tmps o.op.operands.toList))).2→Xq (lof (bitsOf os) os C L0 i (tmps o.op.operands.toList)) X w a→Ok F.P o a w (fun w v=>φ.holds X w v)) :
  JS F al os L0 M0 n0 rest (⟨i,d,s.n,φ,lof (bitsOf os) os C L0 i (tmps o.op.operands.toList),(mvX (bitsOf os) i ch kill s (lof (bitsOf os) os C L0 i (tmps o.op.operands.toList))).1,(mvX (bitsOf os) i ch kill s (lof (bitsOf os) os C L0 i (tmps o.op.operands.toList))).2⟩::C) s T a w X:=by
 have hTi:T i=false:=(h.rs i (by simp)).resolve_right hia
 have hCi:∀it∈C,it.i≠i:=fun it hm e=>h.nc it hm (by rw[e];simp)
 refine⟨h.rel,h.sL,h.hn,h.l0,h.im,fun it hm ht=>?_,h.l,fun it hm ht=>?_,fun j hj=>h.rs j (zLN _ hj),fun it hm=>?_,fun it hm it' hm' he=>?_,fun j o' hj=>?_,fun it hm=>?_,fun it hm=>?_⟩
 ·rcases zLH.1 hm with rfl|hm
  ·rw[hTi]at ht;cases ht
  ·exact h.c it hm ht
 ·rcases zLH.1 hm with rfl|hm
  ·refine⟨VN,zDC h.rel.epn,fun t e he=>?_,o,ho,hd,hv⟩
   rcases BA (KY he) with h1|h1|⟨jt,h1,h2⟩
   ·exact .inl h1
   ·exact .inr (.inl h1)
   ·exact .inr (.inr ⟨jt,zLN _ h1,hCi jt h1,h2⟩)
  ·exact(h.rd it hm ht).cons _
 ·rcases zLH.1 hm with rfl|hm
  ·exact hn
  ·exact fun hr=>h.nc it hm (zLN _ hr)
 ·rcases zLH.1 hm with rfl|hm<;>rcases zLH.1 hm' with rfl|hm'
  ·rfl
  ·exact absurd he.symm (hCi it' hm')
  ·exact absurd he (hCi it hm)
  ·exact h.un it hm it' hm' he
 ·rcases h.cov j o' hj with h1|h1|⟨it,h1,h2⟩
  ·rcases zLH.1 h1 with rfl|h1
   ·exact .inr (.inr ⟨_,List.Mem.head _,rfl⟩)
   ·exact .inl h1
  ·exact .inr (.inl h1)
  ·exact .inr (.inr ⟨it,zLN _ h1,h2⟩)
 ·rcases zLH.1 hm with rfl|hm
  ·exact⟨o,ho,hd⟩
  ·exact h.dst it hm
 ·rcases zLH.1 hm with rfl|hm
  ·exact⟨h.hn,zLF _⟩
  ·exact h.st it hm
theorem JS.zGm(hnd:ndD os=true)(h:JS F al os L0 M0 n0 rest C s T a w X){i:Nat}(haft:∀k,bit (bitsOf os) k i=true→T k=false)(hbef:∀k,bit (bitsOf os) i k=true→vD T i k=true){t:Nat}{e:Nat×AV}
  (hc:(wOf os 0 t=none∧look L0 t=some e)∨(∃j,wOf os 0 t=some j∧bit (bitsOf os) j i=true∧look L0 t=some e)∨(∃jt∈C,jt.i≠i∧wOf os 0 t=some jt.i∧bit (bitsOf os) i jt.i=true∧(jt.n,jt.φ)=e)) (hf:fresh s.ep e=true):e.2.holds X w (a.get t):=by
 rcases hc with ⟨h1,h2⟩|⟨j,h1,h2,h3⟩|⟨jt,h1,h2,h3,h4,h5⟩
 ·exact h.l t e h2 (fun j o hj hd=>absurd hd (qF h1 j o hj)) hf
 ·refine h.l t e h3 (fun j' o hj hd=>?_) hf
  obtain⟨_,o',g1,g2⟩:=qE h1;have:j'=j:=uA hnd hj (by simpa using g1) hd g2
  rw[this];exact haft j h2
 ·obtain⟨_,o',g1,g2⟩:=qE h3
  obtain⟨o2,g3,g4⟩:=h.dst jt h1;rw[Nat.sub_zero,g3]at g1;cases g1;rw[g4]at g2;cases g2;have hT:T jt.i=true:=by
   have:=hbef _ h4;simp only[vD,Bool.or_eq_true]at this;exact this.resolve_right fun hb=>h2 (zLC hb)
  rw[←h5]at hf ⊢;exact h.c jt h1 hT hf
theorem RelX.set(hLh:∀t φ,¬F.Lh t φ)(h:RelX F s a w X)(hL:s.L=[]){w':World}(hE:Ext w w')(d:Option Tmp)(v:Value):RelX F s (a.put d v) w' X :=
 h.go (ZO h.fit d v) rfl rfl rfl (fun _ _=>zg.ext hE) (fun _ _=>rfl) h.n h.ep (zLF _) h.epn (h.base.step hE h.ok0) (fun hf=>⟨hf,hE⟩) (fun t φ hp=>absurd hp (hLh t φ)) (fun t e he=>by rw[hL]at he;cases he) (fun k e he=>.inr ⟨he,rfl,fun _=>zg.ext hE⟩) h.inj h.pos
theorem mh{T:Nat→Bool}{i j:Nat}(h:vD T i j=true)(hne:j≠i):T j=true:=by
 simp only[vD,Bool.or_eq_true]at h;exact h.resolve_right fun hb=>hne (zLC hb)
theorem Ya(T:Nat→Bool)(i:Nat):vD T i i=true:=by simp[vD,zV]
theorem XU{T:Nat→Bool}{i j:Nat}(h:vD T i j=false):T j=false∧j≠i:=by
 unfold vD at h;rw[Bool.or_eq_false_iff,zV]at h;exact⟨h.1,by simpa using h.2⟩
theorem JS.val(hLh:∀t φ,¬F.Lh t φ)(hok:yK F.N os=true)(hnd:ndD os=true)(h:JS F al os L0 M0 n0 rest C s T a w X){it:It}(hm:it∈C)(hT:T it.i=false)(haft:∀k,bit (bitsOf os) k it.i=true→T k=false)(hbef:∀k,bit (bitsOf os) it.i k=true→vD T it.i k=true) :
  ∃o,os[it.i]?=some o∧Ok F.P o a w (fun w' v=>Ext w w'→JS F al os L0 M0 n0 rest C s (vD T it.i) (a.put o.dst v) w' X):=by
 obtain⟨r1,r2,r3,o,ho,hd,r4⟩:=h.rd it hm hT;refine⟨o,ho,fun K Q hK=>?_⟩
 let X1:Cx:={ X with ep:=it.ep }
 have to1:∀ {φ:AV} {w:World} {v:Value},φ.holds X w v→φ.holds X1 w v:=fun {φ w v} hv=>(φ.mono (X:=X) (X':=X1) (w:=w) (w':=w) ⟨rfl,zg.refl _ _ _,fun _ _=>rfl,zLF _,rfl⟩ fun _=>Ext.refl _).1 v hv
 have of1:∀ {φ:AV} {w:World} {v:Value},φ.holds X1 w v→φ.holds X w v:=fun {φ w v} hv=>(φ.mono (X:=X1) (X':=X) (w:=w) (w':=w) ⟨rfl,zg.refl _ _ _,fun _ _=>rfl,zLF _,rfl⟩ fun _=>Ext.refl _).1 v hv
 have hMn:=h.rel.mnX;have hM1:yF it.M X1 w:=fun k e he=>MV.le (X:=X) (X':=X1) ⟨rfl,zg.refl _ _ _,fun _ _=>rfl,zLF _,rfl⟩ (hMn k e (r1 k e he)) rfl rfl rfl _ (fun _=>zg.refl _ _ _) (h.rel.m k e (r1 k e he))
 have hL1:Xq it.L X1 w a:=fun t e he hf=>by
  have hf':fresh s.ep e=true:=by
   unfold fresh at hf ⊢;rw[Bool.or_eq_true]at hf ⊢;exact hf.imp id fun hb=>by
    rw[jr,decide_eq_true_eq]at hb ⊢;exact zLK r2 hb
  exact to1 (h.zGm hnd haft hbef (r3 t e he) hf')
 refine r4 (X:=X1) h.rel.P h.rel.okO hM1 rfl hL1 K Q fun v w' hEx hv=>?_
 refine hK v w' hEx fun _=>?_
 rw[hd];have hv:=of1 hv
 have hdN:=((zW hok ho).2.1 it.d hd).1;have hother:∀it'∈C,it'.i≠it.i→it.d≠it'.d:=fun it' hm' hne e=>by
  obtain⟨o',g1,g2⟩:=h.dst it' hm';exact hne (uA hnd g1 ho (by rw[g2,e]) hd)
 refine⟨h.rel.set hLh h.sL hEx _ _,h.sL,h.hn,h.l0,h.im,fun it' hm' ht hf=>?_,fun t e he ht hf=>?_,fun it' hm' ht=>h.rd it' hm' (XU ht).1,fun j hj=>?_,h.nc,h.un,fun j o' hj=>?_,h.dst,h.st⟩
 ·by_cases hne:it'.i=it.i
  ·have:=h.un it' hm' it hm hne
   subst this;rw[yg h.rel.fit hdN];exact hv
  ·rw[vp (hother it' hm' hne)]
   exact it'.φ.ext hEx (h.c it' hm' (mh ht hne) hf)
 ·have hne:it.d≠t:=fun e=>by
   have:=ht it.i o ho (by rw[hd,e])
   rw[Ya]at this;cases this
  rw[vp hne];exact e.2.ext hEx (h.l t e he (fun j o' hj hd'=>(XU (ht j o' hj hd')).1) hf)
 ·have h1:=h.rs j hj
  have hne:j≠it.i:=fun e=>h.nc it hm (by rw[←e];exact hj)
  refine h1.imp (fun h1=>?_) id
  unfold vD;rw[h1,zV,decide_eq_false hne];rfl
 ·rcases h.cov j o' hj with h1|⟨h1,h2⟩|h1
  ·exact .inl h1
  ·exact .inr (.inl ⟨h1,by simp[vD,h2]⟩)
  ·exact .inr (.inr h1)
def Sw(ep:Nat)(os:List Oper)(L0:LS)(C:List It)(T:Nat→Bool)(i:Nat):Nat→AV→Prop:=fun t φ=>(∀o,os[i]?=some o→o.dst≠some t) ∧
 ((∃it∈C,T it.i=true∧it.d=t∧it.φ=φ∧fresh ep (it.n,it.φ)=true)∨(∃x,look L0 t=some x∧x.2=φ∧fresh ep x=true∧∀j o,os[j]?=some o→o.dst=some t→T j=false))
theorem JS.nxt(hLh:∀t φ,¬F.Lh t φ)(hnd:ndD os=true){q:Nat→Obj→Prop}{i:Nat}(h:JS (F.sys q) al os L0 M0 n0 (i::rest) C s T a w X)(hn:i ∉ rest){o:Oper}(ho:os[i]?=some o)(hbef:∀k,bit (bitsOf os) i k=true→vD T i k=true)
  {s':S} {a':Act} {w':World} {X':Cx} {Le:LS} (hX:RelX { F with Lh:=Sw s.ep os L0 C T i,fe:=s.n } s' a' w' X') (hi:Inv { L:=Le,M:=s.M,n:=s.n+1,ep:=s.ep } s') (hmono:s.ep≤s'.ep) (hst:stays (bitsOf os) i s' C=true)
  {nw:List It} (h1:∀it∈nw,it.i=i∧o.dst=some it.d∧look s'.L it.d=some (it.n,it.φ)∧s.n≤it.n) (h2:∀it∈nw,∀it'∈nw,it=it') (h3:o.dst=none∨∃it,it∈nw) :
  JS F al os L0 M0 n0 rest (nw++C) { L:=[],M:=s'.M,n:=s'.n,ep:=s'.ep } (vD T i) a' w' X':=by
 have hle:s.n+1≤s'.n:=hi.le;have hCi:∀it∈C,it.i≠i:=fun it hm e=>h.nc it hm (by rw[e];simp)
 have hXF:RelX F { L:=[],M:=s'.M,n:=s'.n,ep:=s'.ep } a' w' X':=⟨hX.P,hX.A,hX.Fn,hX.n,hX.ep,hX.ok0,hX.fit,hX.base,fun t e he=>(nomatch he),hX.m,fun t e he=>(nomatch he),hX.mn,hX.inj,hX.pos,hX.epn,zLQ h.rel.fe (by show s.n≤s'.n;omega),fun t φ hp=>absurd hp (hLh t φ),hX.bl,hX.ex⟩
 have hep:∀ {e:Nat×AV},fresh s'.ep e=true→e.1≤s.n→e.2.zm=true→s'.ep≤s.n:=fun {e} hf hl hfr=>by
  simp only[fresh,hfr,Bool.not_true,Bool.false_or]at hf;rw[jr]at hf;exact zLK (of_decide_eq_true hf) hl
 have hfe:∀ {e:Nat×AV},fresh s'.ep e=true→fresh s.ep e=true:=fun {e} hf=>by
  unfold fresh at hf ⊢;rw[Bool.or_eq_true]at hf ⊢;exact hf.imp id fun hb=>by
   rw[jr,decide_eq_true_eq]at hb ⊢;exact zLK hmono hb
 refine⟨hXF,rfl,zLK h.hn (by show s.n≤s'.n;omega),h.l0,fun k e he hlt=>h.im k e (hi.m k e he (by have:=h.hn;show e.1<s.n+1;omega)) hlt,
  fun it hm ht hf=>?_,fun t e he ht hf=>?_,fun it hm ht=>?_,fun j hj=>?_,fun it hm=>?_,fun it hm it' hm' he=>?_,fun j o' hj=>?_,fun it hm=>?_,fun it hm=>?_⟩
 ·rcases zLM.1 hm with hm|hm
  ·obtain⟨_,_,g1,_⟩:=h1 it hm
   exact hX.l _ _ g1 (by rw[hX.ep];exact hf)
  ·refine hX.lh it.d it.φ ⟨fun o' ho' e=>?_,.inl ⟨it,hm,mh ht (hCi it hm),rfl,rfl,hfe hf⟩⟩ (hep hf (h.st it hm).2)
   obtain⟨o2,g1,g2⟩:=h.dst it hm;exact hCi it hm (uA hnd g1 ho' g2 e)
 ·refine hX.lh t e.2 ⟨fun o' ho' e'=>?_,.inr ⟨e,he,rfl,hfe hf,fun j o' hj hd=>(XU (ht j o' hj hd)).1⟩⟩ (hep hf (by have:=h.l0 t e he;have:=h.hn;omega))
  have:=ht i o' ho' e';rw[Ya]at this;cases this
 ·rcases zLM.1 hm with hm|hm
  ·rw[(h1 it hm).1,Ya]at ht;cases ht
  ·obtain⟨r1,r2,r3,r4⟩:=h.rd it hm (XU ht).1
   rcases Aj hst it hm with g|⟨g1,g2⟩
   ·rw[hbef _ g]at ht;cases ht
   ·refine⟨fun k e he=>?_,g2,fun t e he=>(r3 t e he).imp id (·.imp id fun ⟨jt,q1,q2⟩=>⟨jt,List.mem_append_right _ q1,q2⟩),r4⟩
    obtain⟨e',q1,q2⟩:=E7 g1 he he;have q3:=r1 k e he
    have q4:=(h.rel.mn k e q3).1;have q5:=hi.m k e' q1 (by show e'.1<s.n+1;omega)
    have q6:look s.M k=some e':=q5;rw[q3]at q6;cases q6;exact q1
 ·have g1:=h.rs j (zLN _ hj)
  have hne:j≠i:=fun e=>hn (by rw[←e];exact hj)
  refine g1.imp (fun g1=>?_) id
  unfold vD;rw[g1,zV,decide_eq_false hne];rfl
 ·rcases zLM.1 hm with hm|hm
  ·rw[(h1 it hm).1];exact hn
  ·exact fun hr=>h.nc it hm (zLN _ hr)
 ·rcases zLM.1 hm with hm|hm<;>rcases zLM.1 hm' with hm'|hm'
  ·exact h2 it hm it' hm'
  ·rw[(h1 it hm).1]at he;exact absurd he.symm (hCi it' hm')
  ·rw[(h1 it' hm').1]at he;exact absurd he (hCi it hm)
  ·exact h.un it hm it' hm' he
 ·rcases h.cov j o' hj with g|⟨g1,g2⟩|⟨it,g1,g2⟩
  ·rcases zLH.1 g with rfl|g
   ·rw[ho]at hj;cases hj
    rcases h3 with g|⟨it,g⟩
    ·exact .inr (.inl ⟨g,Ya _ _⟩)
    ·exact .inr (.inr ⟨it,List.mem_append_left _ g,(h1 it g).1⟩)
   ·exact .inl g
  ·exact .inr (.inl ⟨g1,by simp[vD,g2]⟩)
  ·exact .inr (.inr ⟨it,List.mem_append_right _ g1,g2⟩)
 ·rcases zLM.1 hm with hm|hm
  ·exact⟨o,by rw[(h1 it hm).1];exact ho,(h1 it hm).2.1⟩
  ·exact h.dst it hm
 ·rcases zLM.1 hm with hm|hm
  ·exact⟨zLK h.hn (h1 it hm).2.2.2,Nat.le_of_lt (hX.ln _ _ (h1 it hm).2.2.1)⟩
  ·have:=h.st it hm;exact⟨this.1,by show it.n≤s'.n;omega⟩
theorem JS.MN(h:JS F al os L0 M0 n0 rest C s T a w X)(i:Nat):RelX { F with Lh:=Sw s.ep os L0 C T i,fe:=s.n } { L:=[],M:=s.M,n:=s.n+1,ep:=s.ep } a w { X with n:=s.n+1 }:=by
 let Xe:Cx:={ X with n:=s.n+1 }
 have toe:∀ {φ:AV} {v:Value},φ.holds X w v→φ.holds Xe w v:=fun {φ v} hv=>(φ.mono (X:=X) (X':=Xe) (w:=w) (w':=w) ⟨rfl,zg.refl _ _ _,fun _ _=>rfl,by rw[h.rel.n];exact zLO _,rfl⟩ fun _=>Ext.refl _).1 v hv
 have hgo:RelX F { L:=[],M:=s.M,n:=s.n+1,ep:=s.ep } a w Xe :=
  h.rel.go (X':=Xe) h.rel.fit rfl rfl rfl (fun _ _=>zg.refl _ _ _) (fun _ _=>rfl) rfl h.rel.ep (zLO _) (Nat.le_succ_of_le h.rel.epn) h.rel.base (fun hf=>⟨hf,Ext.refl _⟩) (fun _ _ _=>rfl) (fun t e he=>nomatch he) (fun k e he=>.inr ⟨he,rfl,fun _=>zg.refl _ _ _⟩) h.rel.inj h.rel.pos
 refine⟨hgo.P,hgo.A,hgo.Fn,hgo.n,hgo.ep,hgo.ok0,hgo.fit,hgo.base,hgo.l,hgo.m,hgo.ln,hgo.mn,hgo.inj,hgo.pos,hgo.epn,zLP _,fun t φ hp _=>toe ?_,hgo.bl,hgo.ex⟩
 rcases hp.2 with ⟨it,g1,g2,g3,g4,g5⟩|⟨x,g1,g2,g5,g3⟩
 ·rw[←g3,←g4];exact h.c it g1 g2 g5
 ·rw[←g2];exact h.l t x g1 g3 g5
def Gh(E:VE)(F:Frm)(q:Nat→Obj→Prop)(al:Nat)(os:List Oper)(rest:List Nat)(T:Nat→Bool)(a:Act):Prop :=
 (q=F.x.sys∧(al∈rest→T al=false))∨(al∈rest∧T al=true∧(∀k,bit (bitsOf os) al k=true→T k=true)∧∃b Y d i o0 o,os[al]?=some o∧o.op=.alloc Y∧o.dst=some d∧look E.T Y=some i∧a.get d=.pointer (some ⟨b,0,none⟩) ∧
  (∀c o,F.x.sys c o→c≠b∧q c o)∧q b o0∧F.w0.heap.size≤b∧∀w:World,w.heap[b]?=some o0→Own w b i.z.cells Y)
theorem Gh.no{q:Nat→Obj→Prop}(h:Gh E F q al os rest T a)(hT:al∈rest→T al=false):q=F.x.sys:=by
 rcases h with h|⟨h1,h2,_⟩
 ·exact h.1
 ·rw[hT h1]at h2;cases h2
theorem Gh.tail{q:Nat→Obj→Prop}{i:Nat}(h:Gh E F q al os (i::rest) T a)(hi:i≠al):Gh E F q al os rest T a :=
 h.imp (fun h=>⟨h.1,fun hm=>h.2 (zLN _ hm)⟩) fun h=>⟨(zLH.1 h.1).resolve_left (Ne.symm hi),h.2⟩
theorem Gh.step{q:Nat→Obj→Prop}(hnd:ndD os=true)(h:Gh E F q al os rest T a){i:Nat}{o:Oper}(ho:os[i]?=some o)(hi:al∈rest→i≠al)(v:Value):Gh E F q al os rest (vD T i) (a.put o.dst v):=by
 rcases h with ⟨h1,h2⟩|⟨h1,h2,h3,b,Y,d,j,o0,o',h4,h5,h6,h7,h8,h9⟩
 ·refine .inl ⟨h1,fun hm=>?_⟩
  unfold vD;rw[h2 hm,zV,decide_eq_false (Ne.symm (hi hm))];rfl
 ·refine .inr ⟨h1,by simp[vD,h2],fun k hk=>by simp[vD,h3 k hk],b,Y,d,j,o0,o',h4,h5,h6,h7,?_,h9⟩
  rw[jW (fun e=>hi h1 (uA hnd ho h4 e h6))];exact h8
theorem Cz{o:Oper}{Y:TypeId}{i:TI}(hop:o.op=.alloc Y)(hi:look E.T Y=some i){k:S→Comp β}:step E wr s o k=k (s.obj o.dst (.bx true (qy i) Y) (.bx s.n 0)):=by
 obtain⟨d,op,T,pos,aft,g⟩:=o;simp only at hop;subst hop;simp only[step,St,Hc,uZ,hi]
theorem V8(h:T al=true):vD T al=T:=by
 funext j
 unfold vD;by_cases e:j=al
 ·rw[e,h];rfl
 ·rw[zV,decide_eq_false e,Bool.or_false]
theorem JS.adv(hLh:∀t φ,¬F.Lh t φ)(hE:E.ok F.P)(hnd:ndD os=true)(hal:MU E os ch al=true):∀ {rest:List Nat} {C:List It} {s:S} {X:Cx} {q:Nat→Obj→Prop},JS (F.sys q) al os L0 M0 n0 rest C s T a w X→Gh E F q al os rest T a→(J6 E wr (bitsOf os) os ch al kill L0 k rest C s).run nf=some y →
  ∃rest' C' s' X' q',JS (F.sys q') al os L0 M0 n0 rest' C' s' T a w X'∧Gh E F q' al os rest' T a∧(J6 E wr (bitsOf os) os ch al kill L0 k rest' C' s').run nf=some y∧(∀i l,rest'=i::l→gw i ch=true∧T i=false)
 | [],C,s,X,q,h,hg,hr=>⟨[],C,s,X,q,h,hg,hr,fun _ _ e=>nomatch e⟩
 |i::rest,C,s,X,q,h,hg,hr=>by
  cases hc:gw i ch with
  |true =>
   cases hT:T i with
   |false=>exact⟨i::rest,C,s,X,q,h,hg,hr,fun j l e=>by cases e;exact⟨hc,hT⟩⟩
   |true =>
    obtain rfl:al=i:=((h.rs i (by simp)).resolve_left fun e=>by rw[hT]at e;cases e).symm
    rcases hg with hg|⟨_,_,g3,b,Y,d,j,o0,o',g4,g5,g6,g7,g8,g9,g10,g11,g12⟩
    ·rw[hg.2 (by simp)]at hT;cases hT
    simp only[J6]at hr;split at hr
    ·rename_i o hn ho
     rw[g4]at ho;cases ho;have hn':al ∉ rest:=fun hm=>by rw[YT.2 hm]at hn;cases hn
     rw[hc]at hr;simp only at hr;split at hr
     ·rw[Cz g5 g7]at hr
      have hlof:lof (bitsOf os) os C L0 al (tmps o'.op.operands.toList)=[]:=by rw[g5];rfl
      rw[hlof,g6]at hr;obtain⟨X',hX'⟩:=RelX.take (F:={ F with Lh:=Sw s.ep os L0 C T al,fe:=s.n }) (d:=d) (h.MN al) g9 g10 g11 g12 g8 Ev Eu fun φ hp=>hp.1 _ g4 g6
      have hi':=Inv.obj { L:=[],M:=s.M,n:=s.n+1,ep:=s.ep } (some d) (.bx true (qy j) Y) (.bx (s.n+1) 0);have hTT:=V8 hT
      have hbef:∀k,bit (bitsOf os) al k=true→vD T al k=true:=fun k hk=>by rw[hTT];exact g3 k hk
      split at hr
      ·rename_i hst
       rw[zLD]at hst;obtain⟨hmo,hst⟩:=hst;have hmo:=Nat.le_of_ble_eq_true hmo
       simp only at hr;split at hr
       ·rename_i e he
        split at hr
        ·rename_i hb
         have h2:=h.nxt (nw:=[⟨al,d,e.1,e.2,[],[],s.n+1000000000⟩]) hLh hnd hn' g4 hbef hX' hi' hmo hst (fun it hm=>by
          obtain rfl:=List.mem_singleton.1 hm;exact⟨rfl,g6,he,Nat.le_of_ble_eq_true hb⟩) (fun it hm it' hm'=>by rw[List.mem_singleton.1 hm,List.mem_singleton.1 hm']) (.inr ⟨_,List.Mem.head _⟩)
         rw[hTT]at h2;have h3:JS (F.sys F.x.sys) al os L0 M0 n0 rest _ _ T a w X':=h2
         exact JS.adv hLh hE hnd hal h3 (.inl ⟨rfl,fun hm=>absurd hm hn'⟩) hr
        ·cases hr
       ·cases hr
      ·cases hr
     ·cases hr
    ·cases hr
  |false =>
   simp only[J6]at hr;split at hr
   ·rename_i o hn ho
    have hn':i ∉ rest:=fun hm=>by rw[YT.2 hm]at hn;cases hn
    have hia:i≠al:=fun e=>by
     subst e;unfold MU at hal;rw[ho]at hal;simp only[zLD]at hal;rw[hal.1]at hc;cases hc
    rw[hc]at hr;simp only at hr;split at hr
    ·cases hr
    ·rename_i d hd
     split at hr
     ·cases hr
     ·rename_i φ hv
      refine JS.adv hLh hE hnd hal (JS.add (F:=F.sys q) (ch:=ch) (kill:=kill) hE h hn' hia ho hd fun {X w a} hP hO hM hep hL=>?_) (hg.tail hia) hr
      have:=KD (X:=X) (R:=[]) (g:=[]) (wr:=wr) (L:=lof (bitsOf os) os C L0 i (tmps o.op.operands.toList)) (by rw[hP];exact hE) trivial hO hM o (fun t _=>fun e he hf=>hL t e he hf) trivial
      rw[hep,hd,hv]at this;rw[←hP];exact this
     ·rename_i t c mk hv
      obtain⟨x,hx,hr⟩:=run_bind hr;refine JS.adv hLh hE hnd hal (JS.add (F:=F.sys q) (ch:=ch) (kill:=kill) hE h hn' hia ho hd fun {X w a} hP hO hM hep hL=>?_) (hg.tail hia) hr
      have:=KD (X:=X) (R:=[]) (g:=[]) (wr:=wr) (L:=lof (bitsOf os) os C L0 i (tmps o.op.operands.toList)) (by rw[hP];exact hE) trivial hO hM o (fun t _=>fun e he hf=>hL t e he hf) trivial
      rw[hep,hd,hv]at this;rw[←hP];exact this nf x hx
   ·cases hr
theorem JS.early(hLh:∀t φ,¬F.Lh t φ)(hE:E.ok F.P)(hsb:F.x.sb≤F.w0.heap.size)(hok:yK F.N os=true)(hnd:ndD os=true)(hal:MU E os ch al=true)(h:JS F al os L0 M0 n0 rest C s T a w X)(hm:al∈rest)(hT:T al=false){o:Oper}(ho:os[al]?=some o)(hbef:∀k,bit (bitsOf os) al k=true→vD T al k=true) :
  ∀(K:Act→World→Prop) (Q:Exit→Act→World→Prop),(∀v w',(∃q X',JS (F.sys q) al os L0 M0 n0 rest C s (vD T al) (a.put o.dst v) w' X'∧Gh E F q al os rest (vD T al) (a.put o.dst v))→K (a.put o.dst v) w')→o.wp F.P a w K Q:=by
 intro K Q hK;unfold MU at hal;rw[ho]at hal;simp only[zLD]at hal;obtain⟨_,hal⟩:=hal;split at hal
 ·rename_i Y d hop hd
  obtain⟨i,hi⟩:=Option.isSome_iff_exists.1 hal;obtain⟨d',op,T0,pos,aft,g⟩:=o;simp only at hop hd;subst hop hd;refine BL (zLF _) (hE.T Y i hi).ty K Q fun v w' hEx hv=>hK v w' ?_
  obtain⟨b,hb1,hb2,fr,hb3,hb4⟩:=hv;have hg:=h.rel.ghost hLh h.sL hEx hsb (d:=some d) (v:=v) hb1 hb3
  have hdN:=((zW hok ho).2.1 d rfl).1;have hk:KX none X.O w (tag X.O (some b) F.x.st) w':=KX.tag hEx fun g hg=>by cases hg;exact hb1
  have hle:X.le w { X with O:=tag X.O (some b) F.x.st } w':=⟨rfl,hk.keep (by simp),fun _ _=>rfl,zLF _,rfl⟩
  have mono:∀ {φ:AV} {v:Value},φ.holds X w v→φ.holds { X with O:=tag X.O (some b) F.x.st } w' v:=fun {φ v} hv=>(φ.mono hle fun _=>hEx).1 v hv
  refine⟨_,_,⟨hg,h.sL,h.hn,h.l0,h.im,fun it hi' ht hf=>?_,fun t e he ht hf=>?_,fun it hi' ht=>h.rd it hi' (XU ht).1,fun j hj=>?_,h.nc,h.un,fun j o' hj=>?_,h.dst,h.st⟩,.inr ⟨hm,Ya _ _,hbef,b,Y,d,i,_,_,ho,rfl,rfl,hi,?_,fun c o hc=>⟨fun e=>?_,.inl hc⟩,.inr ⟨rfl,rfl⟩,zLK h.rel.base.size hb1,fun w hw=>⟨fr,hw,hb4⟩⟩⟩
  ·have hne:it.i≠al:=fun e=>h.nc it hi' (by rw[e];exact hm)
   obtain⟨o',g1,g2⟩:=h.dst it hi';rw[vp (fun e=>hne (uA hnd g1 ho g2 (by rw[e])))]
   exact mono (h.c it hi' (mh ht hne) hf)
  ·have hne:d≠t:=fun e=>by
    have:=ht al _ ho (by rw[e])
    rw[Ya]at this;cases this
   rw[vp hne];exact mono (h.l t e he (fun j o' hj hd'=>(XU (ht j o' hj hd')).1) hf)
  ·by_cases e:j=al
   ·exact .inr e
   ·refine .inl ?_
    have:=(h.rs j hj).resolve_right e;unfold vD;rw[this,zV,decide_eq_false e];rfl
  ·rcases h.cov j o' hj with h1|⟨h1,h2⟩|h1
   ·exact .inl h1
   ·exact .inr (.inl ⟨h1,by simp[vD,h2]⟩)
   ·exact .inr (.inr h1)
  ·rw[yg h.rel.fit hdN];exact hb2
  ·have:=(Array.getElem?_eq_some_iff.1 (h.rel.ex.sys c o hc).1.1).1
   omega
 ·cases hal
theorem JS.eff(hLh:∀t φ,¬F.Lh t φ)(hE:E.ok F.P)(hok:yK F.N os=true)(hnd:ndD os=true)(hal:MU E os ch al=true){q:Nat→Obj→Prop}{i:Nat}(h:JS (F.sys q) al os L0 M0 n0 (i::rest) C s T a w X)(hgh:Gh E F q al os (i::rest) T a)(hTi:T i=false)(hch:gw i ch=true)(hr:(J6 E wr (bitsOf os) os ch al kill L0 k (i::rest) C s).run nf=some y)
  (haft:∀k,bit (bitsOf os) k i=true→T k=false) (hbef:∀k,bit (bitsOf os) i k=true→vD T i k=true) :
  ∃o,os[i]?=some o∧∀(K:Act→World→Prop) (Q:Exit→Act→World→Prop),(∀v w',(∃rest' C' s' X' q',JS (F.sys q') al os L0 M0 n0 rest' C' s' (vD T i) (a.put o.dst v) w' X'∧Gh E F q' al os rest' (vD T i) (a.put o.dst v)∧(J6 E wr (bitsOf os) os ch al kill L0 k rest' C' s').run nf=some y∧(∀j l,rest'=j::l→gw j ch=true∧vD T i j=false))→K (a.put o.dst v) w')→o.wp F.P a w K Q:=by
 simp only[J6]at hr;split at hr
 ·rename_i o hn ho
  have hn':i ∉ rest:=fun hm=>by rw[YT.2 hm]at hn;cases hn
  rw[hch]at hr;simp only at hr;split at hr
  ·refine⟨o,ho,fun K Q hK=>?_⟩
   have hCi:∀it∈C,it.i≠i:=fun it hm e=>h.nc it hm (by rw[e];simp)
   let Xe:Cx:={ X with n:=s.n+1 }
   have toe:∀ {φ:AV} {v:Value},φ.holds X w v→φ.holds Xe w v:=fun {φ v} hv=>(φ.mono (X:=X) (X':=Xe) (w:=w) (w':=w) ⟨rfl,zg.refl _ _ _,fun _ _=>rfl,by rw[h.rel.n];exact zLO _,rfl⟩ fun _=>Ext.refl _).1 v hv
   have hcase:∀t e,look (lof (bitsOf os) os C L0 i (tmps o.op.operands.toList)) t=some e→(wOf os 0 t=none∧look L0 t=some e)∨(∃j,wOf os 0 t=some j∧bit (bitsOf os) j i=true∧look L0 t=some e)∨(∃jt∈C,jt.i≠i∧wOf os 0 t=some jt.i∧bit (bitsOf os) i jt.i=true∧(jt.n,jt.φ)=e):=fun t e he=>by
    rcases BA (KY he) with g|g|⟨jt,g1,g2⟩
    ·exact .inl g
    ·exact .inr (.inl g)
    ·exact .inr (.inr ⟨jt,g1,hCi jt g1,g2⟩)
   have h0:=h.MN i;have MN:RelX { F.sys q with Lh:=Sw s.ep os L0 C T i,fe:=s.n } { L:=lof (bitsOf os) os C L0 i (tmps o.op.operands.toList),M:=s.M,n:=s.n+1,ep:=s.ep } a w Xe:=by
    refine⟨h0.P,h0.A,h0.Fn,h0.n,h0.ep,h0.ok0,h0.fit,h0.base,fun t e he hf=>toe (h.zGm hnd haft hbef (hcase t e he) (by rw[←h0.ep];exact hf)),h0.m,fun t e he=>?_,h0.mn,h0.inj,h0.pos,h0.epn,h0.fe,h0.lh,h0.bl,h0.ex⟩
    rcases hcase t e he with ⟨_,g⟩|⟨_,_,_,g⟩|⟨jt,g1,_,_,_,g⟩
    ·have:=h.l0 t e g;have:=h.hn;show e.1<s.n+1;omega
    ·have:=h.l0 t e g;have:=h.hn;show e.1<s.n+1;omega
    ·rw[←g];have:=(h.st jt g1).2;show jt.n<s.n+1;omega
   have hgh2:∀v,Gh E F q al os rest (vD T i) (a.put o.dst v):=fun v=>by
    by_cases hia:i=al
    ·subst hia
     exact .inl ⟨hgh.no fun _=>hTi,fun hm=>absurd hm hn'⟩
    ·exact(hgh.tail hia).step hnd ho (fun _=>hia) v
   refine Kp (F:={ F.sys q with Lh:=Sw s.ep os L0 C T i,fe:=s.n }) hE ⟨_,MN⟩ wr o (fun t ht=>⟨((zW hok ho).2.1 t ht).1,fun φ hp=>hp.1 o ho ht⟩) nf y hr K Q fun s' v w' hR' hi' hr'=>hK v w' ?_
   obtain⟨X',hX'⟩:=hR';split at hr'
   ·rename_i hst
    rw[zLD]at hst;obtain⟨hmo,hst⟩:=hst;have hmo:=Nat.le_of_ble_eq_true hmo
    split at hr'
    ·rename_i hd
     obtain⟨rest',C',s2,X2,q',g⟩:=JS.adv hLh hE hnd hal (JS.nxt (F:=F.sys q) (q:=q) (nw:=[]) hLh hnd h hn' ho hbef hX' hi' hmo hst (fun _ hm=>nomatch hm) (fun _ hm=>nomatch hm) (.inl hd)) (hgh2 v) hr'
     exact⟨rest',C',s2,X2,q',g⟩
    ·rename_i d hd
     split at hr'
     ·rename_i e he
      split at hr'
      ·rename_i hb
       obtain⟨rest',C',s2,X2,q',g⟩:=JS.adv hLh hE hnd hal (JS.nxt (F:=F.sys q) (q:=q) (nw:=[⟨i,d,e.1,e.2,[],[],s.n+1000000000⟩]) hLh hnd h hn' ho hbef hX' hi' hmo hst (fun it hm=>by
        obtain rfl:=List.mem_singleton.1 hm;exact⟨rfl,hd,he,Nat.le_of_ble_eq_true hb⟩) (fun it hm it' hm'=>by rw[List.mem_singleton.1 hm,List.mem_singleton.1 hm']) (.inr ⟨_,List.Mem.head _⟩)) (hgh2 v) hr'
       exact⟨rest',C',s2,X2,q',g⟩
      ·cases hr'
     ·cases hr'
   ·cases hr'
  ·cases hr
 ·cases hr
theorem Dk{b:Array Nat}{i:Nat}(hch:gw i ch=true)(hr:(J6 E wr b os ch al kill L0 k (i::rest) C s).run nf=some y):qp b i (rG al rest)=true:=by
 simp only[J6]at hr;split at hr
 ·rw[hch]at hr
  simp only at hr;split at hr
  ·rename_i h;exact h
  ·cases hr
 ·cases hr
theorem CG:∀os:List Oper,AllSt rJ (os.map fun _=>SP.tt)
 | []=>.nil
 |_::os=>.cons (zAg _) (CG os)
end
theorem Vh{F:Frm}(hLh:∀t φ,¬F.Lh t φ){E:VE}(hE:E.ok F.P){s0 s:S}{a:Act}{w:World}(hR:Rel F s a w)(hi:Inv s0 s){os:List Oper}{id nf:Nat}{draw:Bool}{ch can:List Nat}{kl:List (Nat×List Nat)}{β:Type}{y:β}{k:S→Comp β}{Q:Exit→Act→World→Prop}(hm:F.P.follows .mixedOrders=true)(hsb:F.x.sb≤F.w0.heap.size)
  (hok:Xk F.N os=true) (h:(zET E os ch can kl s k).run nf=some y) (hK:∀s' a' w',Rel F s' a' w'→Inv s0 s'→(k s').run nf=some y→Q .normal a' w'):F.wp (Code.region id os.toArray draw) Q a w:=by
 have hokI:=hok;replace hok:=Xt hok;unfold zET at h;split at h
 ·rename_i hb
  simp only[zLD]at hb;obtain⟨hnd,hng,hall,hal⟩:=hb;generalize hale:alX (bitsOf os) os ch ch=al at h hal;obtain⟨X,hX⟩:=hR
  let J:(Nat→Bool)→Act→World→Prop:=fun T a w=>∃rest C s' X' q,JS (F.sys q) al os s.L s.M s.n rest C s' T a w X'∧Gh E F q al os rest T a∧(J6 E (wrS os) (bitsOf os) os ch al (SY s.L s.M (nQ s.L (wrS os++S3 os)) kl) s.L k rest C s').run nf=some y∧(∀i l,rest=i::l→gw i ch=true∧T i=false)
  have obl:∀(os':List Oper) (i:Nat),(∀j,os'[j]?=os[i+j]?)→OblsX J F.P F.N F.D os (os.map fun _=>SP.tt) a i os' (os'.map fun _=>SP.tt):=by
   intro os'
   induction os' with
   |nil=>exact fun _ _=>.nil
   |cons o os' ih =>
    intro i hos;have ho:os[i]?=some o:=by have:=hos 0;simpa using this.symm
    refine .cons (fun T a' w' hfit hJ hTi haft hbef _ _ K Q hcont=>?_) (ih (i+1) fun j=>by have:=hos (j+1);simp only[List.getElem?_cons_succ]at this;rw[this];congr 1;omega)
    obtain⟨rest,C,s',X',q,hJS,hgh,hrun,hbd⟩:=hJ;rcases hJS.cov i o ho with hr|⟨_,h2⟩|⟨it,hm',rfl⟩
    ·match rest,hr,hJS,hgh,hrun,hbd with
     |e::l,hr,hJS,hgh,hrun,hbd =>
      obtain⟨hch,hTe⟩:=hbd e l rfl;rcases zLH.1 hr with rfl|hr'
      ·obtain⟨o',g1,g2⟩:=hJS.eff hLh hE hok hnd hal hgh hTe hch hrun haft hbef
       rw[ho]at g1;cases g1;exact g2 K Q fun v w' hJ'=>hcont v w' hJ' trivial
      ·by_cases hia:i=al
       ·subst hia
        obtain rfl:=hgh.no fun _=>hTi
        refine JS.early hLh hE hsb hok hnd hal hJS hr hTi ho hbef K Q fun v w' hJ'=>hcont v w' ?_ trivial
        obtain⟨q,X2,g1,g2⟩:=hJ';refine⟨_,C,s',X2,q,g1,g2,hrun,fun j l' he=>?_⟩
        cases he
        refine⟨hch,?_⟩;have hne:e≠i:=fun e'=>by
         subst e';simp only[J6]at hrun;split at hrun
         ·rename_i hn _
          rw[YT.2 hr']at hn;cases hn
         ·cases hrun
        unfold vD;rw[hTe,zV,decide_eq_false hne];rfl
       ·have g1:=pJ (Dk hch hrun) i (qY hr' hia)
        have g2:=hbef e g1;have g4:e=i:=by
         unfold vD at g2;rw[hTe,Bool.false_or]at g2;exact zLC g2
        subst g4;obtain⟨o',g1,g2⟩:=hJS.eff hLh hE hok hnd hal hgh hTe hch hrun haft hbef;rw[ho]at g1;cases g1;exact g2 K Q fun v w' hJ'=>hcont v w' hJ' trivial
    ·rw[hTi]at h2;cases h2
    ·obtain⟨o',g1,g2⟩:=JS.val (F:=F.sys q) hLh hok hnd hJS hm' hTi haft hbef
     rw[ho]at g1;cases g1;refine g2 K Q fun v w' hEx hJ'=>hcont v w' ⟨rest,C,s',X',q,hJ' hEx,hgh.step hnd ho (fun hm2 e=>hJS.nc it hm' (by rw[e];exact hm2)) v,hrun,fun j l he=>⟨(hbd j l he).1,?_⟩⟩ trivial
     have hne:j≠it.i:=fun e=>hJS.nc it hm' (by rw[←e,he];simp)
     unfold vD;rw[(hbd j l he).2,zV,decide_eq_false hne];rfl
  refine Jn (fun _=>hm) (zAp Kb (fun i o ho=>BM hokI i o (by simpa using ho)) ?_)
  refine NJ J (os.map fun _=>SP.tt) hX.fit (CG os) (obl os 0 fun j=>by simp) (fun i o S a' w' ho hact=>?_) (fun w1 hEx=>?_) hok ?_ fun a' w' hfit _ hJ=>?_
  ·rw[Kn ho (Ee hng o (zLI ho))]at hact;cases hact
  ·have hX0:RelX F { s with L:=[] } a w1 X:=hX.go hX.fit rfl rfl rfl (fun _ _=>zg.ext hEx) (fun _ _=>rfl) hX.n hX.ep (zLF _) hX.epn (hX.base.step hEx hX.ok0) (fun hf=>⟨hf,hEx⟩) (fun _ _ _=>rfl) (fun t e he=>nomatch he) (fun k e he=>.inr ⟨he,rfl,fun _=>zg.ext hEx⟩) hX.inj hX.pos
   have h0:JS (F.sys F.x.sys) al os s.L s.M s.n can [] { s with L:=[] } (fun _=>false) a w1 X:=by
    refine⟨hX0,rfl,zLF _,hX.ln,fun k e he _=>he,fun it hm=>(nomatch hm),fun t e he _ hf=>?_,fun it hm=>(nomatch hm),fun _ _=>.inl rfl,fun it hm=>(nomatch hm),fun it hm=>(nomatch hm),fun i o ho=>.inl (CH hall i (zLJ.1 ho).1),fun it hm=>(nomatch hm),fun it hm=>(nomatch hm)⟩
    exact e.2.ext hEx (hX.l t e he (by rw[hX.ep];exact hf))
   exact JS.adv hLh hE hnd hal h0 (.inl ⟨rfl,fun _=>rfl⟩) h
  ·unfold ZK
   rw[List.all_eq_true];intro o ho;rw[Ee hng o ho]
  ·obtain⟨rest,C,s',X',q,hJS,hgh,hrun,hbd⟩:=hJ
   cases rest with
   |cons i l =>
    exfalso;have g1:Nat.blt i os.length=false:=(hbd i l rfl).2
    rw[za]at g1;have g2:os.length≤i:=by simpa using g1
    simp only[J6]at hrun;split at hrun
    ·rename_i o _ ho
     have:=(zLJ.1 ho).1;omega
    ·cases hrun
   |nil =>
    obtain rfl:=hgh.no fun hm=>nomatch hm
    have hlt:∀it∈C,Nat.blt it.i os.length=true:=fun it hm=>by
     obtain⟨o,g1,_⟩:=hJS.dst it hm;rw[za];exact decide_eq_true (zLJ.1 g1).1
    have hcl:∀t e,look (HR C++s.L) t=some e→(∃it∈C,it.d=t∧(it.n,it.φ)=e)∨(look s.L t=some e∧∀(j:Nat) (o:Oper),os[j]?=some o→o.dst≠some t):=fun t e he=>by
     rcases Z1 he with g|⟨g1,g2⟩
     ·exact .inl (pC g)
     ·refine .inr ⟨g2,fun j o hj hd=>?_⟩
      rcases hJS.cov j o hj with g|⟨g,_⟩|⟨it,g3,g4⟩
      ·cases g
      ·rw[hd]at g;cases g
      ·obtain⟨o',g5,g6⟩:=hJS.dst it g3
       rw[g4,hj]at g5;cases g5;rw[hd]at g6;cases g6;exact pA g1 it g3 rfl
    let X1:Cx:={ X' with n:=s'.n+1 }
    have to1:∀ {φ:AV} {v:Value},φ.holds X' w' v→φ.holds X1 w' v:=fun {φ v} hv=>(φ.mono (X:=X') (X':=X1) (w:=w') (w':=w') ⟨rfl,zg.refl _ _ _,fun _ _=>rfl,by rw[hJS.rel.n];exact zLO _,rfl⟩ fun _=>Ext.refl _).1 v hv
    refine hK _ a' w' ⟨X1,hJS.rel.go (X':=X1) (s':={ s' with L:=HR C++s.L,n:=s'.n+1 }) hJS.rel.fit rfl rfl rfl (fun _ _=>zg.refl _ _ _) (fun _ _=>rfl) rfl hJS.rel.ep (zLO _) (Nat.le_succ_of_le hJS.rel.epn) hJS.rel.base (fun hf=>⟨hf,Ext.refl _⟩) (fun _ _ _=>rfl) (fun t e he=>.inl ?_) (fun k e he=>.inr ⟨he,rfl,fun _=>zg.refl _ _ _⟩) hJS.rel.inj hJS.rel.pos⟩ (hi.trans ⟨?_,fun t e he hlt'=>?_,hJS.im⟩) hrun
    ·rcases hcl t e he with ⟨it,g1,g2,g3⟩|⟨g1,g2⟩
     ·subst g3
      refine⟨Nat.lt_succ_of_le (hJS.st it g1).2,fun hf=>?_⟩
      rw[←g2];exact to1 (hJS.c it g1 (hlt it g1) hf)
     ·refine⟨?_,fun hf=>to1 (hJS.l t e g1 (fun j o hj hd=>absurd hd (g2 j o hj)) hf)⟩
      have:=hJS.l0 t e g1;have:=hJS.hn;show e.1<s'.n+1;omega
    ·exact Nat.le_succ_of_le hJS.hn
    ·rcases hcl t e he with ⟨it,g1,g2,g3⟩|⟨g1,g2⟩
     ·rw[←g3]at hlt'
      have:=(hJS.st it g1).1
      change it.n<s.n at hlt'
      omega
     ·exact g1
 ·cases h
def exG:AV→Option (Option Bool)
 |.ex (.bool b)=>some (some b)
 |.ex (.tuple vs)=>match vs.toList with
  | []=>some none
  |_=>none
 |_=>none
theorem Bl{φ:AV}{b:Bool}(h:exG φ=some (some b)):φ=.ex (.bool b):=by
 unfold exG at h;split at h
 ·cases h;rfl
 ·split at h<;>cases h
 ·cases h
theorem Bm{φ:AV}(h:exG φ=some none):φ=.ex undef:=by
 unfold exG at h;split at h
 ·cases h
 ·rename_i vs
  split at h
  ·rename_i e
   have:vs=#[]:=Array.ext' (by simpa using e)
   rw[this];rfl
  ·cases h
 ·cases h
def nV(all:List Oper)(i:Nat):Option Tmp:=match all[i]? with
 |some o=>o.dst
 |none=>none
def nH(b:Option Bool)(w:Bool):Bool:=match b,w with
 |some true,true=>true
 |some false,false=>true
 |_,_=>false
def Z0(E:VE)(wr:List Nat)(all:List Oper)(k:S→Comp β):List Oper→S→Comp β
 | [],s=>k s
 |o::os,s=>match o.guard with
  |none=>step E wr s o (Z0 E wr all k os)
  |some g=>match nV all g.1 with
   |none=>Comp.fail
   |some t=>match rdO s.ep s.L [] [] (.tmp t) with
    |none=>Comp.fail
    |some φ=>match exG φ with
     |some b=>match nH b g.2 with
      |true=>step E wr s o (Z0 E wr all k os)
      |false=>Z0 E wr all k os (s.put o.dst (.ex undef))
     |none=>match φ.bool? with
      |none=>Comp.fail
      |some b=>if gB b g.2=true then step E wr (s.put (some t) (.ex (.bool g.2))) o (Z0 E wr all k os) else Z0 E wr all k os ((s.put (some t) (.ex (.bool (ntB g.2)))).put o.dst (.ex undef))
section
variable {F:Frm} {E:VE} {k:S→Comp β}
theorem Rel.Xx{s:S}{a:Act}{w:World}{X:Cx}(h:RelX F s a w X){t:Nat}{φ:AV}(hφ:∀X':Cx,X'.P=X.P→φ.holds X' w (a.get t)):Rel F (s.put (some t) φ) a w:=by
 refine⟨{ X with n:=s.n+1 },h.go h.fit rfl rfl rfl (fun _ _=>zg.refl _ _ _) (fun _ _=>rfl) rfl h.ep (zLO _) (Nat.le_succ_of_le h.epn) h.base (fun hf=>⟨hf,Ext.refl _⟩) (fun _ _ _=>rfl) (fun u e he=>?_) (fun k e he=>.inr ⟨he,rfl,fun _=>zg.refl _ _ _⟩) h.inj h.pos⟩
 rcases zD he with ⟨h1,h2⟩|⟨h1,h2⟩
 ·subst h1 h2;exact .inl ⟨zLP _,fun _=>hφ _ rfl⟩
 ·exact .inr ⟨h2,rfl,fun hfr hf=>⟨hf,Ext.refl _⟩⟩
theorem Rel.skip{s:S}{a:Act}{w:World}(h:Rel F s a w){d:Option Tmp}(hd:F.dst d):Rel F (s.put d (.ex undef)) (a.put d undef) w:=by
 obtain⟨X,hX⟩:=h;exact⟨_,hX.val (Ext.refl w) hd (show (AV.ex undef).holds X w undef from rfl)⟩
theorem YG{all:List Oper}{a:Act}{g t:Nat}(hd:nV all g=some t){b:Bool}(h:a.get t=.bool b):yielded all.toArray a.tmps g=some b:=by
 unfold nV at hd;split at hd
 ·rename_i o ho
  have h1:all.toArray[g]?=some o:=by simpa using ho
  unfold yielded;simp only[h1,zLB,hd];have h2:a.tmps.getD t undef=.bool b:=h
  rw[Array.getD_eq_getD_getElem?]at h2
  cases h3:a.tmps[t]? with
  |none=>rw[h3]at h2;simp[undef]at h2
  |some v=>rw[h3]at h2;simp only[Option.getD_some]at h2;subst h2;rfl
 ·cases hd
theorem Js{all:List Oper}{a:Act}{g t:Nat}(hd:nV all g=some t)(h:a.get t=undef):yielded all.toArray a.tmps g=none:=by
 unfold nV at hd;split at hd
 ·rename_i o ho
  have h1:all.toArray[g]?=some o:=by simpa using ho
  unfold yielded;simp only[h1,zLB,hd];have h2:a.tmps.getD t undef=undef:=h
  rw[Array.getD_eq_getD_getElem?]at h2
  cases h3:a.tmps[t]? with
  |none=>rfl
  |some v=>rw[h3]at h2;simp only[Option.getD_some]at h2;subst h2;rfl
 ·cases hd
theorem RP{b w:Bool}:gB b w=true↔b=w:=by cases b<;>cases w<;>decide
theorem RD{b w:Bool}(h:¬gB b w=true):b=ntB w:=by cases b<;>cases w<;>first|rfl|exact absurd rfl h
theorem XR(hE:E.ok F.P)(wr:List Nat){all:List Oper}{nf:Nat}{y:β}{Q:Exit→Act→World→Prop}{q:Act→World→Prop}{s0:S}:∀ {os:List Oper} {s:S} {a:Act} {w:World},Rel F s a w→Inv s0 s→(Z0 E wr all k os s).run nf=some y→(∀o∈os,(∀c,o.op≠.defer c)∧F.dst o.dst) →
  (∀s' a' w',Rel F s' a' w'→Inv s0 s'→(k s').run nf=some y→q a' w')→vy (F.W Q) all.toArray q os a w
 | [],s,a,w,h,hi,hr,_,hK=>hK s a w h hi hr
 |o::os,s,a,w,h,hi,hr,ho,hK=>by
  have h1:=ho o (by simp)
  have ho':∀o∈os,(∀c,o.op≠.defer c)∧F.dst o.dst:=fun o' ho'=>ho o' (by simp[ho'])
  have act:∀ {s:S},Rel F s a w→Inv s0 s→(step E wr s o (Z0 E wr all k os)).run nf=some y→Region.wanted o (yielded all.toArray a.tmps)=true→vy (F.W Q) all.toArray q (o::os) a w:=fun {s} h hi hr hw=>by
   simp only[vy,hw,if_true];refine j4 h1.1 (Kp (k:=Z0 E wr all k os) hE h wr o h1.2 nf y hr _ _ fun s' v w' hR hi' hr'=>?_)
   exact XR hE wr hR (hi.trans hi') hr' ho' hK
  have off:∀ {s:S},Rel F s a w→Inv s0 s→(Z0 E wr all k os (s.put o.dst (.ex undef))).run nf=some y→Region.wanted o (yielded all.toArray a.tmps)=false→vy (F.W Q) all.toArray q (o::os) a w:=fun {s} h hi hr hw=>by
   simp only[vy,hw,Bool.false_eq_true,if_false];exact XR hE wr (h.skip h1.2) (hi.trans (Inv.put _ _ _)) hr ho' hK
  simp only[Z0]at hr;split at hr
  ·rename_i hg
   exact act h hi hr (by simp[Region.wanted,hg])
  ·rename_i g hg
   have hwant:Region.wanted o (yielded all.toArray a.tmps)=(yielded all.toArray a.tmps g.1 == some g.2):=by simp[Region.wanted,hg]
   split at hr
   ·cases hr
   ·rename_i t ht
    split at hr
    ·cases hr
    ·rename_i φ hφ
     obtain⟨X,hX⟩:=h;rw[←hX.ep]at hφ;have hv:φ.holds X w (a.get t):=hX.rd #[.tmp t] (.tmp t) φ (by simp) hφ
     split at hr
     ·rename_i b hb
      have hy:yielded all.toArray a.tmps g.1=b:=by
       cases b with
       |none=>rw[Bm hb]at hv;exact Js ht hv
       |some b=>rw[Bl hb]at hv;exact YG ht hv
      rw[hy]at hwant;split at hr
      ·rename_i hw
       refine act ⟨X,hX⟩ hi hr ?_;rw[hwant];unfold nH at hw;split at hw<;>first|simp_all|cases hw
      ·rename_i hw
       refine off ⟨X,hX⟩ hi hr ?_;rw[hwant]
       cases b with
       |none=>rfl
       |some b =>
        generalize g.2=v at hw;cases b<;>cases v<;>first|rfl|(simp[nH]at hw)
     ·split at hr
      ·cases hr
      ·rename_i b hb
       have hab:a.get t=.bool b:=by rw[AV.Yj hb]at hv;exact km.1 hv
       have hy:=YG ht hab;rw[hy]at hwant;split at hr
       ·rename_i hgb
        have e:=RP.1 hgb;refine act (Rel.Xx hX (φ:=.ex (.bool g.2)) fun X' _=>(by rw[hab,e];exact rfl)) (hi.trans (Inv.put _ _ _)) hr ?_
        rw[hwant,e];simp
       ·rename_i hgb
        have e:=RD hgb;refine off (Rel.Xx hX (φ:=.ex (.bool (ntB g.2))) fun X' _=>(by rw[hab,e];exact rfl)) (hi.trans (Inv.put _ _ _)) hr ?_
        rw[hwant,e];cases g.2<;>rfl
theorem Vj(hLh:∀t φ,¬F.Lh t φ)(hE:E.ok F.P){s0 s:S}{a:Act}{w:World}(hR:Rel F s a w)(hi:Inv s0 s){os:List Oper}{id nf:Nat}{y:β}{Q:Exit→Act→World→Prop}
  (hok:Xk F.N os=true) (h:(Z0 E (wrS os) os k os s).run nf=some y) (hK:∀s' a' w',Rel F s' a' w'→Inv s0 s'→(k s').run nf=some y→Q .normal a' w'):F.wp (Code.region id os.toArray false) Q a w:=by
 have key:vy (F.W Q) os.toArray (Q .normal) os a w:=XR hE (wrS os) hR hi h (fun o ho=>⟨Kt hok o ho,fun t ht=>?_⟩) hK
 ·refine Jn (fun h=>nomatch h) ?_
  show Y7 (F.W Q) os.toArray (Q .normal) (List.range os.toArray.size) a w
  rw[List.range_eq_range',List.size_toArray,kQ os 0 (by simp)];exact key
 obtain⟨j,hj⟩:=List.mem_iff_getElem?.1 ho;exact⟨((zW (Xt hok) hj).2.1 t ht).1,fun φ=>hLh t φ⟩
end
end Go.Den
end
section
namespace Go.Den
open Go Go.RowKit Go.Eng Go.Lift
variable {α β γ δ σ ε:Type}
def wA(body:σ→α→Comp (Comp.Step σ ε)):List α→σ→Comp (Comp.Step σ ε)
 | [],s=>Comp.pure (.next s)
 |x::xs,s=>(body s x).bind fun r=>match r with
  |.next s'=>wA body xs s'
  |.done e=>Comp.pure (.done e)
def S.tick(s:S):S:={ s with n:=s.n+1,ep:=s.n }
def Jf(n:Nat):LS→LS
 | []=>[]
 |e::L=>(match e.2.2.zm with
  |true=>(e.1,n,.top)
  |false=>e)::Jf n L
def S.ZU(s:S):S:={ s with L:=Jf s.n s.L,n:=s.n+1 }
def S.back(s:S)(L:LS):S:={ s with L:=L }
theorem Inv.tick(s:S):Inv s s.tick:=⟨zLO _,fun _ _ h _=>h,fun _ _ h _=>h⟩
theorem gh{n:Nat}:∀ {L:LS} {t:Nat} {e:Nat×AV},look (Jf n L) t=some e→e.2.zm=false∧(look L t=some e∨e=(n,.top))
 | [],t,e,h=>by cases h
 |f::L,t,e,h=>by
  obtain⟨t0,n0,φ⟩:=f;simp only[Jf]at h
  cases hf:φ.zm with
  |true =>
   rw[hf]at h;rcases zD h with ⟨h1,h2⟩|⟨h1,h2⟩
   ·exact⟨by rw[←h2];rfl,.inr h2.symm⟩
   ·obtain⟨g1,g2⟩:=gh h2
    exact⟨g1,g2.imp (fun g=>by simp only[look];rw[show Nat.beq t0 t=false by rw[zV];simpa using h1];exact g) id⟩
  |false =>
   rw[hf]at h;rcases zD h with ⟨h1,h2⟩|⟨h1,h2⟩
   ·refine⟨by rw[←h2];exact hf,.inl ?_⟩
    simp only[look];rw[show Nat.beq t0 t=true by rw[zV];simpa using h1];exact congrArg some h2
   ·obtain⟨g1,g2⟩:=gh h2
    exact⟨g1,g2.imp (fun g=>by simp only[look];rw[show Nat.beq t0 t=false by rw[zV];simpa using h1];exact g) id⟩
theorem Inv.ZU(s:S):Inv s s.ZU:=⟨zLO _,fun t e h hl=>by
 rcases(gh h).2 with h1|h1
 ·exact h1
 ·rw[h1]at hl;exact absurd hl (Nat.lt_irrefl _),fun _ _ h _=>h⟩
section
variable {F:Frm} {s:S} {a:Act} {w w':World} {X:Cx}
theorem RelX.conv(h:RelX F s a w X){F':Frm}{L':LS}{a':Act}(hP:F'.P=F.P)(hA:F'.A=F.A)(hO:F'.O0=F.O0)(hw:F'.w0=F.w0)(hLh:∀t φ,¬F'.Lh t φ)(hfe:F'.fe=F.fe)(hbl:F'.bl=F.bl)(hst:F'.x.st=F.x.st)
  (hfit:a'.fitD F'.N F'.D) (hL:Xq L' X w a') (hln:∀t e,look L' t=some e→e.1<s.n) (hex:Exx F'.x X w):RelX F' { s with L:=L' } a' w X :=
 ⟨h.P.trans hP.symm,h.A.trans hA.symm,by rw[hw];exact h.Fn,h.n,h.ep,by rw[hO,hw];exact h.ok0,hfit,by rw[hA,hO,hw];exact h.base,hL,h.m,hln,h.mn,h.inj,by rw[hst];exact h.pos,h.epn,by rw[hfe];exact h.fe,fun t φ hp=>absurd hp (hLh t φ),by rw[hbl];exact h.bl,hex⟩
theorem RelX.ZU(h:RelX F s a w X)(hLh:∀t φ,¬F.Lh t φ):RelX F s.ZU a w { X with n:=s.n+1 }:=by
 have hle:X.le w { X with n:=s.n+1 } w:=⟨rfl,zg.refl _ _ _,fun _ _=>rfl,by rw[h.n];exact zLO _,rfl⟩
 refine h.go h.fit rfl rfl rfl (fun _ _=>zg.refl _ _ _) (fun _ _=>rfl) rfl h.ep (zLO _) (Nat.le_succ_of_le h.epn) h.base (fun hf=>⟨hf,Ext.refl _⟩) (fun _ _ _=>rfl) (fun t e he=>?_) (fun k e he=>.inr ⟨he,rfl,fun _=>zg.refl _ _ _⟩) h.inj h.pos
 rcases gh he with ⟨h1,h2|h2⟩
 ·exact .inr ⟨h2,rfl,fun hf=>by rw[h1]at hf;cases hf⟩
 ·subst h2;exact .inl ⟨zLP _,fun _=>trivial⟩
theorem RelX.Qg(h:RelX F s a w X)(hsb:F.x.sb=F.w0.heap.size)(o0:Obj):RelX (F.sys fun c o=>F.x.sys c o∨(c=w.heap.size∧o=o0)) s a (w.alloc o0) { X with O:=tag X.O (some w.heap.size) F.x.st }:=by
 have hE:=Ext.alloc w o0;have hk:KX none X.O w (tag X.O (some w.heap.size) F.x.st) (w.alloc o0):=KX.tag hE fun g hg=>by cases hg;exact zLF _
 have hB:Base F.A F.O0 F.w0 (tag X.O (some w.heap.size) F.x.st) (w.alloc o0):=(h.base.step hE h.ok0).tag h.ex.st (fun g hg=>by cases hg;exact⟨h.base.new _ h.base.size,by simp⟩)
 have h1:RelX F s a (w.alloc o0) { X with O:=tag X.O (some w.heap.size) F.x.st }:=h.go h.fit rfl rfl rfl (fun _ _=>hk.keep (by simp)) (fun _ _=>rfl) h.n h.ep (zLF _) h.epn hB (fun hf=>⟨hf,hE⟩) (fun _ _ _=>rfl) (fun t e he=>.inr ⟨he,rfl,fun _ hf=>⟨hf,hE⟩⟩) (fun k e he=>.inr ⟨he,rfl,fun _=>hk.keep (by simp)⟩) h.inj h.pos
 refine⟨h1.P,h1.A,h1.Fn,h1.n,h1.ep,h1.ok0,h1.fit,h1.base,h1.l,h1.m,h1.ln,h1.mn,h1.inj,h1.pos,h1.epn,h1.fe,h1.lh,h1.bl,h1.ex.st,fun c o hc=>?_,h1.ex.kv,h1.ex.since,h1.ex.L⟩
 rcases hc with hc|⟨rfl,rfl⟩
 ·exact h1.ex.sys c o hc
 ·exact⟨⟨World.alloc_heap_new w _,yj _ _ _⟩,show F.x.sb≤w.heap.size by rw[hsb];exact h.base.size⟩
theorem RelX.ext(h:RelX F s a w X)(hE:Ext w w'):RelX F s a w' X :=
 h.go h.fit rfl rfl rfl (fun _ _=>zg.ext hE) (fun _ _=>rfl) h.n h.ep (zLF _) h.epn (h.base.step hE h.ok0) (fun hf=>⟨hf,hE⟩) (fun _ _ _=>rfl) (fun t e he=>.inr ⟨he,rfl,fun _ hf=>⟨hf,hE⟩⟩) (fun k e he=>.inr ⟨he,rfl,fun _=>zg.ext hE⟩) h.inj h.pos
end
theorem Frm.To.sys{F F':Frm}(h:F.To F'){b:Nat}{o:Obj}(hs:F.x.sys b o):F'.x.sys b o:=by
 induction h with
 |refl=>exact hs
 |mark _ _ _ _ ih=>exact .inl ih
theorem Frm.Same.Mm{A B C:Frm}{q:Nat→Obj→Prop}(h1:A.Same B)(h2:(B.sys q).Same C):A.Same C :=
 ⟨h2.P.trans h1.P,h2.N.trans h1.N,h2.A.trans h1.A,h2.O0.trans h1.O0,h2.w0.trans h1.w0,h2.Lh.trans h1.Lh,h2.fe.trans h1.fe,h2.bl.trans h1.bl,h2.st.trans h1.st,h2.kv.trans h1.kv,h2.sO.trans h1.sO,h2.sw.trans h1.sw,h2.rd.trans h1.rd,h2.Lp.trans h1.Lp,h2.sb.trans h1.sb,h2.nr.trans h1.nr⟩
def zAV{β:Type}(a:Ty)(x:a.D)(k:AV→Comp β):Comp β:=match a,x with
 |.slo e,x=>match (x:Option (List e.D)) with
  |none=>k (.ex (.slice none 0 0))
  |some xs=>k (.rd (.sl e) xs)
 |a,x=>k (.rd a x)
def Cp{β:Type}:List Nat→(t:Ty)→t.D→S→(S→Comp β)→Comp β
 |p::ps,.cons a b,x,s,k=>zAV a x.1 fun φ=>Cp ps b x.2 (s.put (some p) φ) k
 | [],.nil,_,s,k=>k s
 |_,_,_,_,_=>Comp.fail
theorem QR{β:Type}{X:Cx}{w:World}{v:Value}{a:Ty}{x:a.D}(h:(a.gr X.P).v X.O w v x){k:AV→Comp β}{nf:Nat}{y:β}(hr:(zAV a x k).run nf=some y):∃φ,(k φ).run nf=some y∧∀X':Cx,X'.P=X.P→X'.O=X.O→φ.holds X' w v:=by
 have gen:∀ {a:Ty} {x:a.D},(a.gr X.P).v X.O w v x→(k (.rd a x)).run nf=some y→∃φ,(k φ).run nf=some y∧∀X':Cx,X'.P=X.P→X'.O=X.O→φ.holds X' w v:=fun {a x} h hr=>⟨_,hr,fun X' e1 e2=>by show (a.gr X'.P).v X'.O w v x;rw[e1,e2];exact h⟩
 cases a<;>try exact gen h hr
 rename_i e
 cases x with
 |none =>
  refine⟨_,hr,fun X' _ _=>?_⟩
  obtain⟨cs,h1,h2⟩:=h;rw[show cs=_ from h1]at h2
  exact h2
 |some xs =>
  refine⟨_,hr,fun X' e1 e2=>?_⟩
  obtain⟨cs,h1,h2⟩:=h;show ((Ty.sl e).gr X'.P).v X'.O w v xs
  rw[e1,e2];exact⟨cs,h1,h2⟩
def Ys:List Nat→List Value→Act→Act
 |p::ps,v::vs,a=>Ys ps vs (a.put (some p) v)
 |_,_,a=>a
theorem GO:∀(ps:List Nat) (vs:List Value) (a:Act),Ys ps vs a={ tmps:=(ps.zip vs).foldl (fun t p=>t.setIfInBounds p.1 p.2) a.tmps,defers:=a.defers }
 | [],_,_=>rfl
 |_::_,[],_=>rfl
 |p::ps,v::vs,a=>by rw[Ys,GO ps vs];rfl
def WM(N:Nat):List Nat→Bool
 | []=>true
 |p::ps=>Nat.blt p N && WM N ps
theorem QS{β:Type}{F:Frm}(hLh:∀t φ,¬F.Lh t φ){w:World}{k:S→Comp β}{nf:Nat}{y:β}:∀ {ps:List Nat} {t:Ty} {x:t.D} {vs:List Value} {s:S} {a:Act} {X:Cx},RelX F s a w X→t.args X.P X.O w vs x→WM F.N ps=true→(Cp ps t x s k).run nf=some y →
  ∃s2 X2,RelX F s2 (Ys ps vs a) w X2∧X2.O=X.O∧Inv s s2∧(k s2).run nf=some y∧ps.length=vs.length:=by
 intro ps
 induction ps with
 |nil =>
  intro t x vs s a X h ha _ hr;cases t<;>first|(rw[show vs=[] from ha];exact⟨s,X,h,rfl,Inv.refl s,hr,rfl⟩)|cases hr
 |cons p ps ih =>
  intro t x vs s a X h ha hps hr;cases t<;>first|cases hr|skip
  rename_i p1 q1;obtain⟨v,vs',rfl,h1,h2⟩:=ha;simp only[Cp]at hr;simp only[WM,zLD]at hps;obtain⟨φ,hr,hφ⟩:=QR h1 hr;have h3:=h.val (Ext.refl w) (d:=some p) (fun t e=>by cases e;exact⟨by have:=hps.1;rw[za]at this;simpa using this,fun φ=>hLh _ φ⟩) (hφ X rfl rfl)
  obtain⟨s2,X2,g1,g2,g3,g4,g5⟩:=ih h3 (X:={ X with n:=s.n+1 }) h2 hps.2 hr;exact⟨s2,X2,g1,g2,(Inv.put _ _ _).trans g3,g4,by simp[g5]⟩
def zDy:Option AV→Option ((t:Ty)×Comp (List t.D))
 |some (.rd (.seq t) C)=>some ⟨t,C⟩
 |_=>none
theorem Ug{o:Option AV}{q:(t:Ty)×Comp (List t.D)}(h:zDy o=some q):o=some (.rd (.seq q.1) q.2):=by
 unfold zDy at h;split at h
 ·cases h;rfl
 ·cases h
def kz:Code→Bool
 |.seq a b=>kz a && kz b
 |.cond _ a b=>kz a && kz b
 |.block _ a|.loop a|.scope a=>kz a
 |.rangeFunc ..=>false
 |_=>true
end Go.Den
end
section
namespace Go.Den
open Go Go.RowKit Go.Eng Go.Lift
variable {α β γ δ:Type}
def nT:AV→Option (List Nat)
 |.un=>some []
 |.pr (.bx k 0) b=>match nT b with
  |some l=>some (k::l)
  |none=>none
 |_=>none
def qx:List Nat→AV
 | []=>.un
 |k::l=>.pr (.bx k 0) (qx l)
theorem qT:∀ {φ:AV} {l:List Nat},nT φ=some l→φ=qx l:=by
 intro φ
 induction φ with
 |un=>intro l h;cases h;rfl
 |pr a b iha ihb =>
  intro l h;unfold nT at h;split at h
  ·rename_i h1;cases h1
  ·rename_i k b' h1
   injection h1 with h1 h2
   subst h1 h2;split at h
   ·rename_i l' hl;cases h;rw[ihb hl];rfl
   ·cases h
  ·cases h
 |_=>intro l h;cases h
theorem lZ{X:Cx}{w:World}:∀ {l:List Nat} {us:List Value},((qx l).sem X w).l us→us=l.map X.U∧∀k∈l,k<X.n∧∃b,X.U k=.pointer (some ⟨b,0,none⟩)
 | [],us,h=>⟨h,by simp⟩
 |k::l,us,h=>by
  obtain⟨v,vs,h1,h2,h3⟩:=h;obtain⟨h4,b,h5,h6⟩:=h2;obtain⟨h7,h8⟩:=lZ h3;refine⟨by rw[h1,h7,h6,←h5];rfl,fun j hj=>?_⟩
  rcases zLH.1 hj with rfl|hj
  ·exact⟨h4,b,h5⟩
  ·exact h8 j hj
theorem qa{X:Cx}{w:World}:∀ {l:List Nat},(∀k∈l,k<X.n∧∃b,X.U k=.pointer (some ⟨b,0,none⟩))→((qx l).sem X w).l (l.map X.U)
 | [],_=>rfl
 |k::l,h=>by
  obtain⟨h1,b,h2⟩:=h k (by simp)
  exact⟨_,_,rfl,⟨h1,b,h2,h2⟩,qa fun j hj=>h j (by simp[hj])⟩
theorem tv:∀l:List Nat,(qx l).zm=false
 | []=>rfl
 |k::l=>by show (false || (qx l).zm)=false;rw[tv l];rfl
def Wc:List Nat→List Nat→Bool
 | [],[]=>true
 |a::l,b::m=>Nat.beq a b && Wc l m
 |_,_=>false
theorem Gw:∀ {l m:List Nat},Wc l m=true→l=m
 | [],[],_=>rfl
 |a::l,b::m,h=>by
  simp only[Wc,zLD]at h;rw[zLC h.1,Gw h.2]
 | [],_::_,h=>nomatch h
 |_::_,[],h=>nomatch h
def WX:AV→Bool
 |.un=>true
 |_=>false
theorem mQ{φ:AV}(h:WX φ=true):φ=.un:=by cases φ<;>first|rfl|cases h
def SK(f:FuncId)(all:List Nat):AV→Bool
 |.cl g a b=>Nat.beq f g && (WX a && match nT b with
  |some l=>Wc l all
  |none=>false)
 |_=>false
theorem Ar{f:FuncId}{all:List Nat}{c:AV}(h:SK f all c=true):c=.cl f .un (qx all):=by
 unfold SK at h;split at h
 ·simp only[zLD]at h
  obtain⟨h1,h2,h3⟩:=h;split at h3
  ·rename_i l hl
   rw[zLC h1,mQ h2,qT hl,Gw h3]
  ·cases h3
 ·cases h
def gL(G:FE)(f:FuncId)(all:List Nat)(M:MS):(l:List CQ)→List Nat→Option (CR l×CB l×List (Option Nat))
 | [],ks=>match ks with
  | []=>some ((),(),[])
  |_=>none
 |.r t T::l,ks=>match ks with
  | []=>none
  |k::ks=>match look M k with
   |some (_,.bx _ (.rd t' x') T')=>match Nat.beq T T',t'.to t x',gL G f all M l ks with
    |true,some x,some p=>some ((x,p.1),p.2.1,p.2.2)
    |_,_,_=>none
   |_=>none
 |.p t T::l,ks=>match ks with
  | []=>none
  |k::ks=>match look M k with
   |some (_,.bx _ c T')=>match Nat.beq T T',c.asT G M t,gL G f all M l ks with
    |true,some x,some p=>some (p.1,(x,p.2.1),p.2.2)
    |_,_,_=>none
   |_=>none
 |.o t T' T::l,ks=>match ks with
  | []=>none
  |k::ks=>match look M k with
   |some (_,.bx _ c T1)=>match Nat.beq T T1,X4 M c with
    |true,some q=>match Nat.beq q.2.2.1 T',(Ty.sl q.2.2.2.1).to (.sl t) q.2.2.2.2,gL G f all M l ks with
     |true,some xs,some p=>some (p.1,((xs:List t.D),p.2.1),some q.1::p.2.2)
     |_,_,_=>none
    |true,none=>match Yq c,gL G f all M l ks with
     |true,some p=>some (p.1,(([]:List t.D),p.2.1),none::p.2.2)
     |_,_=>none
    |_,_=>none
   |_=>none
 |.s T::l,ks=>match ks with
  | []=>none
  |k::ks=>match look M k with
   |some (_,.bx _ c T')=>match Nat.beq T T',SK f all c,gL G f all M l ks with
    |true,true,some p=>some (p.1,p.2.1,p.2.2)
    |_,_,_=>none
   |_=>none
def rV(M:MS)(k:Nat):Bool:=match look M k with
 |some (_,.bx nw _ _)=>nw
 |some (_,.sl nw _ _ _)=>nw
 |_=>true
def nwQ(M:MS):Option Nat→Bool
 |some k=>rV M k
 |none=>true
def vR(M:MS)(n:Nat):(l:List CQ)→List Nat→List (Option Nat)→CB l→MS
 | [],_,_,_=>[]
 |.p t T::l,ks,qs,y=>match ks with
  | []=>[]
  |k::ks=>(k,n,.bx (rV M k) (.rd t y.1) T)::vR M n l ks qs y.2
 |.o t T' T::l,ks,qs,y=>match ks,qs with
  |k::ks,some j::qs=>(k,n,.bx (rV M k) (.ob n) T)::(n,n,.sl (rV M j) t T' y.1)::(j,n,.dead)::vR M n l ks qs y.2
  |k::ks,none::qs=>(k,n,.bx (rV M k) (.ob n) T)::(n,n,.sl true t T' y.1)::vR M n l ks qs y.2
  |_,_=>[]
 |.r t T::l,ks,qs,y=>match ks with
  | []=>[]
  |k::ks=>vR M n l ks qs y
 |.s T::l,ks,qs,y=>match ks with
  | []=>[]
  |k::ks=>vR M n l ks qs y
def stK:List CQ→List Nat→List Nat
 |.r _ _::l,k::ks=>k::stK l ks
 |.s _::l,k::ks=>k::stK l ks
 |_::l,_::ks=>stK l ks
 |_,_=>[]
def qn:List Nat→Bool
 | []=>true
 |k::l=>!gw k l && qn l
theorem wL:∀ {l:List Nat},qn l=true→l.Nodup
 | [],_=>List.nodup_nil
 |k::l,h=>by
  simp only[qn,zLD,Bool.not_eq_true']at h;exact List.nodup_cons.2 ⟨fun hm=>by rw[YT.2 hm]at h;exact absurd h.1 (by simp),wL h.2⟩
def yf:List (Option Nat)→List Nat
 | []=>[]
 |some j::l=>j::yf l
 |none::l=>yf l
theorem YY{j:Nat}:∀ {l:List (Option Nat)},j∈yf l↔some j∈l
 | []=>by simp[yf]
 |some k::l=>by simp[yf,YY (l:=l)]
 |none::l=>by simp[yf,YY (l:=l)]
def tgQ(X:Cx)(fr:Nat):Option Nat→Nat
 |some j=>X.ι j
 |none=>fr
def BKs(X:Cx):List Nat→List Nat→Prop
 | [],[]=>True
 |k::ks,b::bl=>X.U k=.pointer (some ⟨b,0,none⟩)∧BKs X ks bl
 |_,_=>False
def lA(X:Cx)(qs:List (Option Nat))(g:Nat):Prop:=∃j,some j∈qs∧(X.U j).ownBlock=some g
theorem IY{P:Program}{k:Nat}{Q:Nat→Prop}{O:zR}{w:World}{u:Value}{T:TypeId}{a b:Ty}{xs:List a.D}{ys:List b.D}(e:Ty.sl a=.sl b)(h:Ty.cast e xs=ys)(hO:zu k (a.gr P) T Q O w u xs):zu k (b.gr P) T Q O w u ys:=by
 injection e with e
 subst e;subst h;exact hO
theorem Ki{f:FuncId}{all:List Nat}{X:Cx}{w:World}{G:FE}(hG:FOk X.P G){M:MS}(hM:yF M X w){fr:Nat}:∀ {l:List CQ} {ks:List Nat} {x:CR l} {y:CB l} {qs:List (Option Nat)},gL G f all M l ks=some (x,y,qs) →
  (∀k∈ks,∃st nw c T,look M k=some (st,.bx nw c T))∧(∀j,some j∈qs→∃st nw t T xs,look M j=some (st,.sl nw t T xs)) ∧
  ∃bl ss,BKs X ks bl∧(∀Q:Nat→Prop,(∀g,lA X qs g→Q g)→Cnt X.P f (all.map X.U) X.O w Q l x y bl (ks.map X.ι) (qs.map (tgQ X fr)) ss):=by
 intro l
 induction l with
 |nil =>
  intro ks x y qs h;simp only[gL]at h;split at h
  ·cases h
   exact⟨by simp,by simp,[],[],trivial,fun _ _=>⟨rfl,rfl,rfl,rfl⟩⟩
  ·cases h
 |cons q l ih =>
  intro ks x y qs h
  cases q with
  |s T =>
   simp only[gL]at h;split at h
   ·cases h
   ·rename_i k ks'
    split at h
    ·rename_i st nw c T' hk
     split at h
     ·rename_i p hT hc hp
      cases h
      obtain⟨i1,i2,bl,ss,i3,i4⟩:=ih (x:=p.1) (y:=p.2.1) (qs:=p.2.2) hp;obtain⟨b,cs,g1,g2,g3,g4⟩:=hM k _ hk;have hTT:T=T':=zLC hT
      subst hTT;have hc:=Ar hc
      subst hc;obtain⟨u,f1,f2,vs,us,f3,f4,f5⟩:=g3;obtain⟨f6,_⟩:=lZ f4;have hvs:vs=[]:=f3
      subst hvs;subst f6;have hcs:cs=#[u]:=Array.ext' (by simpa using f1)
      rw[f5]at hcs;subst hcs;refine⟨fun j hj=>?_,i2,b::bl,ss,⟨g1,i3⟩,fun Q hQ=>⟨b,bl,X.ι k,ks'.map X.ι,rfl,rfl,g2.own,g2.tag,i4 Q hQ⟩⟩
      rcases zLH.1 hj with rfl|hj
      ·exact⟨_,_,_,_,hk⟩
      ·exact i1 j hj
     ·cases h
    ·cases h
  |r t T =>
   simp only[gL]at h;split at h
   ·cases h
   ·rename_i k ks'
    split at h
    ·rename_i st nw t' x' T' hk
     split at h
     ·rename_i x0 p hT hc hp
      cases h
      obtain⟨i1,i2,bl,ss,i3,i4⟩:=ih (x:=p.1) (y:=p.2.1) (qs:=p.2.2) hp;obtain⟨b,cs,g1,g2,g3,g4⟩:=hM k _ hk;have hTT:T=T':=zLC hT
      subst hTT;refine⟨fun j hj=>?_,i2,b::bl,ss,⟨g1,i3⟩,fun Q hQ=>⟨b,bl,X.ι k,ks'.map X.ι,cs,rfl,rfl,g2.own,g2.tag,lB hc g3,i4 Q hQ⟩⟩
      rcases zLH.1 hj with rfl|hj
      ·exact⟨_,_,_,_,hk⟩
      ·exact i1 j hj
     ·cases h
    ·cases h
  |p t T =>
   simp only[gL]at h;split at h
   ·cases h
   ·rename_i k ks'
    split at h
    ·rename_i st nw c T' hk
     split at h
     ·rename_i x0 p hT hc hp
      cases h
      obtain⟨i1,i2,bl,ss,i3,i4⟩:=ih (x:=p.1) (y:=p.2.1) (qs:=p.2.2) hp;obtain⟨b,cs,g1,g2,g3,g4⟩:=hM k _ hk;have hTT:T=T':=zLC hT
      subst hTT;refine⟨fun j hj=>?_,i2,b::bl,ss,⟨g1,i3⟩,fun Q hQ=>⟨b,bl,X.ι k,ks'.map X.ι,cs,rfl,rfl,g2.own,g2.tag,(AV.jf hG c hM).vc hc g3,i4 Q hQ⟩⟩
      rcases zLH.1 hj with rfl|hj
      ·exact⟨_,_,_,_,hk⟩
      ·exact i1 j hj
     ·cases h
    ·cases h
  |o t T1 T =>
   simp only[gL]at h;split at h
   ·cases h
   ·rename_i k ks'
    split at h
    ·rename_i st nw c T' hk
     obtain⟨b,cs,g1,g2,g3,g4⟩:=hM k _ hk;split at h
     ·rename_i q hT hq
      have hTT:T=T':=zLC hT;subst hTT;split at h
      ·rename_i xs p hT1 hx hp
       cases h
       obtain⟨i1,i2,bl,ss,i3,i4⟩:=ih (x:=p.1) (y:=p.2.1) (qs:=p.2.2) hp
       -- the variable's one cell
       have hob:c=.ob q.1∧∃st',look M q.1=some (st',.sl q.2.1 q.2.2.2.1 q.2.2.1 q.2.2.2.2):=by
        unfold X4 at hq;split at hq
        ·split at hq
         ·rename_i j _ st' nw' t' T2 xs' hj;cases hq;exact⟨rfl,_,hj⟩
         ·cases hq
        ·cases hq
       obtain⟨hc,st',hj⟩:=hob;subst hc;obtain⟨u,f1,f2,f3⟩:=g3;have hcs:cs=#[u]:=Array.ext' (by simpa using f1)
       subst hcs;have hO:=hM q.1 _ hj
       change zu (X.ι q.1) (q.2.2.2.1.gr X.P) q.2.2.1 (X.B q.2.1) X.O w (X.U q.1) q.2.2.2.2 at hO
       have e1:=zLC hT1;obtain⟨e2,e3⟩:=Ty.jS hx;refine⟨fun j hj=>?_,fun j hj'=>?_,b::bl,u::ss,⟨g1,i3⟩,fun Q hQ=>⟨b,bl,X.ι k,ks'.map X.ι,X.ι q.1,p.2.2.map (tgQ X fr),u,ss,rfl,rfl,rfl,rfl,f2,g2.own,g2.tag,?_,i4 Q fun g hg=>hQ g (by obtain⟨j,h1,h2⟩:=hg;exact⟨j,by simp[h1],h2⟩)⟩⟩
       ·rcases zLH.1 hj with rfl|hj
        ·exact⟨_,_,_,_,hk⟩
        ·exact i1 j hj
       ·rcases zLH.1 hj' with e|hj'
        ·cases e;exact⟨_,_,_,_,_,hj⟩
        ·exact i2 j hj'
       ·rw[f3.1,←e1]
        obtain⟨vs,k1,k2,k3⟩:=hO;have hOL:zu (X.ι q.1) (q.2.2.2.1.gr X.P) q.2.2.1 Q X.O w (X.U q.1) q.2.2.2.2:=⟨vs,k1,k2,fun g hg=>⟨(k3 g hg).1,hQ g ⟨q.1,by simp,hg⟩⟩⟩
        exact IY e2 e3 hOL
      ·cases h
     ·rename_i hT hq
      have hTT:T=T':=zLC hT;subst hTT;split at h
      ·rename_i p hn hp
       cases h
       obtain⟨i1,i2,bl,ss,i3,i4⟩:=ih (x:=p.1) (y:=p.2.1) (qs:=p.2.2) hp;have hφ:=jh hn
       subst hφ;have hcs:cs=#[.slice none 0 0]:=Array.ext' (show cs.toList=_ from g3)
       subst hcs;refine⟨fun j hj=>?_,fun j hj'=>i2 j (by simpa using hj'),b::bl,.slice none 0 0::ss,⟨g1,i3⟩,fun Q hQ=>⟨b,bl,X.ι k,ks'.map X.ι,fr,p.2.2.map (tgQ X fr),.slice none 0 0,ss,rfl,rfl,rfl,rfl,rfl,g2.own,g2.tag,zu.nil _ _ _ _ _ _,i4 Q fun g hg=>hQ g (by obtain⟨j,h1,h2⟩:=hg;exact⟨j,by simp[h1],h2⟩)⟩⟩
       rcases zLH.1 hj with rfl|hj
       ·exact⟨_,_,_,_,hk⟩
       ·exact i1 j hj
      ·cases h
     ·cases h
    ·cases h
theorem BKs.mem{X:Cx}:∀ {ks bl:List Nat},BKs X ks bl→∀b∈bl,∃k∈ks,X.U k=.pointer (some ⟨b,0,none⟩)
 | [],[],_,b,hb=>by cases hb
 |k::ks,c::bl,h,b,hb=>by
  rcases zLH.1 hb with rfl|hb
  ·exact⟨k,by simp,h.1⟩
  ·obtain⟨j,h1,h2⟩:=BKs.mem h.2 b hb
   exact⟨j,by simp[h1],h2⟩
 | [],_::_,h,_,_=>h.elim
 |_::_,[],h,_,_=>h.elim
theorem Dh{f:FuncId}{all:List Nat}{G:FE}{M:MS}{n:Nat}:∀ {l:List CQ} {ks:List Nat} {x:CR l} {y:CB l} {qs:List (Option Nat)},gL G f all M l ks=some (x,y,qs)→∀(y':CB l) k,(k∈ks∨some k∈qs)→look (vR M n l ks qs y') k≠none∨k∈stK l ks:=by
 have hc:∀ {α:Type} {k j:Nat} {x:α} {l:List (Nat×α)} {p:Prop},(k≠j→look l j≠none∨p)→look ((k,x)::l) j≠none∨p:=by
  intro α k j x l p h;unfold look
  cases hb:Nat.beq k j with
  |true=>simp[hb]
  |false=>simp only[hb,cond_false];rw[zV]at hb;exact h (by simpa using hb)
 intro l
 induction l with
 |nil =>
  intro ks x y qs h y' k hk;simp only[gL]at h;split at h
  ·cases h;simp at hk
  ·cases h
 |cons q l ih =>
  intro ks x y qs h y' k hk
  cases q with
  |s T =>
   cases ks with
   |nil=>simp[gL]at h
   |cons k0 ks0 =>
    simp only[gL]at h;split at h
    ·split at h
     ·rename_i p hT hc' hp
      cases h
      by_cases hk0:k=k0
      ·exact .inr (by simp[stK,hk0])
      ·exact(ih (x:=p.1) (y:=p.2.1) (qs:=p.2.2) hp y' k (hk.imp (fun h=>(zLH.1 h).resolve_left hk0) id)).imp id fun h=>by simp[stK,h]
     ·cases h
    ·cases h
  |r t T =>
   cases ks with
   |nil=>simp[gL]at h
   |cons k0 ks0 =>
    simp only[gL]at h;split at h
    ·split at h
     ·rename_i x0 p hT hc' hp
      cases h
      by_cases hk0:k=k0
      ·exact .inr (by simp[stK,hk0])
      ·exact(ih (x:=p.1) (y:=p.2.1) (qs:=p.2.2) hp y' k (hk.imp (fun h=>(zLH.1 h).resolve_left hk0) id)).imp id fun h=>by simp[stK,h]
     ·cases h
    ·cases h
  |p t T =>
   simp only[gL]at h;split at h
   ·cases h
   ·split at h
    ·split at h
     ·rename_i x0 p hT hc' hp
      cases h
      refine hc fun hne=>ih (x:=p.1) (y:=p.2.1) (qs:=p.2.2) hp y'.2 k (hk.imp (fun h=>?_) id)
      rcases zLH.1 h with rfl|h
      ·exact absurd rfl hne
      ·exact h
     ·cases h
    ·cases h
  |o t T1 T =>
   simp only[gL]at h;split at h
   ·cases h
   ·split at h
    ·split at h
     ·split at h
      ·rename_i xs p hT1 hx hp
       cases h
       refine hc fun hne=>hc fun hne2=>hc fun hne3=>ih (x:=p.1) (y:=p.2.1) (qs:=p.2.2) hp y'.2 k (hk.imp (fun h=>?_) fun h=>?_)
       ·rcases zLH.1 h with rfl|h
        ·exact absurd rfl hne
        ·exact h
       ·rcases zLH.1 h with e|h
        ·cases e;exact absurd rfl hne3
        ·exact h
      ·cases h
     ·split at h
      ·rename_i p hn hp
       cases h
       refine hc fun hne=>hc fun hne2=>ih (x:=p.1) (y:=p.2.1) (qs:=p.2.2) hp y'.2 k (hk.imp (fun h=>?_) fun h=>by simpa using h)
       rcases zLH.1 h with rfl|h
       ·exact absurd rfl hne
       ·exact h
      ·cases h
     ·cases h
    ·cases h
theorem I5{f:FuncId}{all:List Nat}{X X':Cx}{w w':World}{M:MS}(hM:yF M X w)(hP:X'.P=X.P)(hA:X'.A=X.A)(hF:X'.F=X.F){n:Nat}(hU:∀k,k<n→X'.U k=X.U k)(hι:∀k,k<n→X'.ι k=X.ι k)(hn:X'.n=n+1)(hMn:∀k e,look M k=some e→k<n){fr:Nat}{G:Nat→Prop} :
  ∀ {l:List CQ} {ks:List Nat} {qs:List (Option Nat)} {x:CR l} {y':CB l} {bl:List Nat} {ss':List Value},(∀k∈ks,∃st nw c T,look M k=some (st,.bx nw c T))→BKs X ks bl →
  Cnt X.P f (all.map X.U) X'.O w' G l x y' bl (ks.map X.ι) (qs.map (tgQ X fr)) ss'→qs.length≤1→(∀u,ss'.head?=some u→X'.U n=u)→(∀q,qs.head?=some q→X'.ι n=tgQ X fr q∧∀g,G g→X.B (nwQ M q) g) →
  ∀k e,(k,e)∈vR M n l ks qs y'→e.1=n∧e.2.holds X' w' k∧((k∈ks∧k<n)∨(k=n∧qs≠[])∨(some k∈qs∧e.2=.dead)):=by
 intro l
 induction l with
 |nil=>intro ks qs x y' bl ss' _ _ _ _ _ _ k e he;simp[vR]at he
 |cons q l ih =>
  intro ks qs x y' bl ss' h1 hb hC hq hu hqq k e he
  cases q with
  |s T =>
   obtain⟨b,bl',τ,ts',rfl,e1,e2,e3,e5⟩:=hC
   cases ks with
   |nil=>cases e1
   |cons k0 ks =>
    simp only[List.map_cons,List.cons.injEq]at e1;obtain⟨rfl,rfl⟩:=e1;simp only[vR]at he;obtain⟨g1,g2,g3⟩:=ih (y':=y') (fun k hk=>h1 k (by simp[hk])) hb.2 e5 hq hu hqq k e he
    exact⟨g1,g2,g3.imp (fun h=>⟨by simp[h.1],h.2⟩) id⟩
  |r t T =>
   obtain⟨b,bl',τ,ts',cs,rfl,e1,e2,e3,e4,e5⟩:=hC
   cases ks with
   |nil=>cases e1
   |cons k0 ks =>
    simp only[List.map_cons,List.cons.injEq]at e1;obtain⟨rfl,rfl⟩:=e1;simp only[vR]at he;obtain⟨g1,g2,g3⟩:=ih (y':=y') (fun k hk=>h1 k (by simp[hk])) hb.2 e5 hq hu hqq k e he
    exact⟨g1,g2,g3.imp (fun h=>⟨by simp[h.1],h.2⟩) id⟩
  |p t T =>
   obtain⟨b,bl',τ,ts',cs,rfl,e1,e2,e3,e4,e5⟩:=hC
   cases ks with
   |nil=>cases e1
   |cons k0 ks =>
    simp only[List.map_cons,List.cons.injEq]at e1;obtain⟨rfl,rfl⟩:=e1;obtain⟨st,nw,c,T0,hk⟩:=h1 k0 (by simp)
    have hnw:rV M k0=nw:=by unfold rV;rw[hk]
    have hlt:=hMn k0 _ hk;simp only[vR]at he;rcases zLH.1 he with he|he
    ·cases he
     obtain⟨b',cs',f1,f2,f3,f4⟩:=hM k _ hk;have:=hb.1
     rw[f1]at this;simp only[Value.pointer.injEq,Option.some.injEq,Addr.mk.injEq,and_true]at this;subst this;refine⟨rfl,⟨b',cs,by rw[hU k hlt];exact f1,⟨e2,?_,by rw[hι k hlt];exact e3⟩,?_,rfl⟩,.inl ⟨by simp,hlt⟩⟩
     ·rw[hnw,Cx.KU hA hF];exact f2.ge
     ·show (t.gr X'.P).rel X'.O w' cs.toList y'.1
      rw[hP];exact e4
    ·obtain⟨g1,g2,g3⟩:=ih (y':=y'.2) (fun k hk=>h1 k (by simp[hk])) hb.2 e5 hq hu hqq k e he
     exact⟨g1,g2,g3.imp (fun h=>⟨by simp[h.1],h.2⟩) id⟩
  |o t T1 T =>
   obtain⟨b,bl',τ,ts',σ,σs',u,vs',rfl,e1,e2,rfl,e3,e4,e5,e6,e7⟩:=hC
   cases ks with
   |nil=>cases e1
   |cons k0 ks =>
   cases qs with
   |nil=>cases e2
   |cons q0 qs =>
    simp only[List.map_cons,List.cons.injEq]at e1 e2;obtain⟨rfl,rfl⟩:=e1;obtain⟨rfl,rfl⟩:=e2;have hqs:qs=[]:=by cases qs with|nil=>rfl|cons _ _=>simp at hq
    subst hqs;obtain⟨st,nw,c,T0,hk⟩:=h1 k0 (by simp)
    have hnw:rV M k0=nw:=by unfold rV;rw[hk]
    have hlt:=hMn k0 _ hk;have hUn:=hu u rfl
    obtain⟨hιn,hGB⟩:=hqq q0 rfl;obtain⟨b',cs',f1,f2,f3,f4⟩:=hM k0 _ hk;have hbb:=hb.1
    rw[f1]at hbb;simp only[Value.pointer.injEq,Option.some.injEq,Addr.mk.injEq,and_true]at hbb;subst hbb;have hbx:(MV.bx (rV M k0) (.ob n) T).holds X' w' k0:=by
     refine⟨b',#[u],by rw[hU k0 hlt];exact f1,⟨e4,?_,by rw[hι k0 hlt];exact e5⟩,⟨u,rfl,e3,hUn.symm,by rw[hn];exact zLP n,e3⟩,rfl⟩
     rw[hnw,Cx.KU hA hF];exact f2.ge
    have hsl:∀nw',nw'=nwQ M q0→(MV.sl nw' t T1 y'.1).holds X' w' n:=by
     intro nw' hnw';obtain⟨vs,k1,k2,k3⟩:=e6;show zu _ _ _ _ _ _ _ _
     rw[hUn,hιn,hP,Cx.KU hA hF,hnw'];exact⟨vs,k1,k2,fun g hg=>⟨(k3 g hg).1,hGB g (k3 g hg).2⟩⟩
    have hrest:∀e',(k,e')∈vR M n l ks [] y'.2→e'.1=n∧e'.2.holds X' w' k∧((k∈k0::ks∧k<n)∨(k=n∧q0::[]≠[])∨(some k∈[q0]∧e'.2=.dead)):=fun e' he'=>by
     have hvs:vs'=[]:=by
      have:∀ {l:List CQ} {x:CR l} {y:CB l} {bl ts:List Nat} {vs:List Value},Cnt X.P f (all.map X.U) X'.O w' G l x y bl ts [] vs→vs=[]:=by
       intro l
       induction l with
       |nil=>intro x y bl ts vs h;exact h.2.2.2
       |cons q l ih2 =>
        intro x y bl ts vs h
        cases q with
        |s T=>obtain⟨_,_,_,_,_,_,_,_,h⟩:=h;exact ih2 (y:=y) h
        |r t T=>obtain⟨_,_,_,_,_,_,_,_,_,_,h⟩:=h;exact ih2 (y:=y) h
        |p t T=>obtain⟨_,_,_,_,_,_,_,_,_,_,h⟩:=h;exact ih2 (y:=y.2) h
        |o t T' T=>obtain⟨_,_,_,_,_,_,_,_,_,_,h,_⟩:=h;cases h
      exact this e7
     subst hvs;obtain⟨g1,g2,g3⟩:=ih (y':=y'.2) (fun k hk=>h1 k (by simp[hk])) hb.2 e7 (by simp) (fun u hu=>by simp at hu) (fun q hq=>by simp at hq) k e' he'
     refine⟨g1,g2,?_⟩;rcases g3 with g3|g3|g3
     ·exact .inl ⟨by simp[g3.1],g3.2⟩
     ·exact absurd rfl g3.2
     ·exact absurd g3.1 (by simp)
    cases q0 with
    |some j =>
     simp only[vR]at he;rcases zLH.1 he with he|he
     ·cases he;exact⟨rfl,hbx,.inl ⟨by simp,hlt⟩⟩
     rcases zLH.1 he with he|he
     ·cases he;exact⟨rfl,hsl _ rfl,.inr (.inl ⟨rfl,by simp⟩)⟩
     rcases zLH.1 he with he|he
     ·cases he;exact⟨rfl,trivial,.inr (.inr ⟨by simp,rfl⟩)⟩
     ·exact hrest e he
    |none =>
     simp only[vR]at he;rcases zLH.1 he with he|he
     ·cases he;exact⟨rfl,hbx,.inl ⟨by simp,hlt⟩⟩
     rcases zLH.1 he with he|he
     ·cases he;exact⟨rfl,hsl _ rfl,.inr (.inl ⟨rfl,by simp⟩)⟩
     ·exact hrest e he
theorem QG{f:FuncId}{all:List Nat}{X X':Cx}{w w':World}{G:FE}{M:MS}(hM:yF M X w)(hP:X'.P=X.P)(hA:X'.A=X.A)(hF:X'.F=X.F){n:Nat}(hU:∀k,k<n→X'.U k=X.U k)(hι:∀k,k<n→X'.ι k=X.ι k)(hn:n≤X'.n)(hMn:∀k e,look M k=some e→k<n)(hall:∀k∈all,k<n∧∃b,X.U k=.pointer (some ⟨b,0,none⟩)){Gq:Nat→Prop} :
  ∀ {l:List CQ} {ks:List Nat} {qs:List (Option Nat)} {x:CR l} {y y':CB l} {bl:List Nat} {ts σs:List Nat} {ss':List Value},gL G f all M l ks=some (x,y,qs)→BKs X ks bl →
  Cnt X.P f (all.map X.U) X'.O w' Gq l x y' bl ts σs ss'→ts=ks.map X.ι→∀k∈stK l ks,∀e,look M k=some e→e.2.holds X' w' k:=by
 intro l
 induction l with
 |nil=>intro ks qs x y y' bl ts σs ss' _ _ _ _ k hk;simp[stK]at hk
 |cons q l ih =>
  intro ks qs x y y' bl ts σs ss' hi hb hC hts k hk e he
  cases ks with
  |nil=>cases q<;>simp[stK]at hk
  |cons k0 ks =>
  cases q with
  |p t T =>
   obtain⟨b,bl',τ,ts',cs,rfl,rfl,e2,e3,e4,e5⟩:=hC;simp only[gL]at hi;split at hi
   ·split at hi
    ·rename_i x0 p hT hc hp
     cases hi
     simp only[List.map_cons,List.cons.injEq]at hts;exact ih (y:=p.2.1) (qs:=p.2.2) hp hb.2 e5 hts.2 k hk e he
    ·cases hi
   ·cases hi
  |o t T' T =>
   obtain⟨b,bl',τ,ts',σ,σs',u,vs',rfl,rfl,rfl,rfl,e3,e4,e5,e6,e7⟩:=hC;simp only[List.map_cons,List.cons.injEq]at hts;simp only[gL]at hi;split at hi
   ·split at hi
    ·split at hi
     ·rename_i xs p hT1 hx hp
      cases hi
      exact ih (y:=p.2.1) (qs:=p.2.2) hp hb.2 e7 hts.2 k hk e he
     ·cases hi
    ·split at hi
     ·rename_i p hn hp
      cases hi
      exact ih (y:=p.2.1) (qs:=p.2.2) hp hb.2 e7 hts.2 k hk e he
     ·cases hi
    ·cases hi
   ·cases hi
  |s T =>
   obtain⟨b,bl',τ,ts',rfl,rfl,e2,e3,e5⟩:=hC;simp only[List.map_cons,List.cons.injEq]at hts;simp only[gL]at hi;split at hi
   ·rename_i st nw c T1 hk0
    split at hi
    ·rename_i p hT hc hp
     cases hi
     simp only[stK]at hk;rcases zLH.1 hk with rfl|hk
     ·rw[hk0]at he
      cases he
      have hlt:=hMn k _ hk0;obtain⟨b',cs',f1,f2,f3,f4⟩:=hM k _ hk0;have:=hb.1
      rw[f1]at this;simp only[Value.pointer.injEq,Option.some.injEq,Addr.mk.injEq,and_true]at this;subst this;have hTT:T=T1:=zLC hT
      subst hTT;have hc:=Ar hc
      subst hc;have hU':all.map X.U=all.map X'.U:=List.map_congr_left fun j hj=>(hU j (hall j hj).1).symm
      have hcap:((qx all).sem X' w').l (all.map X.U):=by
       rw[hU'];exact qa fun j hj=>⟨zLQ (hall j hj).1 hn,by rw[hU j (hall j hj).1];exact(hall j hj).2⟩
      refine⟨b',_,by rw[hU k hlt];exact f1,⟨e2,?_,by rw[hι k hlt,e3];exact hts.1⟩,⟨_,rfl,rfl,[],_,rfl,hcap,rfl⟩,f4⟩
      rw[Cx.KU hA hF];exact f2.ge
     ·exact ih (y:=p.2.1) (qs:=p.2.2) hp hb.2 e5 hts.2 k hk e he
    ·cases hi
   ·cases hi
  |r t T =>
   obtain⟨b,bl',τ,ts',cs,rfl,rfl,e2,e3,e4,e5⟩:=hC;simp only[List.map_cons,List.cons.injEq]at hts;simp only[gL]at hi;split at hi
   ·rename_i st nw t1 x1 T1 hk0
    split at hi
    ·rename_i x0 p hT hc hp
     cases hi
     simp only[stK]at hk;rcases zLH.1 hk with rfl|hk
     ·rw[hk0]at he
      cases he
      have hlt:=hMn k _ hk0;obtain⟨b',cs',f1,f2,f3,f4⟩:=hM k _ hk0;have:=hb.1
      rw[f1]at this;simp only[Value.pointer.injEq,Option.some.injEq,Addr.mk.injEq,and_true]at this;subst this;have hTT:T=T1:=zLC hT
      subst hTT;refine⟨b',cs,by rw[hU k hlt];exact f1,⟨e2,?_,by rw[hι k hlt,e3];exact hts.1⟩,?_,f4⟩
      ·rw[Cx.KU hA hF];exact f2.ge
      ·show (t1.gr X'.P).rel X'.O w' cs.toList x1
       obtain⟨h1,h2⟩:=Ty.jS hc;subst h1;rw[hP];have h2:x1=x0:=h2
       rw[h2];exact e4
     ·exact ih (y:=p.2.1) (qs:=p.2.2) hp hb.2 e5 hts.2 k hk e he
    ·cases hi
   ·cases hi
abbrev WK(X:Cx)(bl:List Nat)(qs:List (Option Nat)):Nat→Prop:=fun b=>b∈bl∨lA X qs b
section
variable {F:Frm} {s:S} {a:Act} {w:World} {X:Cx}
theorem RelX.inW(h:RelX F s a w X){ks bl:List Nat}{qs:List (Option Nat)}(h1:∀k∈ks,∃st nw c T,look s.M k=some (st,.bx nw c T))(h2:∀j,some j∈qs→∃st nw t T xs,look s.M j=some (st,.sl nw t T xs))(hb:BKs X ks bl){b:Nat}(hW:WK X bl qs b) :
  F.A b∧b<w.heap.size∧∃k e,(k∈ks∨some k∈qs)∧look s.M k=some e∧e.2.own=true∧X.O b=X.ι k:=by
 rcases hW with hW|⟨j,hj,hg⟩
 ·obtain⟨k,hk,hU⟩:=hb.mem b hW
  obtain⟨st,nw,c,T,hl⟩:=h1 k hk;obtain⟨b',cs,e1,e2,_⟩:=h.m k _ hl;rw[hU]at e1;simp only[Value.pointer.injEq,Option.some.injEq,Addr.mk.injEq,and_true]at e1;subst e1;exact⟨(h.okB nw).sub _ e2.ge,e2.own.lt,k,_,.inl hk,hl,rfl,e2.tag⟩
 ·obtain⟨st,nw,t,T,xs,hl⟩:=h2 j hj
  have hO:=h.m j _ hl
  change zu (X.ι j) (t.gr X.P) T (X.B nw) X.O w (X.U j) xs at hO
  exact⟨(h.okB nw).sub _ (hO.ge b hg).1,(hO.ge b hg).2,j,_,.inr hj,hl,rfl,hO.tagged b hg⟩
theorem RelX.zAW(h:RelX F s a w X){W:Nat→Prop}(hW:∀b,W b→F.A b){O':zR}{w':World}(hK:KeepK W X.O w O' w'):Base F.A F.O0 F.w0 O' w':=by
 have hB:=h.base;refine⟨hK.os.trans hB.os,hK.tape.trans hB.tape,hK.output.trans hB.output,zLK hB.size hK.size,fun b hb hA=>?_,hK.ok,fun b hb hA=>?_,fun b hb h0=>?_,hB.new⟩
 ·rw[hK.block b (zLQ hb hB.size) fun hw=>hA (hW b hw)];exact hB.block b hb hA
 ·rw[hK.tag b (zLQ hb hB.size) fun hw=>hA (hW b hw)];exact hB.old b hb hA
 ·by_cases hlt:b<w.heap.size
  ·by_cases hw:W b
   ·exact absurd h0 (hK.nz b hlt hw)
   ·rw[hK.tag b hlt hw]at h0;exact hB.zero b hlt h0
  ·exact h.ok0 b (by have:=hB.size;omega)
theorem Kq{k:Nat}:∀ {l:List CQ} {ks:List Nat},k∈stK l ks→k∈ks
 | [],ks,h=>by simp[stK]at h
 |.r _ _::l,[],h=>by simp[stK]at h
 |.s _::l,[],h=>by simp[stK]at h
 |.p _ _::l,[],h=>by simp[stK]at h
 |.o _ _ _::l,[],h=>by simp[stK]at h
 |.r _ _::l,j::ks,h=>by
  rcases zLH.1 h with rfl|h
  ·simp
  ·simp[Kq h]
 |.s _::l,j::ks,h=>by
  rcases zLH.1 h with rfl|h
  ·simp
  ·simp[Kq h]
 |.p _ _::l,j::ks,h=>by simp[Kq (l:=l) h]
 |.o _ _ _::l,j::ks,h=>by simp[Kq (l:=l) h]
theorem RelX.zKh{f:FuncId}{all:List Nat}(h:RelX F s a w X){G:FE}(hG:FOk X.P G){l:List CQ}{ks:List Nat}{x:CR l}{y:CB l}{qs:List (Option Nat)}(hi:gL G f all s.M l ks=some (x,y,qs))(hq:qs.length≤1){fr:Nat}(hfr:(fr≠0∧fr≠F.x.st)∧∀k e,look s.M k=some e→X.ι k≠fr)
  {bl:List Nat} (hall:∀k∈all,k<s.n∧∃b,X.U k=.pointer (some ⟨b,0,none⟩)) (hb:BKs X ks bl) {O':zR} {w':World} (hK:KeepK (WK X bl qs) X.O w O' w') {y':CB l} {ss':List Value} (hC:Cnt X.P f (all.map X.U) O' w' (fun g=>w.heap.size≤g∨lA X qs g) l x y' bl (ks.map X.ι) (qs.map (tgQ X fr)) ss') :
  ∃X',RelX F { L:=s.L,M:=vR s.M s.n l ks qs y'++s.M,n:=s.n+1,ep:=s.n } a w' X':=by
 obtain⟨h1,h2,_⟩:=Ki hG h.m (fr:=fr) hi;have hWW:=fun {b} hw=>h.inW h1 h2 hb (b:=b) hw
 have hkeep:∀t,(∀k e,(k∈ks∨some k∈qs)→look s.M k=some e→e.2.own=true→X.ι k≠t)→zg t X.O w O' w':=fun t ht=>⟨hK.size,fun b hb hbt=>by
  have hn:¬WK X bl qs b:=fun hw=>by
   obtain⟨_,_,k,e,g1,g2,g3,g4⟩:=hWW hw;exact ht k e g1 g2 g3 (g4.symm.trans hbt)
  exact⟨(hK.tag b hb hn).trans hbt,hK.block b hb hn⟩⟩
 let X':Cx:={ X with O:=O',U:=fun k=>if k=s.n then ss'.headD .nilIface else X.U k,ι:=fun k=>if k=s.n then (qs.map (tgQ X fr)).headD 0 else X.ι k,n:=s.n+1,ep:=s.n }
 have hUk:∀k,k<s.n→X'.U k=X.U k:=fun k hk=>if_neg (by omega)
 have hιk:∀k,k<s.n→X'.ι k=X.ι k:=fun k hk=>if_neg (by omega)
 have hout:=I5 (X:=X) (X':=X') (w:=w) (w':=w') (n:=s.n) (fr:=fr) h.m rfl rfl rfl hUk hιk rfl (fun k e he=>(h.mn k e he).2) (ks:=ks) (qs:=qs) (y':=y') h1 hb hC hq (fun u hu=>by
   show (if s.n=s.n then ss'.headD .nilIface else _)=u
   rw[if_pos rfl]
   cases ss' with
   |nil=>cases hu
   |cons v ss'=>simpa using hu) (fun q hqh=>by
   cases qs with
   |nil=>cases hqh
   |cons q0 qs =>
    simp only[List.head?_cons,Option.some.injEq]at hqh;subst hqh;have hqs:qs=[]:=by cases qs with|nil=>rfl|cons _ _=>simp at hq
    subst hqs;refine⟨if_pos rfl,fun g hg=>?_⟩
    rcases hg with hg|⟨j,hj,hg⟩
    ·exact(h.okB _).new g (zLK h.base.size hg)
    ·have hj:q0=some j:=(List.mem_singleton.1 hj).symm
     subst hj;obtain⟨st,nw,t,T,xs,hl⟩:=h2 j (by simp)
     have hO:=h.m j _ hl
     change zu (X.ι j) (t.gr X.P) T (X.B nw) X.O w (X.U j) xs at hO
     have:nwQ s.M (some j)=nw:=by simp only[nwQ,rV];rw[hl]
     rw[this];exact(hO.ge g hg).1)
 have hcov:=fun k hk=>Dh (n:=s.n) hi y' k hk
 have hstay:=fun {k} hk {e} he=>QG (X:=X) (X':=X') (w:=w) (w':=w') (n:=s.n) (Gq:=fun g=>w.heap.size≤g∨lA X qs g) h.m rfl rfl rfl hUk hιk (zLO _) (fun k e he=>(h.mn k e he).2) hall hi hb hC rfl k hk e he
 have hstm:∀ {k},k∈stK l ks→k∈ks:=fun {k} hk=>Kq hk
 have hιn:qs≠[]→(X'.ι s.n=fr∨∃j,some j∈qs∧X'.ι s.n=X.ι j):=fun hne=>by
  cases qs with
  |nil=>exact absurd rfl hne
  |cons q0 qs =>
   cases q0 with
   |none=>exact .inl (if_pos rfl)
   |some j=>exact .inr ⟨j,by simp,if_pos rfl⟩
 refine⟨X',h.go h.fit rfl rfl rfl (fun j hj=>hkeep j fun k e _ g2 g3 heq=>?_) hUk rfl rfl (zLO _) (zLO _) ?_ (fun hf=>absurd (hf:s.n≤F.fe) (Nat.not_le.2 h.fe)) (fun _ _ _=>rfl) (fun t e he=>.inr ⟨he,rfl,fun hfr hf=>?_⟩) (fun k' e he=>?_) (fun j k' e e' he he' ho ho' heq=>?_) (fun k' e he ho=>?_)⟩
 ·have:=h.pos k e g2 g3
  rcases hj with rfl|rfl
  ·exact this.1 heq
  ·exact this.2 heq
 ·exact h.zAW (fun b hw=>(hWW hw).1) hK
 ·have:=h.ln t e he
  simp only[fresh,hfr,Bool.not_true,Bool.false_or]at hf;rw[jr]at hf;have hf':s.n≤e.1:=of_decide_eq_true hf
  omega
 ·rcases gE he with g1|⟨g1,g2⟩
  ·obtain⟨a1,a2,a3⟩:=hout k' e (ZI g1)
   refine .inl ⟨by rw[a1];exact zLP _,?_,a2⟩
   rcases a3 with a3|a3|a3
   ·show k'<s.n+1;omega
   ·show k'<s.n+1;omega
   ·obtain⟨_,_,_,_,_,hl⟩:=h2 k' a3.1
    exact Nat.lt_succ_of_lt (h.mn k' _ hl).2
  ·have hlt:=(h.mn k' e g2).2
   by_cases hst:k'∈stK l ks
   ·exact .inl ⟨Nat.lt_succ_of_lt (h.mn k' e g2).1,Nat.lt_succ_of_lt hlt,hstay hst g2⟩
   refine .inr ⟨g2,hιk k' hlt,fun ho=>hkeep _ fun k e' g3 g4 g5 heq=>?_⟩
   have:=h.inj k k' e' e g4 g2 g5 ho heq;subst this;exact(hcov k g3).elim (fun h=>h g1) hst
 ·-- whose they were
  have key:∀ {k e},look (vR s.M s.n l ks qs y'++s.M) k=some e→e.2.own=true→(k<s.n∧(∃e0,look s.M k=some e0∧e0.2.own=true)∧∀j,some j∈qs→k≠j)∨(k=s.n∧qs≠[]):=fun {k e} he ho=>by
   have hno:∀ {k e0},look s.M k=some e0→(k∈ks∨look (vR s.M s.n l ks qs y') k=none)→∀j,some j∈qs→k≠j:=fun {k e0} hk hor j hj ekj=>by
    subst ekj;have hks:k∈ks→False:=fun hor=>by
     obtain⟨_,_,_,_,q1⟩:=h1 k hor;obtain⟨_,_,_,_,_,q2⟩:=h2 k hj;rw[q1]at q2;cases q2
    rcases hor with hor|hor
    ·exact hks hor
    ·exact(hcov k (.inr hj)).elim (fun h=>h hor) fun h=>hks (hstm h)
   rcases gE he with g1|⟨g1,g2⟩
   ·obtain⟨a1,a2,a3⟩:=hout k e (ZI g1)
    rcases a3 with a3|a3|a3
    ·obtain⟨st,nw,c,T,hk⟩:=h1 k a3.1
     exact .inl ⟨a3.2,⟨_,hk,rfl⟩,hno hk (.inl a3.1)⟩
    ·exact .inr a3
    ·rw[a3.2]at ho;cases ho
   ·exact .inl ⟨(h.mn k e g2).2,⟨e,g2,ho⟩,hno g2 (.inr g1)⟩
  have cross:∀ {k:Nat},(k<s.n∧(∃e0,look s.M k=some e0∧e0.2.own=true)∧∀j,some j∈qs→k≠j)→qs≠[]→X'.ι k=X'.ι s.n→False:=fun {k} hk hne heq=>by
   obtain⟨hlt,⟨e0,q1,q2⟩,q3⟩:=hk;rw[hιk k hlt]at heq;rcases hιn hne with q4|⟨j,q4,q5⟩
   ·exact hfr.2 k e0 q1 (heq.trans q4)
   ·obtain⟨st,nw,t,T,xs,hl⟩:=h2 j q4
    exact q3 j q4 (h.inj k j e0 _ q1 hl q2 rfl (heq.trans q5))
  rcases key he ho with g1|g1<;>rcases key he' ho' with g2|g2
  ·obtain⟨hl1,⟨e1,a1,a2⟩,_⟩:=g1
   obtain⟨hl2,⟨e2,b1,b2⟩,_⟩:=g2;rw[hιk j hl1,hιk k' hl2]at heq;exact h.inj j k' e1 e2 a1 b1 a2 b2 heq
  ·rw[g2.1]at heq;exact(cross g1 g2.2 heq).elim
  ·rw[g1.1]at heq;exact(cross g2 g1.2 heq.symm).elim
  ·rw[g1.1,g2.1]
 ·rcases gE he with g1|⟨g1,g2⟩
  ·obtain⟨a1,a2,a3⟩:=hout k' e (ZI g1)
   rcases a3 with a3|a3|a3
   ·obtain⟨st,nw,c,T,hk⟩:=h1 k' a3.1
    rw[hιk k' a3.2];exact h.pos k' _ hk rfl
   ·rw[a3.1]
    rcases hιn a3.2 with q4|⟨j,q4,q5⟩
    ·rw[q4];exact hfr.1
    ·obtain⟨st,nw,t,T,xs,hl⟩:=h2 j q4
     rw[q5];exact h.pos j _ hl rfl
   ·rw[a3.2]at ho;cases ho
  ·rw[hιk k' (h.mn k' e g2).2];exact h.pos k' e g2 ho
def uN(n:Nat):List Nat→MS
 | []=>[]
 |k::l=>(k,n,.dead)::uN n l
theorem Yh{n k:Nat}{e:Nat×MV}:∀ {l:List Nat},look (uN n l) k=some e→e=(n,.dead)∧k∈l
 | [],h=>nomatch h
 |j::l,h=>by
  rcases zD h with ⟨h1,h2⟩|⟨_,h2⟩
  ·subst h1 h2;exact⟨rfl,by simp⟩
  ·obtain⟨g1,g2⟩:=Yh h2;exact⟨g1,by simp[g2]⟩
theorem tn{n k:Nat}:∀ {l:List Nat},look (uN n l) k=none→k ∉ l
 | [],_=>by simp
 |j::l,h=>by
  simp only[uN,look]at h
  cases hb:Nat.beq j k with
  |true=>rw[hb]at h;cases h
  |false =>
   rw[hb]at h;rw[zV]at hb;simp only[zLH,not_or];exact⟨fun e=>by simp[e]at hb,tn h⟩
theorem RelX.zGM{f:FuncId}{all:List Nat}(h:RelX F s a w X){G:FE}(hG:FOk X.P G){l:List CQ}{ks:List Nat}{x:CR l}{y:CB l}{qs:List (Option Nat)}(hi:gL G f all s.M l ks=some (x,y,qs))
  {bl:List Nat} (hb:BKs X ks bl) {O':zR} {w':World} (hK:KeepK (WK X bl qs) X.O w O' w') :
  ∃X',RelX F { L:=s.L,M:=uN s.n (ks++yf qs)++s.M,n:=s.n+1,ep:=s.n } a w' X'∧X'.O=O'∧X'.P=X.P:=by
 obtain⟨h1,h2,_⟩:=Ki hG h.m (fr:=0) hi;have hWW:=fun {b} hw=>h.inW h1 h2 hb (b:=b) hw
 have hkeep:∀t,(∀k e,(k∈ks∨some k∈qs)→look s.M k=some e→e.2.own=true→X.ι k≠t)→zg t X.O w O' w':=fun t ht=>⟨hK.size,fun b hb hbt=>by
  have hn:¬WK X bl qs b:=fun hw=>by
   obtain⟨_,_,k,e,g1,g2,g3,g4⟩:=hWW hw;exact ht k e g1 g2 g3 (g4.symm.trans hbt)
  exact⟨(hK.tag b hb hn).trans hbt,hK.block b hb hn⟩⟩
 have hmem:∀ {k},(k∈ks∨some k∈qs)↔k∈ks++yf qs:=fun {k}=>by rw[zLM,YY]
 let X':Cx:={ X with O:=O',n:=s.n+1,ep:=s.n }
 refine⟨X',h.go h.fit rfl rfl rfl (fun j hj=>hkeep j fun k e _ g2 g3 heq=>?_) (fun _ _=>rfl) rfl rfl (zLO _) (zLO _) (h.zAW (fun b hw=>(hWW hw).1) hK) (fun hf=>absurd (hf:s.n≤F.fe) (Nat.not_le.2 h.fe)) (fun _ _ _=>rfl) (fun t e he=>.inr ⟨he,rfl,fun hfr hf=>?_⟩) (fun k' e he=>?_) (fun j k' e e' he he' ho ho' heq=>?_) (fun k' e he ho=>?_),rfl,rfl⟩
 ·have:=h.pos k e g2 g3
  rcases hj with rfl|rfl
  ·exact this.1 heq
  ·exact this.2 heq
 ·have:=h.ln t e he
  simp only[fresh,hfr,Bool.not_true,Bool.false_or]at hf;rw[jr]at hf;have hf':s.n≤e.1:=of_decide_eq_true hf
  omega
 ·rcases gE he with g1|⟨g1,g2⟩
  ·obtain⟨rfl,g3⟩:=Yh g1
   refine .inl ⟨zLP _,?_,trivial⟩;rcases hmem.2 g3 with g4|g4
   ·obtain⟨_,_,_,_,g5⟩:=h1 k' g4;exact Nat.lt_succ_of_lt (h.mn k' _ g5).2
   ·obtain⟨_,_,_,_,_,g5⟩:=h2 k' g4;exact Nat.lt_succ_of_lt (h.mn k' _ g5).2
  ·refine .inr ⟨g2,rfl,fun ho=>hkeep _ fun k e' g3 g4 g5 heq=>?_⟩
   have:=h.inj k k' e' e g4 g2 g5 ho heq;subst this;exact tn g1 (hmem.1 g3)
 ·have key:∀ {k e},look (uN s.n (ks++yf qs)++s.M) k=some e→e.2.own=true→look s.M k=some e:=fun {k e} he ho=>by
   rcases gE he with g1|⟨_,g2⟩
   ·rw[(Yh g1).1]at ho;cases ho
   ·exact g2
  exact h.inj j k' e e' (key he ho) (key he' ho') ho ho' heq
 ·rcases gE he with g1|⟨_,g2⟩
  ·rw[(Yh g1).1]at ho;cases ho
  ·exact h.pos k' e g2 ho
end
end Go.Den
end
