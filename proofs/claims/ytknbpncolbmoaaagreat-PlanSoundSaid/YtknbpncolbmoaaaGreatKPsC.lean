/- Lemmas behind a claim. -/
import Derived.Test.YtknbpncolbmoaaaGreatKPsB
set_option linter.unusedSimpArgs false
set_option linter.unusedVariables false
open Go.Lift.Comp (run_bind)
section
namespace Go.Den
open Go Go.RowKit Go.Eng Go.Lift
variable {α β γ δ:Type}
def j9(xs:List α)(m:Int)(v:α):List α:=xs.set m.toNat v
def Ay(E:VE)(s:S)(i:TI)(k off:Nat)(ψ:AV)(c:S->Comp β):Comp β:=match look s.M k with
 |some (_,.bx nw φ T')=>match ψ.IA && (ψ.q8 && (!ψ.zg && Nat.beq ψ.sz i.sz)),AV.rM ψ i.sz (vO i.dd) φ true off with
  |true,some φ'=>match φ'.zg with
   |false=>c (s.mod k (.bx nw φ' T'))
   |true=>Comp.fail
  |_,_=>Comp.fail
 |_=>Comp.fail
def Ax(E:VE)(s:S)(Y:TypeId)(i:TI)(k:Nat)(m:Int)(esz off2:Nat)(ψ:AV)(c:S->Comp β):Comp β:=match look s.M k with
 |some (_,.sl nw t T xs)=>match Nat.beq off2 0 && (Nat.beq i.sz esz && (Nat.beq t.sz i.sz && Nat.beq T Y)),ψ.asT E.G s.M t with
  |true,some v=>c (s.mod k (.sl nw t T (j9 xs m v)))
  |_,_=>Comp.fail
 |_=>Comp.fail
def Aw(E:VE)(s:S)(i:TI)(k:Nat)(m:Int)(esz off2:Nat)(ψ:AV)(c:S->Comp β):Comp β:=match look s.M k with
 |some (_,.sl nw t T xs)=>match Nat.beq t.sz esz && (t.agg && Nat.beq i.τ.sz i.sz),CZ t off2 i.τ,ψ.asT E.G s.M i.τ with
  |true,some f,some v=>(idx xs m).bind fun z=>c (s.mod k (.sl nw t T (j9 xs m (f z v))))
  |_,_,_=>Comp.fail
 |_=>Comp.fail
def Az(E:VE)(s:S)(i:TI)(k off sz:Nat)(m:Int)(esz off2:Nat)(ψ:AV)(c:S->Comp β):Comp β:=match look s.M k with
 |some (_,.bx nw φ T')=>match (φ.at_ sz true true off).bind (Hm E.G s.M (sz / esz) i.τ) with
  |some q=>match Nat.beq off2 0 && (Nat.beq i.sz esz && (Nat.beq q.2.1.sz i.sz && (Nat.beq (q.1 * esz) sz && Nat.blt 0 esz))),ψ.asT E.G s.M q.2.1 with
   |true,some v=>match AV.rM (.rd (.arr q.1 q.2.1) (j9 q.2.2 m v)) sz true φ true off with
    |some φ'=>match φ'.zg with
     |false=>c (s.mod k (.bx nw φ' T'))
     |true=>Comp.fail
    |none=>Comp.fail
   |_,_=>Comp.fail
  |none=>Comp.fail
 |_=>Comp.fail
def nv(E:VE)(s:S)(Y:TypeId)(φ ψ:Option AV)(c:S->Comp β):Comp β:=match look E.T Y,φ,ψ with
 |some i,some φ,some ψ=>match φ with
  |.bx k off=>Ay E s i k off ψ c
  |.el k m esz off2=>match Nat.beq off2 0 && Nat.beq i.sz esz with
   |true=>Ax E s Y i k m esz off2 ψ c
   |false=>Aw E s i k m esz off2 ψ c
  |.ba k off sz m esz off2=>Az E s i k off sz m esz off2 ψ c
  |_=>Comp.fail
 |_,_,_=>Comp.fail
section
variable {F:Frm} {s:S} {a:Act} {w:World} {X:Cx} {E:VE}
variable {d:Option Tmp} {T Y:TypeId} {pos:String} {aft:Array Edge} {g:Option (Nat×Bool)} {k:S->Comp β}
theorem Cx.KL{X X':Cx}(h1:X'.A=X.A)(h2:X'.F=X.F):X'.B=X.B:=by funext nw;cases nw<;>simp[Cx.B,h1,h2]
theorem DA(hE:E.ok X.P)(h:RelX F s a w X){x z:Operand}:gG F s a w ⟨none,.store Y x z,T,pos,aft,g⟩ (nv E s Y (rdO s.ep s.L [] [] x) (rdO s.ep s.L [] [] z) k) k:=by
 intro nf y hr K Q hK;rw[<-h.P];rw[<-h.ep]at hr;unfold nv at hr;split at hr
 ·rename_i i φ ψ hi hφ hψ
  have ht:=(hE.T Y i hi).ty;have k1:=h.rd #[x] x φ (by simp) hφ
  have k2:=h.rd #[z] z ψ (by simp) hψ
  split at hr
  ·rename_i kk off
   unfold Ay at hr;split at hr
   ·rename_i st nw φ0 T' hk
    split at hr
    ·rename_i φ' hb hp
     simp only[zLR]at hb;obtain⟨b1,b2,b3,b4⟩:=hb;split at hr
     ·rename_i fY
      obtain⟨b,cs,m1,m2,m3,m4⟩:=h.m kk _ hk;obtain⟨_,b',m5,m6⟩:=k1;rw[m1]at m5;cases m5;have hv:=AV.v_c b1 k2
      have hl:=AV.len ψ hv;rw[zLQ b4]at hl;obtain⟨p1,p2⟩:=AV.EY φ0 hp m3;have p3:=p2 _ hl hv
      rw[<-hl]at ht;have lR:ZI cs.toList off (a.eval z).cells.toList=cs.toList.take off++((a.eval z).cells.toList++cs.toList.drop (off+i.sz)):=by
       unfold ZI;rw[hl]
      refine tD h.ok0 h.base (h.okB nw) ht m6 rfl (vs:=(a.eval z).cells.toList) (by simp) (AV.Q5 ψ b2 hv) m2 (by rw[hl];simpa using p1) rfl fun w' q1 q2 q3=>hK _ undef _ (h.mod hk rfl q2 q3 fun X' e1 e2 e3 e4 e5 e6 fT=>?_) (Inv.mod _ _ _) hr
      refine⟨b,(ZI cs.toList off (a.eval z).cells.toList).toArray,by rw[e5];exact m1,?_,?_,fY⟩
      ·rw[e6,e4,Cx.KL e2 e3];exact q1
      ·show (φ'.sem X' w').c (ZI cs.toList off (a.eval z).cells.toList)
       rw[lR];exact(φ'.mono fT fun hh=>by rw[fY]at hh;cases hh).2.2 _ p3
     ·cases hr
    ·cases hr
   ·cases hr
  ·rename_i kk m esz off2
   split at hr
   rotate_left
   ·unfold Aw at hr
    split at hr
    ·rename_i st nw t T' xs hk
     split at hr
     ·rename_i f v hb hf hv
      simp only[zLR]at hb;obtain⟨b1,b2,b3⟩:=hb;obtain⟨zx,hz,hr⟩:=run_bind hr;obtain⟨_,m2,⟨p,nn,cc,m3,m4⟩,m5⟩:=k1;have hO:=h.m kk _ hk
      have hrv:=AV.Z1 hE.G h.m hv k2;have fC:=h.pos kk _ hk rfl
      refine C1 hf b2 (zLQ b1) h.ok0 h.base (h.okB nw) ht (zLQ b3) rfl m5 hO rfl hrv hz fC.1 fun w' q1 q2 q3=>hK _ undef _ (h.mod hk rfl q2 q3 fun X' e1 e2 e3 e4 e5 e6 fT=>?_) (Inv.mod _ _ _) hr
      show zo _ _ _ _ _ _ _ _
      rw[e6,e1,e4,e5,Cx.KL e2 e3];exact q1
     ·cases hr
    ·cases hr
   unfold Ax at hr;split at hr
   ·rename_i st nw t T' xs hk
    split at hr
    ·rename_i v hb hv
     simp only[zLR]at hb;obtain⟨b1,b2,b3,b4⟩:=hb;have b1:=zLQ b1
     have b2:=zLQ b2;have b3:=zLQ b3
     have b4:=zLQ b4;subst b1 b4;obtain⟨_,m2,⟨p,nn,cc,m3,m4⟩,m5⟩:=k1;have hO:=h.m kk _ hk
     have kA:nn=xs.length:=by
      obtain⟨vs,g1,g2,_⟩:=hO;obtain⟨ad,cap,g3,_⟩:=g1.slv;rw[m3]at g3;cases g3;exact g2.len
     have hrv:=AV.Z1 hE.G h.m hv k2;have fC:=h.pos kk _ hk rfl
     rw[<-b2]at m5;refine C4 (r:=t.gr X.P) (Ty.fits X.P _) (by rw[Ty.yh,b3]) h.ok0 h.base (h.okB nw) (n:=0) (ys:=xs.set m.toNat v) ht rfl m5 hO rfl hrv (by unfold Go.Lift.upd;rw[zLr ⟨m2,by omega⟩];rfl) fC.1 fun w' q1 q2 q3=>hK _ undef _ (h.mod hk rfl q2 q3 fun X' e1 e2 e3 e4 e5 e6 fT=>?_) (Inv.mod _ _ _) hr
     show zo _ _ _ _ _ _ _ _
     rw[e6,e1,e4,e5,Cx.KL e2 e3];exact q1
    ·cases hr
   ·cases hr
  ·rename_i kk off sz m esz off2
   unfold Az at hr;split at hr
   ·rename_i st nw φ0 T' hk
    split at hr
    ·rename_i q hq
     split at hr
     ·rename_i v hb hv
      simp only[zLR]at hb;obtain⟨b1,b2,b3,b4,b5⟩:=hb;have b1:=zLQ b1
      have b2:=zLQ b2;have b3:=zLQ b3
      have b4:=zLQ b4;rw[zX]at b5;have h0:0<esz:=by simpa using b5
      subst b1;split at hr
      ·rename_i φ' hp
       split at hr
       ·rename_i fY
        obtain⟨b,cs,m1,m2,m3,m4⟩:=h.m kk _ hk;obtain⟨_,m7,m8,b',m5,m6⟩:=k1;rw[m1]at m5;cases m5
        cases bT:φ0.at_ sz true true off with
        |none=>rw[bT]at hq;cases hq
        |some ψ0 =>
         rw[bT]at hq;obtain⟨c1,c2,c3,f1,f2,f3,f4,_,_⟩:=(AV.IC φ0 bT m3).h;obtain⟨l1,l2⟩:=SB hE.G h.m hq f4;have f8:(q.2.1.gr X.P).sz=esz:=by rw[Ty.yh,b3,b2]
         have hrv:=AV.Z1 hE.G h.m hv k2;have o9:=uR hrv
         have hl:=(q.2.1.gr X.P).len o9;rw[f8]at hl;have gF:m.toNat<q.2.2.length:=by
          rw[l1];have:m.toNat * esz+esz<=q.1 * esz:=by rw[b4];exact m8
          have:(m.toNat+1) * esz<=q.1 * esz:=by rw[Nat.add_mul,Nat.one_mul];exact this
          exact Nat.le_of_mul_le_mul_right this h0
         obtain⟨d1,d2,d3,g1,g2,g3,g4,g5⟩:=jf.split l2 m.toNat q.2.2[m.toNat] (by simp[gF])
         have g6:=g5 v _ o9;rw[f8]at g2 g3;have hds:(d1++((a.eval z).cells.toList++d3)).length=sz:=by
          rw[<-f3,g1];simp only[zLS];omega
         obtain⟨p1,p2⟩:=AV.EY φ0 hp m3;have p3:=p2 _ hds ⟨by unfold j9;rw[List.length_set];exact l1,g6⟩
         have hi:i.sz=(a.eval z).cells.toList.length:=by rw[hl];exact b2
         rw[hi]at ht;have lR:ZI cs.toList (off+m.toNat * esz+0) (a.eval z).cells.toList=cs.toList.take off++((d1++((a.eval z).cells.toList++d3))++cs.toList.drop (off+sz)):=by
          unfold ZI;rw[hl,f1,g1];have a1:(c1++(d1++(d2++d3)++c3)).take (off+m.toNat * esz+0)=c1++d1:=by
           rw[show c1++(d1++(d2++d3)++c3)=(c1++d1)++(d2++d3++c3) by simp[zLl]]
           rw[List.take_append_of_le_length (by simp only[zLS];omega),List.take_of_length_le (by simp only[zLS];omega)]
          have a2:(c1++(d1++(d2++d3)++c3)).drop (off+m.toNat * esz+0+esz)=d3++c3:=by
           rw[show c1++(d1++(d2++d3)++c3)=(c1++d1++d2)++(d3++c3) by simp[zLl]]
           rw[List.drop_append_of_le_length (by simp only[zLS];omega),List.drop_of_length_le (by simp only[zLS];omega),List.nil_append]
          have a3:(c1++(d1++(d2++d3)++c3)).take off=c1:=by
           rw[List.take_append_of_le_length (by omega),List.take_of_length_le (by omega)]
          have a4:(c1++(d1++(d2++d3)++c3)).drop (off+sz)=c3:=by
           have:(d1++(d2++d3)).length=sz:=by rw[<-g1];exact f3
           rw[show c1++(d1++(d2++d3)++c3)=(c1++(d1++(d2++d3)))++c3 by simp[zLl]]
           rw[List.drop_append_of_le_length (by simp only[zLS]at this |-;omega),List.drop_of_length_le (by simp only[zLS]at this |-;omega),List.nil_append]
          rw[a1,a2,a3,a4];simp[zLl]
         have lV:off+m.toNat * esz+0+(a.eval z).cells.toList.length<=cs.size:=by
          rw[hl];have:cs.size=cs.toList.length:=by simp
          rw[this];omega
         refine tD h.ok0 h.base (h.okB nw) ht m6 rfl (vs:=(a.eval z).cells.toList) (by simp) ((q.2.1.gr X.P).one o9) m2 lV rfl fun w' q1 q2 q3=>hK _ undef _ (h.mod hk rfl q2 q3 fun X' e1 e2 e3 e4 e5 e6 fT=>?_) (Inv.mod _ _ _) hr
         refine⟨b,(ZI cs.toList (off+m.toNat * esz+0) (a.eval z).cells.toList).toArray,by rw[e5];exact m1,?_,?_,fY⟩
         ·rw[e6,e4,Cx.KL e2 e3];exact q1
         ·show (φ'.sem X' w').c (ZI cs.toList (off+m.toNat * esz+0) (a.eval z).cells.toList)
          rw[lR];exact(φ'.mono fT fun hh=>by rw[fY]at hh;cases hh).2.2 _ p3
       ·cases hr
      ·cases hr
     ·cases hr
    ·cases hr
   ·cases hr
  ·cases hr
 ·cases hr
def JU:List (Option TypeId)->Ty->Bool
 |none::ks,.cons a b=>a.closed && JU ks b
 | [],.nil=>true
 |_,_=>false
def slT:(a:Ty)->a.D->Option ((t:Ty)×List t.D)
 |.sl e,y=>some ⟨e,y⟩
 |_,_=>none
def YN:List (Option TypeId)->(rs:Ty)->rs.D->Option (TypeId×(t:Ty)×List t.D)
 |some T::ks,.cons a b,y=>match JU ks b,slT a y.1 with
  |true,some q=>some (T,q)
  |_,_=>none
 |none::ks,.cons a b,y=>match a.closed with
  |true=>YN ks b y.2
  |false=>none
 |_,_,_=>none
def Hd(k:Nat):List (Option TypeId)->(rs:Ty)->rs.D->AV
 |some _::ks,.cons _ b,y=>.pr (.ob k) (Hd k ks b y.2)
 |none::ks,.cons a b,y=>.pr (.rd a y.1) (Hd k ks b y.2)
 |_,_,_=>.un
def Hw(k:Nat)(ks:List (Option TypeId))(rs:Ty)(y:rs.D):AV:=match Hd k ks rs y with
 |.pr φ .un=>φ
 |φ=>.tp φ
theorem wW{P:Program}{O:zR}{B:Nat}{w1:World}{k:Nat}:∀ {ks:List (Option TypeId)} {rs:Ty} {y:rs.D} {vs:List Value},JU ks rs=true->Y0 P O B w1 ks rs vs y->∀(X':Cx) (w2:World),X'.P=P->((Hd k ks rs y).sem X' w2).l vs
 |none::ks,.cons a b,y,vs,hc,h,X',w2,hP=>by
  simp only[JU,zLR]at hc;obtain⟨v,vs',h1,h2,h3,_⟩:=h;refine⟨v,vs',h1,?_,wW hc.2 h3 X' w2 hP⟩;show (a.gr X'.P).v _ _ _ _
  rw[hP];exact XO hc.1 h2
 | [],.nil,y,vs,hc,h,X',w2,hP=>h
 | [],.int _,_,_,h,_,_,_,_ | [],.bool,_,_,h,_,_,_,_ | [],.str,_,_,h,_,_,_,_ | [],.sl _,_,_,h,_,_,_,_ | [],.cons ..,_,_,h,_,_,_,_ | [],.arr ..,_,_,h,_,_,_,_ | [],.box ..,_,_,h,_,_,_,_ | [],.fn ..,_,_,h,_,_,_,_ | [],.seq ..,_,_,h,_,_,_,_ | [],.slo ..,_,_,h,_,_,_,_ | [],.mp ..,_,_,h,_,_,_,_=>by cases h
 |some _::_,.int _,_,_,h,_,_,_,_|some _::_,.bool,_,_,h,_,_,_,_|some _::_,.str,_,_,h,_,_,_,_|some _::_,.sl _,_,_,h,_,_,_,_|some _::_,.nil,_,_,h,_,_,_,_|some _::_,.cons ..,_,_,h,_,_,_,_|some _::_,.arr ..,_,_,h,_,_,_,_|some _::_,.box ..,_,_,h,_,_,_,_|some _::_,.fn ..,_,_,h,_,_,_,_|some _::_,.seq ..,_,_,h,_,_,_,_|some _::_,.slo ..,_,_,h,_,_,_,_|some _::_,.mp ..,_,_,h,_,_,_,_=>by cases h
 |none::_,.int _,_,_,h,_,_,_,_|none::_,.bool,_,_,h,_,_,_,_|none::_,.str,_,_,h,_,_,_,_|none::_,.sl _,_,_,h,_,_,_,_|none::_,.nil,_,_,h,_,_,_,_|none::_,.arr ..,_,_,h,_,_,_,_|none::_,.box ..,_,_,h,_,_,_,_|none::_,.fn ..,_,_,h,_,_,_,_|none::_,.seq ..,_,_,h,_,_,_,_|none::_,.slo ..,_,_,h,_,_,_,_|none::_,.mp ..,_,_,h,_,_,_,_=>by cases h
theorem Qx:∀ {a:Ty} {y:a.D} {q:(t:Ty)×List t.D},slT a y=some q->∃e:a=.sl q.1,Ty.cast e y=q.2
 |.sl e,y,q,h=>by cases h;exact⟨rfl,rfl⟩
 |.int _,_,_,h|.bool,_,_,h|.str,_,_,h|.nil,_,_,h|.cons ..,_,_,h|.arr ..,_,_,h|.box ..,_,_,h|.fn ..,_,_,h|.seq ..,_,_,h|.slo ..,_,_,h|.mp ..,_,_,h=>by cases h
theorem Jl{P:Program}{O:zR}{B:Nat}{w1:World}{k:Nat}:∀ {ks:List (Option TypeId)} {rs:Ty} {y:rs.D} {vs:List Value} {q:TypeId×(t:Ty)×List t.D},YN ks rs y=some q->Y0 P O B w1 ks rs vs y ->
  ∃u,kx (q.2.1.gr P) q.1 B O w1 u q.2.2/\∀(X':Cx),X'.P=P->X'.U k=u->k<X'.n->u.oneCell'=true->((Hd k ks rs y).sem X' w1).l vs
 |some T::ks,.cons a b,y,vs,q,hq,h=>by
  simp only[YN]at hq;split at hq
  ·rename_i q' hc hs
   cases hq
   obtain⟨v,vs',h1,h2,h3,_⟩:=h;obtain⟨e,he⟩:=Qx hs;subst e;refine⟨v,?_,fun X' hP hU hk hv1=>⟨v,vs',h1,⟨hU.symm,hk,hv1⟩,wW hc h3 X' w1 hP⟩⟩
   rw[<-he];exact h2
  ·cases hq
 |none::ks,.cons a b,y,vs,q,hq,h=>by
  simp only[YN]at hq;split at hq
  ·rename_i hc
   obtain⟨v,vs',h1,h2,h3,_⟩:=h;obtain⟨u,h4,h5⟩:=Jl (k:=k) hq h3;refine⟨u,h4,fun X' hP hU hk hv1=>⟨v,vs',h1,?_,h5 X' hP hU hk hv1⟩⟩
   show (a.gr X'.P).v _ _ _ _
   rw[hP];exact XO hc h2
  ·cases hq
 | [],_,_,_,_,h,_=>by cases h
 |_::_,.int _,_,_,_,h,_|_::_,.bool,_,_,_,h,_|_::_,.str,_,_,_,h,_|_::_,.sl _,_,_,_,h,_|_::_,.nil,_,_,_,h,_|_::_,.arr ..,_,_,_,h,_|_::_,.box ..,_,_,_,h,_|_::_,.fn ..,_,_,_,h,_|_::_,.seq ..,_,_,_,h,_|_::_,.slo ..,_,_,_,h,_|_::_,.mp ..,_,_,_,h,_=>by simp[YN]at h
theorem Ge{X':Cx}{w1:World}{k:Nat}{ks:List (Option TypeId)}{rs:Ty}{y:rs.D}{vs:List Value}{v:Value}(h:((Hd k ks rs y).sem X' w1).l vs)(fC:vs≠[])(ht:kP vs v):(Hw k ks rs y).holds X' w1 v:=by
 have hv:v=tup vs:=ht.resolve_left fC;unfold Hw;split
 ·rename_i φ hφ
  rw[hφ]at h;obtain⟨v1,bI,h1,h2,h3⟩:=h;rw[show bI=[] from h3]at h1
  rw[hv,h1];exact h2
 ·rename_i φ hφ
  match vs,fC with
  | [v1],_ =>
   exfalso;cases hL:Hd k ks rs y<;>rw[hL]at h<;>try exact h.elim
   ·cases h
   ·rename_i a b
    obtain⟨_,bI,h1,_,h3⟩:=h;cases h1;cases b<;>try exact h3.elim
    ·exact hφ _ hL
    ·obtain⟨_,_,h4,_⟩:=h3;cases h4
  |v1::v2::vs,_=>exact⟨_,h,hv⟩
end
theorem Gt{d:Nat}:∀ {l:List Nat},d∈l->vf d l=true
 | [],h=>nomatch h
 |e::l,h=>by
  unfold vf
  cases hb:Nat.beq e d with
  |true=>rfl
  |false =>
   rcases zLV.1 h with rfl|h
   ·rw[Nat.beq_refl]at hb;cases hb
   ·exact Gt h
theorem vw{α:Type}{l m:List (Nat×α)}{t:Nat}{e:α}(h:look (l++m) t=some e):look l t=some e\/(look l t=none/\look m t=some e):=by
 induction l with
 |nil=>exact .inr ⟨rfl,h⟩
 |cons p l ih =>
  simp only[List.cons_append,look]at h |-
  cases hb:Nat.beq p.1 t with
  |true=>rw[hb]at h;exact .inl h
  |false=>rw[hb]at h;exact ih h
def AV.els:AV->List AV
 |.pr a b=>a::b.els
 |_=>[]
theorem AV.Rx{X:Cx}{w:World}(φ:AV):∀ {vs:List Value},(φ.sem X w).l vs->vs.length=φ.els.length/\∀(i:Nat) ψ v,φ.els[i]?=some ψ->vs[i]?=some v->ψ.holds X w v:=by
 induction φ with
 |pr a b iha ihb =>
  intro vs h;obtain⟨v,vs',rfl,h1,h2⟩:=h;obtain⟨h3,h4⟩:=ihb h2;refine⟨by simp[AV.els,h3],fun i ψ u hi hu=>?_⟩
  cases i with
  |zero=>simp only[AV.els,List.getElem?_cons_zero,zLo]at hi hu;subst hi hu;exact h1
  |succ i=>simp only[AV.els,List.getElem?_cons_succ]at hi hu;exact h4 i ψ u hi hu
 |un=>intro vs h;rw[show vs=[] from h];exact⟨rfl,fun i ψ u hi=>by simp[AV.els]at hi⟩
 |_=>intro vs h;exact False.elim h
def mIn(G:FE)(M:MS):List (Option TypeId)->(ps:Ty)->List AV->Option (ps.D×List Nat)
 |some T::io,.cons (.box e) q,φ::l=>match φ with
  |.bx k off=>match off,look M k with
   |0,some (_,.bx _ c T')=>match Nat.beq T T',c.asT G M e,mIn G M io q l with
    |true,some x,some p=>match vf k p.2 with
     |false=>some ((x,p.1),k::p.2)
     |true=>none
    |_,_,_=>none
   |_,_=>none
  |_=>none
 |none::io,.cons a q,φ::l=>match φ.asT G M a,mIn G M io q l with
  |some x,some p=>some ((x,p.1),p.2)
  |_,_=>none
 | [],.nil,[]=>some ((),[])
 |_,_,_=>none
inductive MSh:List (Option TypeId)->Ty->List AV->Prop
 |n:MSh [] .nil []
 |b {T io e q φ l}:MSh (some T::io) (.cons (.box e) q) (φ::l)
 |v {io a q φ l}:MSh (none::io) (.cons a q) (φ::l)
theorem w7{G:FE}{M:MS}{io:List (Option TypeId)}{ps:Ty}{l:List AV}{r}(h:mIn G M io ps l=some r):MSh io ps l:=by
 cases io with
 |nil=>cases ps<;>cases l<;>first|exact .n|(simp[mIn]at h)
 |cons o io =>
  cases o with
  |none=>cases ps<;>cases l<;>first|exact .v|(simp[mIn]at h)
  |some T =>
   cases ps with
   |cons p q=>cases p<;>cases l<;>first|exact .b|(simp[mIn]at h)
   |_=>cases l<;>(simp[mIn]at h)
theorem mU{G:FE}{M:MS}{T io e q φ l}{x:(Ty.cons (.box e) q).D}{ks:List Nat}(h:mIn G M (some T::io) (.cons (.box e) q) (φ::l)=some (x,ks)) :
  ∃k st nw c ks',φ=.bx k 0/\look M k=some (st,.bx nw c T)/\c.asT G M e=some x.1/\mIn G M io q l=some (x.2,ks')/\ks=k::ks'/\vf k ks'=false:=by
 unfold mIn at h;split at h
 ·rename_i k off
  split at h
  ·rename_i st nw c T' hk
   split at h
   ·rename_i x1 p hT hc hp
    split at h
    ·rename_i sK
     cases h
     have xP:T=T':=zLQ hT;subst xP;exact⟨k,st,nw,c,p.2,rfl,hk,hc,hp,rfl,sK⟩
    ·cases h
   ·cases h
  ·cases h
 ·cases h
theorem mT{G:FE}{M:MS}{io a q φ l}{x:(Ty.cons a q).D}{ks:List Nat}(h:mIn G M (none::io) (.cons a q) (φ::l)=some (x,ks)):φ.asT G M a=some x.1/\mIn G M io q l=some (x.2,ks):=by
 unfold mIn at h;split at h
 ·rename_i x1 p hx hp;cases h;exact⟨hx,hp⟩
 ·cases h
def BK(X:Cx):List Nat->List Nat->Prop
 | [],[]=>True
 |k::ks,b::bl=>X.U k=.pointer (some ⟨b,0,none⟩)/\X.O b=X.ι k/\BK X ks bl
 |_,_=>False
def UY(M:MS)(k:Nat):Prop:=∃e,look M k=some e/\e.2.own=true
theorem zDs{X:Cx}{w:World}{G:FE}(hG:FOk X.P G){M:MS}(hM:yD M X w)(cZ:∀k k' e e',look M k=some e->look M k'=some e'->e.2.own=true->e'.2.own=true->X.ι k=X.ι k'->k=k')(sQ:∀k e,look M k=some e->e.2.own=true->X.ι k≠0) :
  ∀ {io:List (Option TypeId)} {ps:Ty} {l:List AV} {x:ps.D} {ks:List Nat} {vs:List Value},mIn G M io ps l=some (x,ks)->vs.length=l.length->(∀(i:Nat) φ v,l[i]?=some φ->vs[i]?=some v->φ.holds X w v) ->
   ∃bl,MIn X.P X.O w io ps bl vs x/\BK X ks bl/\(∀k∈ks,UY M k)/\(∀b∈bl,∃k∈ks,X.O b=X.ι k):=by
 intro io
 induction io with
 |nil =>
  intro ps l x ks vs h hl hv;cases w7 h;simp only[mIn]at h;cases h;have:vs=[]:=List.length_eq_zero_iff.1 hl
  subst this;exact⟨[],⟨rfl,rfl⟩,trivial,by simp,by simp⟩
 |cons o io ih =>
  intro ps l x ks vs h hl hv
  cases w7 h with
  | @b T _ e q φ l' =>
   obtain⟨k,st,nw,c,ks',rfl,hk,hc,hp,rfl,sK⟩:=mU h
   cases vs with
   |nil=>simp at hl
   |cons v vs' =>
   have hφ:=hv 0 _ v rfl rfl;obtain⟨b,cs,h1,h2,h3,h4⟩:=hM k _ hk;obtain⟨_,b',h5,rfl⟩:=(hφ:k<X.n/\∃b,X.U k=.pointer (some ⟨b,0,none⟩)/\v=.pointer (some ⟨b,0,none⟩));rw[h1]at h5;simp only[Value.pointer.injEq,zLo,Addr.mk.injEq,and_true]at h5;subst h5;obtain⟨bl,g1,g2,g3,g4⟩:=ih (vs:=vs') (l:=l') hp (by simpa using hl) (fun i φ v hi hv'=>hv (i+1) φ v (by simpa using hi) (by simpa using hv'))
   have bU:UY M k:=⟨_,hk,rfl⟩;have hnk:k ∉ ks':=fun fX=>by rw[Gt fX]at sK;cases sK
   refine⟨b::bl,⟨b,bl,vs',cs,rfl,rfl,h2.own,?_,fun c' hc'=>?_,(AV.jS hG c hM).vc hc h3,g1⟩,⟨h1,h2.tag,g2⟩,fun j hj=>?_,fun c' hc'=>?_⟩
   ·rw[h2.tag];exact sQ k _ hk rfl
   ·obtain⟨j,hj,cM⟩:=g4 c' hc'
    rw[h2.tag,cM];obtain⟨e',he',ho'⟩:=g3 j hj;intro fH;exact hnk (cZ j k _ _ he' hk ho' rfl fH ▸ hj)
   ·rcases zLV.1 hj with rfl|hj
    ·exact bU
    ·exact g3 j hj
   ·rcases zLV.1 hc' with rfl|hc'
    ·exact⟨k,by simp,h2.tag⟩
    ·obtain⟨j,hj,cM⟩:=g4 c' hc';exact⟨j,by simp[hj],cM⟩
  | @v _ a q φ l' =>
   obtain⟨hx,hp⟩:=mT h
   cases vs with
   |nil=>simp at hl
   |cons v vs' =>
   obtain⟨bl,g1,g2,g3,g4⟩:=ih (vs:=vs') (l:=l') hp (by simpa using hl) (fun i φ v hi hv'=>hv (i+1) φ v (by simpa using hi) (by simpa using hv'))
   exact⟨bl,⟨v,vs',rfl,AV.Z1 hG hM hx (hv 0 φ v rfl rfl),g1⟩,g2,g3,g4⟩
def uN(M:MS)(n:Nat):(io:List (Option TypeId))->(ps:Ty)->List Nat->(ioT io ps).D->MS
 |some T::io,.cons (.box e) q,k::ks,y=>match look M k with
  |some (_,.bx nw _ _)=>(k,n,.bx nw (.rd e y.1) T)::uN M n io q ks y.2
  |_=>uN M n io q ks y.2
 |none::io,.cons _ q,ks,y=>uN M n io q ks y
 |_,_,_,_=>[]
theorem Gv{X X':Cx}{w w':World}{G:FE}{M:MS}(hM:yD M X w)(hP:X'.P=X.P)(hO:X'.O=X.O)(hU:X'.U=X.U)(hι:X'.ι=X.ι)(hA:X'.A=X.A)(hF:X'.F=X.F){n:Nat} :
  ∀ {io:List (Option TypeId)} {ps:Ty} {l:List AV} {x:ps.D} {ks bl:List Nat} {y:(ioT io ps).D},mIn G M io ps l=some (x,ks)->BK X ks bl->D4 X.P X.O w' io ps bl y ->
   (∀k e,look (uN M n io ps ks y) k=some e->e.1=n/\k∈ks/\e.2.holds X' w' k)/\(∀k∈ks,look (uN M n io ps ks y) k≠none):=by
 intro io
 induction io with
 |nil =>
  intro ps l x ks bl y h hb ho;cases w7 h;simp only[mIn]at h;cases h;exact⟨fun k e he=>(nomatch he),by simp⟩
 |cons o io ih =>
  intro ps l x ks bl y h hb ho
  cases w7 h with
  | @b T _ e q φ l' =>
   obtain⟨k,st,nw,c,ks',rfl,hk,hc,hp,rfl,sK⟩:=mU h;obtain⟨b0,cs0,h1,h2,h3,h4⟩:=hM k _ hk
   cases bl with
   |nil=>exact hb.elim
   |cons b bl =>
   obtain⟨tC,aT,hb3⟩:=hb;obtain⟨b',bl',cs,e1,h5,h6,h7⟩:=ho;cases e1;rw[h1]at tC;simp only[Value.pointer.injEq,zLo,Addr.mk.injEq,and_true]at tC;subst tC;obtain⟨g1,g2⟩:=ih hp hb3 h7;have em:uN M n (some T::io) (.cons (.box e) q) (k::ks') y=(k,n,.bx nw (.rd e y.1) T)::uN M n io q ks' y.2:=by
    simp only[uN];rw[hk]
   rw[em];refine⟨fun j f hf=>?_,fun j hj=>?_⟩
   ·rcases zD hf with ⟨e1,e2⟩|⟨e1,e2⟩
    ·subst e1 e2
     refine⟨rfl,by simp,b0,cs,by rw[hU];exact h1,⟨h5,?_,?_⟩,?_,rfl⟩
     ·rw[Cx.KL hA hF];exact h2.ge
     ·rw[hO,hι];exact aT
     ·show (e.gr X'.P).rel X'.O w' cs.toList y.1
      rw[hP,hO];exact h6
    ·obtain⟨a1,a2,a3⟩:=g1 j f e2;exact⟨a1,by simp[a2],a3⟩
   ·unfold look
    cases hkj:Nat.beq k j with
    |true=>simp[hkj]
    |false =>
     simp only[hkj,cond_false];refine g2 j ?_;rcases zLV.1 hj with rfl|hj
     ·rw[Nat.beq_refl]at hkj;cases hkj
     ·exact hj
  | @v _ a q φ l' =>
   obtain⟨hx,hp⟩:=mT h;exact ih hp hb ho
def mB(E:VE)(s:S)(d:Option Tmp)(φ:Option AV)(l:Option (List AV))(k:S->Comp β):Comp β:=match φ,l with
 |some (.cl f ca cb),some l=>match E.H f with
  |none=>Comp.fail
  |some fs=>match mIn E.G s.M fs.io fs.ps (ca.els++(l++cb.els)) with
   |some p=>(fs.sem p.1).bind fun y=>k (S.put { L:=s.L,M:=uN s.M s.n fs.io fs.ps p.2 y.1++s.M,n:=s.n+1,ep:=s.n } d (Cg fs.rs y.2))
   |none=>Comp.fail
 |_,_=>Comp.fail
section
variable {F:Frm} {s:S} {a:Act} {w:World} {X:Cx} {E:VE}
variable {d:Option Tmp} {T Y:TypeId} {pos:String} {aft:Array Edge} {g:Option (Nat×Bool)} {k:S->Comp β}
theorem nZ{f:FuncId}{x:Operand}{xs:Array Operand}{ts:Array TypeId}{fst cap:Array Value}{R:Ending->World->Prop}{K:Act->World->Prop}{Q:Exit->Act->World->Prop}{P:Program}(hf:FnOk P f)(hu:a.eval x=.func (.func f) fst cap)(h:Calls P f (fst++xs.map a.eval++cap) w R)
  (hK:∀e w',R e w'->∃v,e=.returned v/\K (a.put d v) w'):Oper.wp P ⟨d,.call ⟨.value x,xs,ts⟩,T,pos,aft,g⟩ a w K Q:=by
 obtain⟨fn,h1,h2,h3⟩:=hf.h;have hr:(execOp a.eval ⟨d,.call ⟨.value x,xs,ts⟩,T,pos,aft,g⟩).run P w=.ok (.enter f (fst++xs.map a.eval++cap)) w:=by
  simp only[execOp,resolve,hu,Deferred.ofValue,Sem.run_bind,Sem.run_pure,Result.andThen,invoke,callFunc,run_program,h1];simp[h2,h3]
 unfold Oper.wp;rw[hr];refine Calls.mono h fun e w' he=>?_
 obtain⟨v,rfl,hv⟩:=hK e w' he;exact hv
theorem RelX.zFE(h:RelX F s a w X)(hG:FOk X.P E.G){io:List (Option TypeId)}{ps:Ty}{l:List AV}{x:ps.D}{ks bl:List Nat}{y:(ioT io ps).D}{w':World}(hi:mIn E.G s.M io ps l=some (x,ks))(hb:BK X ks bl)(hk:∀k∈ks,UY s.M k)(hbl:∀b∈bl,∃k∈ks,X.O b=X.ι k)(hw:ButL bl w w')(ho:D4 X.P X.O w' io ps bl y) :
  RelX F { L:=s.L,M:=uN s.M s.n io ps ks y++s.M,n:=s.n+1,ep:=s.n } a w' { X with n:=s.n+1,ep:=s.n }:=by
 have fC:∀b,b∈bl->X.O b≠0/\X.O b≠F.x.st:=fun b hb=>by
  obtain⟨k,h1,h2⟩:=hbl b hb;obtain⟨e,h3,h4⟩:=hk k h1;rw[h2];exact h.pos k e h3 h4
 have sH:∀t,(∀b∈bl,X.O b≠t)->zb t X.O w X.O w':=fun t ht=>⟨hw.size,fun b hb aB=>⟨aB,hw.block b hb fun fX=>ht b fX aB⟩⟩
 let X':Cx:={ X with n:=s.n+1,ep:=s.n }
 have tP:=Gv (X:=X) (X':=X') (w:=w) (w':=w') (G:=E.G) (n:=s.n) h.m rfl rfl rfl rfl rfl rfl hi hb ho;have hA3:∀b∈bl,F.A b:=fun b hbin=>by
  have:∀ {ks bl:List Nat},BK X ks bl->(∀k∈ks,UY s.M k/\∃st nw c T,look s.M k=some (st,.bx nw c T))->∀b∈bl,F.A b:=by
   intro ks
   induction ks with
   |nil=>intro bl hb _ b fX;cases bl with|nil=>cases fX|cons=>exact hb.elim
   |cons k ks ih =>
    intro bl hb bV b fX
    cases bl with
    |nil=>cases fX
    |cons b' bl =>
     obtain⟨q1,q2,q3⟩:=hb;rcases zLV.1 fX with rfl|fX
     ·obtain⟨_,st,nw,c,T,hl⟩:=bV k (by simp)
      obtain⟨b0,cs0,e1,e2,_⟩:=h.m k _ hl;rw[q1]at e1;simp only[Value.pointer.injEq,zLo,Addr.mk.injEq,and_true]at e1;subst e1;exact(h.okB nw).sub _ e2.ge
     ·exact ih q3 (fun k' hk'=>bV k' (by simp[hk'])) b fX
  refine this hb (fun k bU=>⟨hk k bU,?_⟩) b hbin
  have hA4:∀ {io:List (Option TypeId)} {ps:Ty} {l:List AV} {x:ps.D} {ks:List Nat},mIn E.G s.M io ps l=some (x,ks)->∀k∈ks,∃st nw c T,look s.M k=some (st,.bx nw c T):=by
   intro io
   induction io with
   |nil =>
    intro ps l x ks h;cases w7 h;simp only[mIn]at h;cases h;simp
   |cons o io ih =>
    intro ps l x ks h
    cases w7 h with
    |b =>
     obtain⟨k,st,nw,c,ks',rfl,hk,hc,hp,rfl,sK⟩:=mU h;intro j hj;rcases zLV.1 hj with rfl|hj
     ·exact⟨_,_,_,_,hk⟩
     ·exact ih hp j hj
    |v =>
     obtain⟨hx,hp⟩:=mT h;exact ih hp
  exact hA4 hi k bU
 refine h.go h.fit rfl rfl rfl (fun j hj=>sH j fun b hb e=>by rcases hj with rfl|rfl;exact(fC b hb).1 e;exact(fC b hb).2 e) (fun _ _=>rfl) rfl rfl (zLc _) (zLc _) ?_ (fun hf=>zLh (hf:s.n<=F.fe) (Nat.not_le.2 h.fe)) (fun _ _ _=>rfl) (fun t e he=>.inr ⟨he,rfl,fun fY hf=>?_⟩) (fun k' e he=>?_) (fun j k' e e' he he' ho ho' fH=>?_) (fun k' e he ho=>?_)
 ·have hB:=h.base
  refine⟨hw.os.trans hB.os,hw.tape.trans hB.tape,hw.output.trans hB.output,zLY hB.size hw.size,fun b hb hA=>?_,fun b hb=>hB.ok b (zLY hw.size hb),hB.old,fun b hb h0=>?_,hB.new⟩
  ·rw[hw.block b (zLe hb hB.size) fun fX=>hA (hA3 b fX)];exact hB.block b hb hA
  ·by_cases gF:b<w.heap.size
   ·exact hB.zero b gF h0
   ·exact h.ok0 b (by have:=hB.size;omega)
 ·have:=h.ln t e he
  simp only[fresh,fY,Bool.not_true,Bool.false_or]at hf;rw[je]at hf;have hf':s.n<=e.1:=of_decide_eq_true hf
  omega
 ·rcases vw he with h1|⟨h1,h2⟩
  ·obtain⟨a1,a2,a3⟩:=tP.1 k' e h1
   obtain⟨e0,a4,a5⟩:=hk k' a2;have:=(h.mn k' e0 a4).2
   exact .inl ⟨by rw[a1];exact zLd _,Nat.lt_succ_of_lt this,a3⟩
  ·refine .inr ⟨h2,rfl,fun ho=>sH _ fun b hb fH=>?_⟩
   obtain⟨j,g1,g2⟩:=hbl b hb;obtain⟨e0,g3,g4⟩:=hk j g1;have:j=k':=h.inj j k' e0 e g3 h2 g4 ho (g2.symm.trans fH)
   subst this;exact tP.2 j g1 h1
 ·have key:∀ {k e},look (uN s.M s.n io ps ks y++s.M) k=some e->e.2.own=true->UY s.M k:=fun {k e} he ho=>by
   rcases vw he with h1|⟨h1,h2⟩
   ·exact hk k (tP.1 k e h1).2.1
   ·exact⟨e,h2,ho⟩
  obtain⟨e1,a1,a2⟩:=key he ho;obtain⟨e2,a3,a4⟩:=key he' ho';exact h.inj j k' e1 e2 a1 a3 a2 a4 fH
 ·rcases vw he with h1|⟨h1,h2⟩
  ·obtain⟨e0,a4,a5⟩:=hk k' (tP.1 k' e h1).2.1
   exact h.pos k' e0 a4 a5
  ·exact h.pos k' e h2 ho
theorem Inv.zFE(s:S){io:List (Option TypeId)}{ps:Ty}{ks:List Nat}{y:(ioT io ps).D}(hn:∀k e,look (uN s.M s.n io ps ks y) k=some e->e.1=s.n):Inv s { L:=s.L,M:=uN s.M s.n io ps ks y++s.M,n:=s.n+1,ep:=s.n } where
 le:=zLc _
 l:=fun t e he _=>he
 m:=fun k e he gF=>by
  rcases vw he with h1|⟨_,h2⟩
  ·rw[hn k e h1]at gF;exact zLh gF (Nat.lt_irrefl _)
  ·exact h2
theorem DH(hE:E.ok X.P)(h:RelX F s a w X)(hd:F.dst d){x:Operand}{xs:Array Operand}{ts:Array TypeId}:gG F s a w ⟨d,.call ⟨.value x,xs,ts⟩,T,pos,aft,g⟩ (mB E s d (rdO s.ep s.L [] [] x) (jB (rdO s.ep s.L [] []) xs.toList) k) k:=by
 intro nf y hr K Q hK;rw[<-h.P];rw[<-h.ep]at hr;unfold mB at hr;split at hr
 ·rename_i f ca cb l hφ hl
  split at hr
  ·cases hr
  ·rename_i fs hs
   split at hr
   ·rename_i p hp
    obtain⟨y0,eX,hr⟩:=run_bind hr;have H:=h.rd (Op.operands (.call ⟨.value x,xs,ts⟩))
    have k1:=H x _ (by simp[Op.operands,Call.operands]) hφ
    have kA:=jT hl;obtain⟨vs,us,e1,e2,e3⟩:=k1;obtain⟨A1,A2⟩:=ca.Rx e1;obtain⟨B1,B2⟩:=cb.Rx e2;have fD:∀(i:Nat) φ v,l[i]?=some φ->(xs.toList.map a.eval)[i]?=some v->φ.holds X w v:=by
     intro i φ v hi hv;rw[List.getElem?_map,Option.map_eq_some_iff]at hv;obtain⟨z,hz,rfl⟩:=hv;obtain⟨z',eY,eZ⟩:=ZW hl i φ hi;rw[hz]at eY;cases eY;refine H z φ ?_ eZ;have hz':z∈xs:=Array.mem_toList_iff.1 (zLW hz)
     simp[Op.operands,Call.operands,hz']
    have fF:=Y6 (R:=fun (φ:AV) v=>φ.holds X w v) A1 A2 (Y6 (l1:=l) (m1:=xs.toList.map a.eval) (by simp[kA]) fD B2)
    obtain⟨bl,g1,g2,g3,g4⟩:=zDs hE.G h.m h.inj (fun k e h1 h2=>(h.pos k e h1 h2).1) (vs:=vs++(xs.toList.map a.eval++us)) (ks:=p.2) (x:=p.1) hp (by simp[A1,B1,kA]) fF
    obtain⟨f1,f2⟩:=hE.H f fs hs;have hc:=f2 X.O w h.okO bl _ p.1 g1 nf y0 eX
    have sE:(vs++(xs.toList.map a.eval++us)).toArray=vs.toArray++xs.map a.eval++us.toArray:=by
     rw[show xs.map a.eval=(xs.toList.map a.eval).toArray by rw[<-Array.toList_map],Zc]
    rw[sE]at hc;refine nZ f1 e3 hc fun e w' he=>?_
    obtain⟨v,rs,q1,q2,q3,q4,q5⟩:=he;refine⟨v,q1,?_⟩;have hR:=h.zFE (E:=E) hE.G hp g2 g3 g4 q4 q5
    have f9:=Gv (X:=X) (X':=X) (w:=w) (w':=w') (G:=E.G) (n:=s.n) h.m rfl rfl rfl rfl rfl rfl hp g2 q5;have hR2:=hR.val (Ext.refl w') hd (uY (X:={ X with n:=s.n+1,ep:=s.n }) q3 q2)
    exact hK _ _ _ ⟨_,hR2⟩ ((Inv.zFE s fun k e he=>(f9.1 k e he).1).trans (Inv.put _ _ _)) hr
   ·cases hr
 ·cases hr
end
section
variable {F:Frm} {s:S} {a:Act} {w:World} {X:Cx} {E:VE}
variable {d:Option Tmp} {T Y:TypeId} {pos:String} {aft:Array Edge} {g:Option (Nat×Bool)} {k:S->Comp β}
def SR(s:S)(d:Option Tmp)(p:Nat×Bool×TypeId×(t:Ty)×List t.D)(n:Option (IntKind×Int))(k:S->Comp β):Comp β:=match n with
 |some n=>(sub p.2.2.2.2 0 n.2).bind fun ys=>k (s.ren d p.1 (.sl p.2.1 p.2.2.2.1 p.2.2.1 ys))
 |none=>Comp.fail
theorem NB(hE:E.ok X.P)(h:RelX F s a w X)(hd:F.dst d){x y:Operand}{p:Nat×Bool×TypeId×(t:Ty)×List t.D}{φ:AV}(hφ:rdO s.ep s.L [] [] x=some φ)(hp:Xs s.M φ=some p){i:TI}(hi:look E.T Y=some i){e:TypeId}(he:slD i.dd=some e){j:TI}(hj:look E.T e=some j)(hs:Nat.beq p.2.2.2.1.sz j.sz=true) :
  gG F s a w ⟨d,.slice Y x none (some y) none,T,pos,aft,g⟩ (SR s d p ((rdO s.ep s.L [] [] y).bind AV.int?) k) k:=by
 intro nf y' hr K Q hK;rw[<-h.P];unfold SR at hr;split at hr
 ·rename_i n hn
  obtain⟨ys,sP,hr⟩:=run_bind hr;have ht:=(hE.T Y i hi).ty
  rw[kj he]at ht;have hj':=(hE.T e j hj).ty
  rw[<-h.ep]at hφ hn;have k1:=h.rd #[x] x φ (by simp) hφ
  have hn':=vM (h.rd #[y]) (by simp) hn
  obtain⟨e0,f1,f2,f3,f4⟩:=wy h.m k1 hp;have hs':(p.2.2.2.1.gr X.P).sz=j.sz:=by rw[Ty.yh];exact zLQ hs
  refine Yv ht hj' hs' rfl f3.W2 hn' sP K Q fun v w' pV hv=>?_
  have hv:v=Mi (a.eval x) ys.length:=hv;subst hv;have g1:=CY (f3.ext pV) sP
  refine hK _ _ _ (h.ren hd f1 (by rw[f2];rfl) (h.base.step pV h.ok0) ⟨pV.size,fun b hb _=>⟨rfl,pV.block b hb⟩⟩ (ZG g1) fun X' e1 e2 e3 e4 e5 e6 fT=>?_) (Inv.ren _ _ _ _) hr
  show zo _ _ _ _ _ _ _ _
  rw[e5,e6,e1,e4,show X'.B=X.B from by funext nw;cases nw<;>simp[Cx.B,e2,e3]]
  exact g1
 ·cases hr
def EO(E:VE)(s:S)(d:Option Tmp)(Y:TypeId)(kk n:Nat)(ψ:Option AV)(k:S->Comp β):Comp β:=match ψ,look s.M kk with
 |some ψ,some (_,.sl nw t T xs)=>match look E.T Y with
  |none=>Comp.fail
  |some i=>match slD i.dd with
   |none=>Comp.fail
   |some e=>match look E.T e with
    |none=>Comp.fail
    |some j=>match J0 j t && Nat.beq T e,apY s.M t ψ with
     |true,some ys=>(sub xs 0 (n:Int)).bind fun xs=>(app xs ys).bind fun zs=>k (s.ren d kk (.sl nw t e zs))
     |_,_=>Comp.fail
 |_,_=>Comp.fail
theorem Ig(hE:E.ok X.P)(h:RelX F s a w X)(hd:F.dst d){x z:Operand}{kk n:Nat}(hφ:rdO s.ep s.L [] [] x=some (.px kk n)):gG F s a w ⟨d,.call ⟨.builtin .append,#[x,z],#[Y,Y]⟩,T,pos,aft,g⟩ (EO E s d Y kk n (rdO s.ep s.L [] [] z) k) k:=by
 intro nf y hr K Q hK;rw[<-h.P];rw[<-h.ep]at hr hφ;unfold EO at hr;split at hr
 ·rename_i ψ st nw t T' xs hψ hk
  have k1:=h.rd #[x] x _ (by simp) hφ
  have k2:=h.rd #[z] z ψ (by simp) hψ
  split at hr
  ·cases hr
  ·rename_i i hi
   have ht:=(hE.T Y i hi).ty;split at hr
   ·cases hr
   ·rename_i e he
    rw[kj he]at ht;split at hr
    ·cases hr
    ·rename_i j hj
     have ht':=(hE.T e j hj).ty;have hap:∀ {t:Ty},J0 j t=true->∃E',j.sz=E'+1/\(t.gr X.P).sz=E'+1/\j.by_<=131072/\j.z.cells.size=E'+1:=by
      intro t hb;unfold J0 at hb;simp only[zLR]at hb;obtain⟨b1,b2,b3,b4⟩:=hb;rw[zX]at b1;have b1:0<j.sz:=by simpa using b1
      have b2:=zLQ b2;have b4:=zLQ b4
      exact⟨j.sz-1,by omega,by rw[Ty.yh];omega,Nat.le_of_ble_eq_true b3,by omega⟩
     split at hr
     ·rename_i ys hb sP
      rw[zLR]at hb;obtain⟨E',g1,g2,g3,g4⟩:=hap hb.1;obtain⟨⟨k3,p0,l0,c0,k4,k5⟩,k6⟩:=k1;have f3:zo (X.ι kk) (t.gr X.P) T' (X.B nw) X.O w (X.U kk) xs:=h.m kk _ hk
      rw[g1]at ht';have eT:=zLQ hb.2
      subst eT;obtain⟨us,hu,hr⟩:=run_bind hr;obtain⟨zs,hz,hr⟩:=run_bind hr;have fC:=h.pos kk _ hk rfl
      have hul:us.length=n:=by
       have bW:=jd hu;have e4:us=xs.take n:=by simpa using bW.2.symm
       rw[e4,zLm];omega
      have f4:=CY f3 hu;rw[hul,<-k3]at f4;refine tx (Ty.fits X.P _) g2 ht ht' g4 g3 h.ok0 h.base (h.okB nw) rfl f4 rfl (AE h.m k2 sP) hz fC.1 fun u2 w2 O2 q1 q2 q3=>hK _ _ _ (h.ren hd hk rfl q2 q3 (ZG q1) fun X' e1 e2 e3 e4 e5 e6 fT=>?_) (Inv.ren _ _ _ _) hr
      show zo _ _ _ _ _ _ _ _
      rw[e5,e6,e1,e4,show X'.B=X.B from by funext nw;cases nw<;>simp[Cx.B,e2,e3]]
      exact q1
     ·cases hr
 ·cases hr
def zEu:Option AV->Option (Nat×Nat)
 |some (.px k n)=>some (k,n)
 |_=>none
theorem VD{φ:Option AV}{p:Nat×Nat}(h:zEu φ=some p):φ=some (.px p.1 p.2):=by
 unfold zEu at h;split at h
 ·cases h;rfl
 ·cases h
def zHE{α:Type}(xs:List α)(lo:Nat)(z:α):List α:=xs.take lo++List.replicate (xs.length-lo) z
def n5(E:VE)(s:S)(d:Option Tmp)(Y:TypeId)(φ:Option AV)(k:S->Comp β):Comp β:=match d,φ with
 |none,some φ=>match φ with
  |.sx kk lo esz=>match look s.M kk with
   |some (_,.sl nw t T xs)=>match look E.T Y with
    |none=>Comp.fail
    |some i=>match slD i.dd with
     |none=>Comp.fail
     |some e=>match look E.T e with
      |none=>Comp.fail
      |some j=>match Nat.beq esz j.sz && (Nat.beq t.sz j.sz && Nat.beq T e),ofV t j.z with
       |true,some z=>(sub xs (lo:Int) (zF xs)).bind fun _=>k (s.mod kk (.sl nw t T (zHE xs lo z)))
       |_,_=>Comp.fail
   |_=>Comp.fail
  |_=>Comp.fail
 |_,_=>Comp.fail
theorem DD(hE:E.ok X.P)(h:RelX F s a w X){x:Operand}:gG F s a w ⟨none,.call ⟨.builtin .clear,#[x],#[Y]⟩,T,pos,aft,g⟩ (n5 E s none Y (rdO s.ep s.L [] [] x) k) k:=by
 intro nf y' hr K Q hK;rw[<-h.P];rw[<-h.ep]at hr;unfold n5 at hr;split at hr
 ·rename_i φ _ hφ
  have k1:=h.rd #[x] x φ (by simp) hφ
  split at hr
  ·rename_i kk lo esz
   split at hr
   ·rename_i st nw t T' xs hk
    split at hr
    ·cases hr
    ·rename_i i hi
     split at hr
     ·cases hr
     ·rename_i e he
      split at hr
      ·cases hr
      ·rename_i j hj
       split at hr
       ·rename_i z hb hz
        simp only[zLR]at hb;obtain⟨b1,b2,b3⟩:=hb;have b1:=zLQ b1
        have b2:=zLQ b2;have b3:=zLQ b3
        obtain⟨ys,sP,hr⟩:=run_bind hr;have ht:=(hE.T Y i hi).ty
        rw[kj he]at ht;have hj':=(hE.T e j hj).ty
        have hO:zo (X.ι kk) (t.gr X.P) T' (X.B nw) X.O w (X.U kk) xs:=h.m kk _ hk;have hx:a.eval x=rL (X.U kk) ((lo:Int).toNat) j.sz:=by rw[<-b1];exact k1.1
        rw[b3]at hO;refine Ua (m:=(lo:Int)) (Ty.fits X.P t) (by rw[Ty.yh];exact b2) h.ok0 h.base (h.okB nw) ht hj' hx hO (h.pos kk _ hk rfl).1 sP (fun O w=>J8 X.P hz O w) fun w' q1 q2 q3=>?_
        have hR:=h.mod hk rfl (mv:=.sl nw t T' (zHE xs lo z)) q2 q3 fun X' e1 e2 e3 e4 e5 e6 fT=>by
         show zo _ _ _ _ _ _ _ _
         rw[e6,e5,e1,e4,show X'.B=X.B from by funext nw;cases nw<;>simp[Cx.B,e2,e3],b3]
         exact q1
        exact hK _ _ _ hR (Inv.mod _ _ _) hr
       ·cases hr
   ·cases hr
  ·cases hr
 ·cases hr
end
def S.Cb(E:VE)(s:S)(k:Nat):S:=match look s.M k with
 |some (_,.bx true c T)=>match look E.T T with
  |some i=>match c.asT E.G s.M i.τ with
   |some x=>{ L:=s.L,M:=(k,s.n,.fb i.τ x)::s.M,n:=s.n+1,ep:=s.ep }
   |none=>s
  |none=>s
 |_=>s
def S.J2(E:VE)(s:S):List Nat->S
 | []=>s
 |k::l=>(s.Cb E k).J2 E l
def AV.Ck:AV->List Nat
 |.ob k|.bx k _|.ba k .. | .el k .. | .sx k .. | .px k _=>[k]
 |.cl _ a b|.pr a b=>a.Ck++b.Ck
 |.tp l|.ag l=>l.Ck
 |_=>[]
def zAZ:List AV->List Nat
 | []=>[]
 |φ::l=>φ.Ck++zAZ l
def EU(M:MS):List Nat->List Nat
 | []=>[]
 |k::l=>match look M k with
  |some (_,.bx _ c _)=>c.Ck++EU M l
  |_=>EU M l
def S.Z6(E:VE)(s:S)(l:List AV):S :=
 let r:=zAZ l
 (s.XR (EU s.M r++r)).J2 E r
section
variable {F:Frm} {s:S} {a:Act} {w:World} {X:Cx} {E:VE}
variable {d:Option Tmp} {T Y:TypeId} {pos:String} {aft:Array Edge} {g:Option (Nat×Bool)} {k:S->Comp β}
theorem Inv.Cb(s:S)(k:Nat):Inv s (s.Cb E k):=by
 unfold S.Cb;split
 ·split
  ·split
   ·exact⟨zLc _,ya,vZ ya⟩
   ·exact Inv.refl s
  ·exact Inv.refl s
 ·exact Inv.refl s
theorem Rel.Cb(hE:E.ok F.P)(h:Rel F s a w)(k:Nat):Rel F (s.Cb E k) a w:=by
 unfold S.Cb;split
 ·rename_i st c T hk
  split
  ·rename_i i hi
   split
   ·rename_i x hx
    obtain⟨X,h⟩:=h;obtain⟨b,cs,g1,g2,g3,g4⟩:=h.m k _ hk;have hp:=h.pos k _ hk rfl
    have hG:FOk X.P E.G:=by rw[h.P];exact hE.G
    have Mk:=(AV.jS hG c h.m).vc hx g3;have sT:F.w0.heap.size<=b:=by
     have:X.F b:=g2.ge;rw[h.Fn]at this;exact this
    let O':=tag X.O (some b) 0
    have sU:KX (some (X.ι k)) X.O w O' w:=KX.free fun g hg=>by cases hg;exact g2.tag
    have hB:Base F.A F.O0 F.w0 O' w:=h.base.SN h.ok0 (fun g hg=>by cases hg;exact h.base.new b sT) fun g hg gF=>by cases hg;omega
    have h0:zb 0 X.O w O' w:=sU.keep (by simpa using hp.1.symm)
    let X':Cx:={ X with O:=O',n:=s.n+1 }
    have gF:=(h.mn k _ hk).2;have hv:(MV.fb i.τ x).holds X' w k:=by
     show (KI _).v O' w (X.U k) x
     rw[g1];have tW:cs=cs.toList.toArray:=by simp
     rw[tW]at g2;exact g2.freeze hp.1 Mk
    refine⟨X',h.go h.fit rfl rfl rfl (fun j hj=>sU.keep (by rcases hj with rfl|rfl;simpa using hp.1.symm;simpa using hp.2.symm)) (fun _ _=>rfl) rfl h.ep (zLc _) (Nat.le_succ_of_le h.epn) hB (fun hf=>⟨hf,Ext.refl _⟩) (fun _ _ _=>rfl) (fun t e he=>.inr ⟨he,rfl,fun _ hf=>⟨hf,Ext.refl _⟩⟩) (fun k' e he=>?_) (fun j k' e e' he he' ho ho' fH=>?_) (fun k' e he ho=>?_)⟩
    ·rcases zD he with ⟨h1,h2⟩|⟨h1,h2⟩
     ·subst h1 h2;exact .inl ⟨zLd _,Nat.lt_succ_of_lt gF,hv⟩
     ·refine .inr ⟨h2,rfl,fun ho=>sU.keep ?_⟩
      intro e1;simp only[zLo]at e1;exact h1 (h.inj k k' _ e hk h2 rfl ho e1.symm)
    ·rcases zD he with ⟨h1,h2⟩|⟨h1,h2⟩
     ·rw[<-h2]at ho;cases ho
     ·rcases zD he' with ⟨h3,h4⟩|⟨h3,h4⟩
      ·rw[<-h4]at ho';cases ho'
      ·exact h.inj j k' e e' h2 h4 ho ho' fH
    ·rcases zD he with ⟨h1,h2⟩|⟨h1,h2⟩
     ·rw[<-h2]at ho;cases ho
     ·exact h.pos k' e h2 ho
   ·exact h
  ·exact h
 ·exact h
theorem Rel.J2(hE:E.ok F.P):∀(l:List Nat) {s:S},Rel F s a w->Rel F (s.J2 E l) a w
 | [],_,h=>h
 |k::l,s,h=>Rel.J2 hE l (h.Cb hE k)
theorem Inv.J2:∀(l:List Nat) (s:S),Inv s (s.J2 E l)
 | [],s=>Inv.refl s
 |k::l,s=>(Inv.Cb s k).trans (Inv.J2 l _)
theorem Rel.Z6(hE:E.ok F.P)(h:Rel F s a w)(l:List AV):Rel F (s.Z6 E l) a w:=Rel.J2 hE _ (h.XR _)
theorem Inv.Z6(s:S)(l:List AV):Inv s (s.Z6 E l):=(Inv.XR _ _).trans (Inv.J2 _ _)
theorem BR{P:Program}{k T:Nat}{B:Nat->Prop}{O:zR}{w:World}{u:Value}{t t':Ty}{xs:List t.D}{ys:List t'.D}(e:Ty.sl t=.sl t')(h:Ty.cast e xs=ys)(hO:zo k (t.gr P) T B O w u xs):zo k (t'.gr P) T B O w u ys:=by
 injection e with e1
 subst e1;subst h;exact hO
def n9(E:VE)(s:S)(d:Option Tmp)(φ:Option AV)(l:Option (List AV))(k:S->Comp β):Comp β:=match φ,l with
 |some (.cl f .un .un),some (x::l)=>match E.O f with
  |none=>Comp.fail
  |some fs=>match Xs s.M x with
   |none=>Comp.fail
   |some p=>match (Ty.sl p.2.2.2.1).to (.sl fs.e) p.2.2.2.2,Nat.beq p.2.2.1 fs.T,Xf (l.map (fun φ=>φ.asT E.G s.M)) fs.ps with
    |some xs,true,some z=>(fs.sem xs z).bind fun ys=>match fs.ret with
     |true=>k (s.ren d p.1 (.sl p.2.1 fs.e fs.T ys))
     |false=>k ((s.mod p.1 (.sl p.2.1 fs.e fs.T ys)).put d .top)
    |_,_,_=>Comp.fail
 |_,_=>Comp.fail
theorem DF(hE:E.ok X.P)(h:RelX F s a w X)(hd:F.dst d){x:Operand}{xs:Array Operand}{ts:Array TypeId}:gG F s a w ⟨d,.call ⟨.value x,xs,ts⟩,T,pos,aft,g⟩ (n9 E s d (rdO s.ep s.L [] [] x) (jB (rdO s.ep s.L [] []) xs.toList) k) k:=by
 intro nf y hr K Q hK;rw[<-h.P];rw[<-h.ep]at hr;unfold n9 at hr;split at hr
 ·rename_i f φ1 l hφ hl
  split at hr
  ·cases hr
  ·rename_i fs hs
   split at hr
   ·cases hr
   ·rename_i p hp
    split at hr
    ·rename_i xs0 z sF hT hz
     obtain⟨ys,sP,hr⟩:=run_bind hr;have H:=h.rd (Op.operands (.call ⟨.value x,xs,ts⟩))
     have k1:=H x _ (by simp[Op.operands,Call.operands]) hφ
     have kA:=jT hl;obtain⟨vs,us,e1,e2,e3⟩:=k1;have e1:vs=[]:=e1
     have e2:us=[]:=e2;subst e1 e2;have fD:∀(i:Nat) φ v,(φ1::l)[i]?=some φ->(xs.toList.map a.eval)[i]?=some v->φ.holds X w v:=by
      intro i φ v hi hv;rw[List.getElem?_map,Option.map_eq_some_iff]at hv;obtain⟨z,hz,rfl⟩:=hv;obtain⟨z',eY,eZ⟩:=ZW hl i φ hi;rw[hz]at eY;cases eY;refine H z φ ?_ eZ;have hz':z∈xs:=Array.mem_toList_iff.1 (zLW hz)
      simp[Op.operands,Call.operands,hz']
     obtain⟨u,vs,sV⟩:∃u vs,xs.toList.map a.eval=u::vs:=by
      cases hxl:xs.toList with
      |nil=>rw[hxl]at kA;cases kA
      |cons u vs=>exact⟨_,_,rfl⟩
     rw[sV]at fD;have oO:vs.length=l.length:=by
      have h1:=zLi List.length sV;rw[List.length_map]at h1;simp only[zLZ]at h1 kA;omega
     have hu:=fD 0 φ1 u rfl rfl;obtain⟨e0,f1,f2,f3,f4⟩:=wy h.m hu hp;obtain⟨ee,ee2⟩:=Ty.jL sF;have fC:=h.pos p.1 e0 f1 (by rw[f2];rfl)
     have fU:fs.ps.args X.P X.O w vs z:=kO hz (by simp[oO]) fun i f v hf hv t y hy=>by
      rw[List.getElem?_map,Option.map_eq_some_iff]at hf;obtain⟨ψ,g1,rfl⟩:=hf;exact AV.Z1 hE.G h.m hy (fD (i+1) ψ v (by simpa using g1) (by simpa using hv))
     obtain⟨o1,o2⟩:=hE.O f fs hs;have hO:zo (X.ι p.1) (fs.e.gr X.P) fs.T (X.B p.2.1) X.O w u xs0:=by
      have hT':=zLQ hT;rw[hT']at f3;exact BR ee ee2 f3
     have hc:=o2 X.O w h.okO u xs0 (MY hO fC.1) vs z fU nf ys sP;have sE:(u::vs).toArray=#[]++xs.map a.eval++#[]:=by
      rw[show xs.map a.eval=(xs.toList.map a.eval).toArray by rw[<-Array.toList_map],sV];simp
     rw[sE]at hc;refine nZ o1 e3 hc fun e w2 he=>?_
     obtain⟨v,u2,he,h1,⟨vs2,h2,h3⟩,h4⟩:=he;refine⟨v,he,?_⟩;have sT:=hO.ge
     obtain⟨oN,sU⟩:=wO h.base h.ok0 h1 (fun g hg=>(h.okB p.2.1).sub g (sT g hg).1) fC.1 (fun g hg=>h2.gC g hg) hO.tagged
     have lW:zo (X.ι p.1) (fs.e.gr X.P) fs.T (X.B p.2.1) (tag X.O u2.ownBlock (X.ι p.1)) w2 u2 ys:=by
      refine⟨vs2,h2,h3.mono ⟨zLT _,fun b _ hb=>⟨?_,rfl⟩⟩,fun g hg=>⟨by rw[hg];exact yg _ _ _,?_⟩⟩
      ·by_cases hg:u2.ownBlock=some b
       ·rw[hg,yg]at hb;cases hb
       ·rw[vt hg]at hb |-;exact hb
      ·rcases h1.at_ with h8|h8
       ·exact(sT g (h8 ▸ hg)).1
       ·exact(h.okB p.2.1).new g (by have:=h8 g hg;have:=h.base.size;omega)
     split at hr
     ·rename_i xN
      rw[xN]at h4;have h4:v=u2:=h4
      subst h4;refine hK _ _ _ (h.ren hd f1 (by rw[f2];rfl) oN sU (ZG lW) fun X' e1 e2 e3 e4 e5 e6 fT=>?_) (Inv.ren _ _ _ _) hr
      show zo _ _ _ _ _ _ _ _
      rw[e5,e6,e1,e4,show X'.B=X.B from by funext nw;cases nw<;>simp[Cx.B,e2,e3]]
      exact lW
     ·rename_i xN
      rw[xN]at h4;obtain⟨h5,h6⟩:u2=u/\v=.tuple #[]:=h4;subst h5;have hR:=h.mod f1 (by rw[f2];rfl) (mv:=.sl p.2.1 fs.e fs.T ys) oN sU fun X' e1 e2 e3 e4 e5 e6 fT=>by
       show zo _ _ _ _ _ _ _ _
       rw[e6,e5,e1,e4,show X'.B=X.B from by funext nw;cases nw<;>simp[Cx.B,e2,e3],<-f4]
       exact lW
      obtain⟨X2,aJ⟩:=hR;exact hK _ _ _ ⟨_,aJ.val (Ext.refl w2) hd (show AV.top.holds X2 w2 v from trivial)⟩ ((Inv.mod _ _ _).trans (Inv.put _ _ _)) hr
    ·cases hr
 ·cases hr
end
theorem Kt{P:Program}{w:World}(t ti ty e:TypeId)(i:TypeInfo)(z:Value)(ik:IntKind)(ht:P.underlying t=some (.slice e))(hti:P.underlying ti=some (.int ik))(hi:P.info? e=some i)(hz:i.zero=some z)
  (k:IntKind) (n:Nat) (h0:0<n) (h63:(n:Int)<=9223372036854775807) (h48:n * i.bytes<=281474976710656) (f8:0<i.size) :
  (Builtin.append_ #[t,ti] ty #[.slice none 0 0,.int k n]).run P w =
   .ok (.slice (some ⟨w.heap.size,0,none⟩) n (grownCap w n 0 e)) (w.drew.alloc (.cells (Builtin.zeroCells z.cells n++Builtin.zeroCells z.cells (grownCap w n 0 e-n)) e)):=by
 have hn:n≠0:=by omega
 have hw:IntKind.i64.wrap (n:Int)=n:=by rw[IntKind.wrap_i64];omega
 have h63':¬(9223372036854775807<(n:Int)):=by omega
 have h48':¬(281474976710656<Builtin.nextslicecap n 0 * i.bytes):=by rw[nextslicecap_zero h0];omega
 have h48i:¬((281474976710656:Int)<(n:Int) * (i.bytes:Int)):=by
  have h:((n * i.bytes:Nat):Int)<=281474976710656:=by omega
  rw[Int.natCast_mul]at h;omega
 have xJ:¬((n:Int)<0):=by omega
 have hnz:¬(n=0\/i.size=0):=by omega
 simp[Builtin.append_,run_underlying ht,run_underlying hti,sizeOf,typeInfo,zeroValue,hi,hz,asInt,asIntOf,hw,xJ,hn,h63',h48',h48i,hnz,Question.forced,run_firstCells_none,newRow,grownCap];intro hm;rcases Nat.mul_eq_zero.1 hm with h|h<;>omega
section
variable {F:Frm} {s:S} {a:Act} {w:World} {X:Cx} {E:VE}
variable {d:Option Tmp} {T Y Z:TypeId} {pos:String} {aft:Array Edge} {g:Option (Nat×Bool)} {k:S->Comp β}
theorem IM{P:Program}{α:Type}{A:Nat->Prop}{K:Act->World->Prop}{Q:Exit->Act->World->Prop}{x y:Operand}{t ti e E bytes k:Nat}{ik:IntKind}{d0:Option Tmp}{g0:Option (Nat×Bool)}{dd:TypeDesc}{z z' zi:Value}{sz by_ szi byi:Nat}{r:GR α}(hr:r.fits)(hE:r.sz=E+1)(hT:Eng.Ty P t (.slice e) z sz by_)(hti:Eng.Ty P ti (.int ik) zi szi byi)(he:Eng.Ty P e dd z' (E+1) bytes)(hz:z'.cells.size=E+1)(aG:bytes<=131072)
  {O O0:zR} {w0:World} (tU:OkO O0 w0) (hB:Base A O0 w0 O w) {B:Nat->Prop} (t8:OkB A w0 B) (hx:a.eval x=.slice none 0 0) {kk:IntKind} {m:Int} (hy:a.eval y=.int kk m) {z0:α} (aA:∀O w,r.v O w z' z0) {zs:List α} {n:Nat} (a7:(mk m z0).run n=some zs) (hk:k≠0)
  (hK:∀u2 w2 O2,zo k r e B O2 w2 u2 zs->Base A O0 w0 O2 w2->KX (some k) O w O2 w2->K (a.put d0 u2) w2):Oper.wp P ⟨d0,.call ⟨.builtin .append,#[x,y],#[t,ti]⟩,T,pos,aft,g0⟩ a w K Q:=by
 obtain⟨⟨h0,h1⟩,h2⟩:=run_mk a7;unfold LIM at h1;obtain⟨i,hi,hzz,f8,hby'⟩:=he.info;obtain⟨c,rfl⟩:∃c:Nat,m=(c:Int):=⟨m.toNat,by omega⟩
 rw[Int.toNat_natCast]at h2;by_cases hc:c=0
 ·subst hc
  have hu:a.eval y=.int kk 0:=hy;have hw:IntKind.i64.wrap (0:Int)=0:=by rw[IntKind.wrap_i64];omega
  have fI:(Builtin.append_ #[t,ti] T #[.slice none 0 0,.int kk 0]).run P w=.ok (.slice none 0 0) w:=by
   simp[Builtin.append_,hT.gR,hti.gR,he.zu,sizeOf,typeInfo,hi,asInt,asIntOf,hw]
  refine qx (v:=.slice none 0 0) (w':=w) (by simp[execOp,resolve,invoke,builtin,hx,hu,fI]) (hK _ w O ?_ hB ⟨zLT _,fun _ _ _=>⟨rfl,rfl⟩⟩)
  rw[<-h2];exact zo.nil _ _ _ _ _ _
 ·have hcb:c * i.bytes<=1073741824 * 131072:=Nat.mul_le_mul (by omega) (by rw[hby'];exact aG)
  have fI:=Kt (P:=P) (w:=w) t ti T e i z' ik hT.u hti.u hi hzz kk c (by omega) (by omega) (by omega) (by rw[f8];omega)
  have sT:=grownCap_ge w c 0 e;have eP:grownCap w c 0 e<=maxLen:=grownCap_le_maxLen w c 0 e (by unfold maxLen;omega)
  have pV:Ext w (w.drew.alloc (.cells (Builtin.zeroCells z'.cells c++Builtin.zeroCells z'.cells (grownCap w c 0 e-c)) e)):=⟨rfl,rfl,rfl,by simp,fun k hk=>heap_alloc_old w.drew _ hk⟩
  refine qx (v:=.slice (some ⟨w.heap.size,0,none⟩) c (grownCap w c 0 e)) (w':=w.drew.alloc (.cells (Builtin.zeroCells z'.cells c++Builtin.zeroCells z'.cells (grownCap w c 0 e-c)) e)) (by simp[execOp,resolve,invoke,builtin,hx,hy,fI]) ?_
  have bG:(Builtin.zeroCells z'.cells c).toList=flat (List.replicate c z'):=by
   rw[range_zero];unfold flat
   rw[List.flatMap_def,List.map_replicate]
  refine hK _ _ (tag O (some w.heap.size) k) ⟨List.replicate c z',?_,?_,fun g hg=>?_⟩ ?_ ?_
  ·rw[hE]
   refine⟨fun x hx=>by rw[List.eq_of_mem_replicate hx];exact hz,?_,.inr ⟨w.heap.size,grownCap w c 0 e,_,by rw[List.length_replicate],Nat.zero_le _,heap_alloc_new w.drew _,by rw[List.length_replicate];exact sT,eP,?_,?_⟩⟩
   ·rw[<-bG,List.length_replicate,Array.length_toList,size_zeroCells,hz]
   ·rw[Array.size_append,size_zeroCells,size_zeroCells,hz,<-Nat.add_mul];congr 1;omega
   ·rw[Array.toList_append,<-bG,List.length_replicate]
    have:c * (E+1)=(Builtin.zeroCells z'.cells c).toList.length:=by rw[Array.length_toList,size_zeroCells,hz]
    rw[this];exact List.take_left
  ·rw[<-h2]
   exact yk.replicate (aA _ _) c
  ·simp only[Value.ownBlock,zLo]at hg
   subst hg;exact⟨yg _ _ _,t8.new _ hB.size⟩
  ·exact(hB.step pV tU).tag hk fun g hg=>by cases hg;exact⟨hB.new _ hB.size,by simp⟩
  ·have h3:KX none O w (tag O (some w.heap.size) k) _:=KX.tag pV fun g hg=>by cases hg;exact zLT _
   exact⟨h3.1,fun b hb _=>h3.2 b hb (by simp)⟩
def EM(E:VE)(s:S)(d:Option Tmp)(Y Z:TypeId)(φ:Option AV)(m:Option (IntKind×Int))(k:S->Comp β):Comp β:=match φ,m with
 |some φ,some m=>match look E.T Y,look E.T Z with
  |some i,some iz=>match slD i.dd with
   |none=>Comp.fail
   |some e=>match look E.T e with
    |none=>Comp.fail
    |some j=>match Yk φ && (J0 j j.τ && (W6 iz.dd).isSome),ofV j.τ j.z with
     |true,some z=>(mk m.2 z).bind fun zs=>k (s.KJ d (.sl true j.τ e zs) (.ob s.n))
     |_,_=>Comp.fail
  |_,_=>Comp.fail
 |_,_=>Comp.fail
theorem Ie(hE:E.ok X.P)(h:RelX F s a w X)(hd:F.dst d){x z:Operand}:gG F s a w ⟨d,.call ⟨.builtin .append,#[x,z],#[Y,Z]⟩,T,pos,aft,g⟩ (EM E s d Y Z (rdO s.ep s.L [] [] x) ((rdO s.ep s.L [] [] z).bind AV.int?) k) k:=by
 intro nf y hr K Q hK;rw[<-h.P];rw[<-h.ep]at hr;unfold EM at hr;split at hr
 ·rename_i φ m hφ hm
  have k1:=h.rd #[x] x φ (by simp) hφ
  have k2:=vM (h.rd #[z]) (by simp) hm
  split at hr
  ·rename_i i iz hi hiz
   have ht:=(hE.T Y i hi).ty;have htz:=(hE.T Z iz hiz).ty
   split at hr
   ·cases hr
   ·rename_i e he
    rw[kj he]at ht;split at hr
    ·cases hr
    ·rename_i j hj
     have ht':=(hE.T e j hj).ty;split at hr
     ·rename_i z0 hb aA
      simp only[zLR]at hb;obtain⟨b1,b2,b3⟩:=hb;obtain⟨ik,eK⟩:=Option.isSome_iff_exists.1 b3;rw[mY eK]at htz;rw[jU b1]at k1;unfold J0 at b2;simp only[zLR]at b2;obtain⟨c1,c2,c3,c4⟩:=b2;rw[zX]at c1;have c1:0<j.sz:=by simpa using c1
      have c2:=zLQ c2;have c4:=zLQ c4
      have g1:j.sz=(j.sz-1)+1:=by omega
      rw[g1]at ht';obtain⟨zs,hz,hr⟩:=run_bind hr;obtain⟨τ,t0,t1⟩:=ZD X.ι s.M F.x.st
      refine IM (B:=X.B true) (r:=j.τ.gr X.P) (Ty.fits X.P _) (by rw[Ty.yh];omega) ht htz ht' (by omega) (Nat.le_of_ble_eq_true c3) h.ok0 h.base (h.okB true) k1 k2 (fun O w=>J8 X.P aA O w) hz t0.1 fun u2 w2 O2 q1 q2 q3=>hK _ _ _ (h.KJ (φ:=.ob s.n) hd (v:=u2) (u:=u2) q2 q3 t0 t1 fun X' e1 e2 e3 e4 e5 e6 e7 e8 fT=>⟨⟨e7.symm,by omega,ZG q1⟩,?_⟩) (Inv.KJ _ _ _ _) hr
      show zo _ _ _ _ _ _ _ _
      rw[e7,e8,e1,e4,show X'.B=X.B from by funext nw;cases nw<;>simp[Cx.B,e2,e3]]
      exact q1
     ·cases hr
  ·cases hr
 ·cases hr
def mA(E:VE)(s:S)(d:Option Tmp)(φ:Option AV)(l:Option (List AV))(k:S->Comp β):Comp β:=match φ,l with
 |some (.cl f .un .un),some (x::l)=>match E.N f,Yk x with
  |some fs,true=>match Xf (l.map (fun φ=>φ.asT E.G s.M)) fs.ps with
   |some z=>(fs.sem z).bind fun y=>match YN fs.rk fs.rs y with
    |some q=>k (s.obj d (.sl true q.2.1 q.1 q.2.2) (Hw s.n fs.rk fs.rs y))
    |none=>Comp.fail
   |none=>Comp.fail
  |_,_=>Comp.fail
 |_,_=>Comp.fail
theorem DY{P:Program}{O:zR}{B:Nat}{w:World}{ks:List (Option TypeId)}{rs:Ty}{vs:List Value}{y:rs.D}{q:TypeId×(t:Ty)×List t.D}(hq:YN ks rs y=some q)(h:Y0 P O B w ks rs vs y):vs≠[]:=by
 intro e;subst e
 match ks,rs,y,hq,h with
 |k::ks,.cons a b,y,hq,h=>obtain⟨v,vs',h1,_⟩:=h;cases h1
theorem DG(hE:E.ok X.P)(h:RelX F s a w X)(hd:F.dst d){x:Operand}{xs:Array Operand}{ts:Array TypeId}:gG F s a w ⟨d,.call ⟨.value x,xs,ts⟩,T,pos,aft,g⟩ (mA E s d (rdO s.ep s.L [] [] x) (jB (rdO s.ep s.L [] []) xs.toList) k) k:=by
 intro nf y hr K Q hK;rw[<-h.P];rw[<-h.ep]at hr;unfold mA at hr;split at hr
 ·rename_i f φ1 l hφ hl
  split at hr
  ·rename_i fs hs hn
   split at hr
   ·rename_i z hz
    obtain⟨y0,eX,hr⟩:=run_bind hr;have H:=h.rd (Op.operands (.call ⟨.value x,xs,ts⟩))
    have k1:=H x _ (by simp[Op.operands,Call.operands]) hφ
    have kA:=jT hl;obtain⟨vs,us,e1,e2,e3⟩:=k1;have e1:vs=[]:=e1
    have e2:us=[]:=e2;subst e1 e2;have fD:∀(i:Nat) φ v,(φ1::l)[i]?=some φ->(xs.toList.map a.eval)[i]?=some v->φ.holds X w v:=by
     intro i φ v hi hv;rw[List.getElem?_map,Option.map_eq_some_iff]at hv;obtain⟨z,hz,rfl⟩:=hv;obtain⟨z',eY,eZ⟩:=ZW hl i φ hi;rw[hz]at eY;cases eY;refine H z φ ?_ eZ;have hz':z∈xs:=Array.mem_toList_iff.1 (zLW hz)
     simp[Op.operands,Call.operands,hz']
    obtain⟨u,vs,sV⟩:∃u vs,xs.toList.map a.eval=u::vs:=by
     cases hxl:xs.toList with
     |nil=>rw[hxl]at kA;cases kA
     |cons u vs=>exact⟨_,_,rfl⟩
    rw[sV]at fD;have oO:vs.length=l.length:=by
     have h1:=zLi List.length sV;rw[List.length_map]at h1;simp only[zLZ]at h1 kA;omega
    have hu:=fD 0 φ1 u rfl rfl;rw[jU hn]at hu;have hu:u=.slice none 0 0:=hu
    subst hu;have fU:fs.ps.args X.P X.O w vs z:=kO hz (by simp[oO]) fun i f v hf hv t y hy=>by
     rw[List.getElem?_map,Option.map_eq_some_iff]at hf;obtain⟨ψ,g1,rfl⟩:=hf;exact AV.Z1 hE.G h.m hy (fD (i+1) ψ v (by simpa using g1) (by simpa using hv))
    obtain⟨o1,o2⟩:=hE.N f fs hs;have hc:=o2 X.O w h.okO vs z fU nf y0 eX
    have sE:(Value.slice none 0 0::vs).toArray=#[]++xs.map a.eval++#[]:=by
     rw[show xs.map a.eval=(xs.toList.map a.eval).toArray by rw[<-Array.toList_map],sV];simp
    rw[sE]at hc;refine nZ o1 e3 hc fun e w2 he=>?_
    obtain⟨v,he,pV,rs,h3,h4⟩:=he;refine⟨v,he,?_⟩;split at hr
    ·rename_i q hq
     obtain⟨u,h5,h6⟩:=Jl (k:=s.n) hq h4;refine hK _ _ _ (h.Cr pV hd h5 fun X' e1 fT e2 e3 e4=>?_) (Inv.obj _ _ _ _) hr
     exact Ge (h6 X' e1 e2 e3 e4) (DY hq h4) h3
    ·cases hr
   ·cases hr
  ·cases hr
 ·cases hr
end
def n4(E:VE)(s:S)(d:Option Tmp)(Y:TypeId)(k:S->Comp β):Option Operand->Comp β
 |some _=>Comp.fail
 |none=>match look E.T Y with
  |some i=>match mpD i.dd with
   |some kv=>match look E.T kv.1,look E.T kv.2 with
    |some p,some q=>k (s.obj d (.mp true p.τ q.τ []) (.ob s.n))
    |_,_=>Comp.fail
   |none=>Comp.fail
  |none=>Comp.fail
def Ss(M:MS):AV->Option (Nat×Bool×(a:Ty)×(b:Ty)×List (a.D×b.D))
 |.ob k=>match look M k with
  |some (_,.mp nw a b xs)=>some (k,nw,⟨a,b,xs⟩)
  |_=>none
 |_=>none
theorem N1{M:MS}{φ:AV}{q}(h:Ss M φ=some q):φ=.ob q.1/\∃st,look M q.1=some (st,.mp q.2.1 q.2.2.1 q.2.2.2.1 q.2.2.2.2):=by
 unfold Ss at h;split at h
 ·split at h
  ·rename_i st nw a b xs hk;cases h;exact⟨rfl,st,hk⟩
  ·cases h
 ·cases h
def qd(E:VE)(s:S)(Y:TypeId)(k:S->Comp β):Option AV->Option AV->Option AV->Comp β
 |some φ,some ψ,some χ=>match look E.T Y,Ss s.M φ with
  |some i,some q=>match mpD i.dd with
   |some kv=>match look E.T kv.1 with
    |some p=>match p.kq && p.τ.beq q.2.2.1,ψ.asT E.G s.M q.2.2.1,χ.asT E.G s.M q.2.2.2.1 with
     |true,some y,some z=>k (s.mod q.1 (.mp q.2.1 q.2.2.1 q.2.2.2.1 (mpB q.2.2.1.eqb q.2.2.2.2 y z)))
     |_,_,_=>Comp.fail
    |none=>Comp.fail
   |none=>Comp.fail
  |_,_=>Comp.fail
 |_,_,_=>Comp.fail
section
variable {F:Frm} {s:S} {a:Act} {w:World} {X:Cx} {E:VE}
variable {d:Option Tmp} {T Y:TypeId} {pos:String} {aft:Array Edge} {g:Option (Nat×Bool)} {k:S->Comp β}
theorem DC(h:RelX F s a w X)(hd:F.dst d){n:Option Operand}:gG F s a w ⟨d,.makeMap Y n,T,pos,aft,g⟩ (n4 E s d Y k n) k:=by
 intro nf y hr K Q hK;rw[<-h.P];unfold n4 at hr;split at hr
 ·cases hr
 split at hr
 ·rename_i i hi
  split at hr
  ·rename_i kv hkv
   split at hr
   ·rename_i p q hp hq
    have fI:(execOp a.eval ⟨d,.makeMap Y none,T,pos,aft,g⟩).run X.P w=.ok (.value (.map (some w.heap.size))) (w.alloc (.map #[] 0)):=by simp[execOp,run_makeMap]
    refine qx fI ?_;obtain⟨τ,h0,h1⟩:=ZD X.ι s.M F.x.st;obtain⟨O',hB',hk,hO⟩:=Vu (t:=p.τ) (r:=q.τ.gr X.P) h.ok0 h.base τ h0.1;refine hK _ _ _ (h.obj (φ:=.ob s.n) (Ext.alloc w (.map #[] 0)) hd (u:=.map (some w.heap.size)) hB' hk h0 h1 fun X' e1 e2 e3 e4 e5 e6 e7 e8 fT=>⟨⟨e7.symm,by omega,rfl⟩,?_⟩) (Inv.obj _ _ _ _) hr
    show Z5 _ _ _ _ _ _ _ _
    rw[e7,e8,e1,e4];show Z5 _ _ _ X'.F _ _ _ _
    rw[e3,h.Fn];exact hO
   ·cases hr
  ·cases hr
 ·cases hr
theorem rU(hE:E.ok X.P)(h:RelX F s a w X){m x v:Operand}:gG F s a w ⟨none,.mapUpdate Y m x v,T,pos,aft,g⟩ (qd E s Y k (rdO s.ep s.L [] [] m) (rdO s.ep s.L [] [] x) (rdO s.ep s.L [] [] v)) k:=by
 intro nf y hr K Q hK;rw[<-h.P];rw[<-h.ep]at hr;unfold qd at hr;split at hr
 ·rename_i φ ψ χ hφ hψ hχ
  have k1:=h.rd #[m] m φ (by simp) hφ
  have k2:=h.rd #[x] x ψ (by simp) hψ
  have k3:=h.rd #[v] v χ (by simp) hχ
  split at hr
  ·rename_i i q hi hq
   split at hr
   ·rename_i kv hkv
    split at hr
    ·rename_i p hp
     split at hr
     ·rename_i y0 z hb hy hz
      rw[zLR]at hb;obtain⟨hkq,hbe⟩:=hb;obtain⟨rfl,st,hk⟩:=N1 hq;have ht:=(hE.T Y i hi).ty
      rw[Ra hkv]at ht;have hK':=(hE.T _ p hp).key hkq
      rw[Ty.J3 hbe]at hK';have hy':=S3 hK'.clo (AV.Z1 hE.G h.m hy k2)
      have fC:=h.pos _ _ hk rfl;have hO:Z5 (X.ι q.1) (gX q.2.2.1) (q.2.2.2.1.gr X.P) (X.B q.2.1) X.O w (X.U q.1) q.2.2.2.2:=h.m _ _ hk
      refine pY h.ok0 h.base (h.okB q.2.1) ht hK' k1.1 hO fC.1 hy' (AV.Z1 hE.G h.m hz k3) fun w' q1 q2 q3=>hK _ undef _ (h.mod hk rfl q2 q3 fun X' e1 e2 e3 e4 e5 e6 fT=>?_) (Inv.mod _ _ _) hr
      show Z5 _ _ _ _ _ _ _ _
      rw[e6,e1,e4,e5,Cx.KL e2 e3];exact q1
     ·cases hr
    ·cases hr
   ·cases hr
  ·cases hr
 ·cases hr
theorem NG(hE:E.ok X.P)(h:RelX F s a w X){m x v:Operand}:gG F s a w ⟨none,.insert Y m x v,T,pos,aft,g⟩ (qd E s Y k (rdO s.ep s.L [] [] m) (rdO s.ep s.L [] [] x) (rdO s.ep s.L [] [] v)) k :=
 rU (T:=T) (pos:=pos) (aft:=aft) (g:=g) hE h
end
abbrev OwQ:=TypeId×(t:Ty)×List t.D
def Yh:List (Option TypeId)->(rs:Ty)->rs.D->Option (List OwQ)
 |some T::ks,.cons a b,y=>match slT a y.1 with
  |some q=>match q.1.closed,Yh ks b y.2 with
   |true,some l=>some ((T,q)::l)
   |_,_=>none
  |none=>none
 |none::ks,.cons a b,y=>match a.closed with
  |true=>Yh ks b y.2
  |false=>none
 | [],.nil,_=>some []
 |_,_,_=>none
def Co(k:Nat):List (Option TypeId)->(rs:Ty)->rs.D->AV
 |some _::ks,.cons _ b,y=>.pr (.ob k) (Co (k+1) ks b y.2)
 |none::ks,.cons a b,y=>.pr (.rd a y.1) (Co k ks b y.2)
 |_,_,_=>.un
def nA(φ:AV):AV:=match φ with
 |.pr ψ .un=>ψ
 |φ=>.tp φ
theorem GD{X':Cx}{w1:World}{φ:AV}{vs:List Value}{v:Value}(h:(φ.sem X' w1).l vs)(fC:vs≠[])(ht:kP vs v):(nA φ).holds X' w1 v:=by
 have hv:v=tup vs:=ht.resolve_left fC;by_cases hu:∃ψ,φ=.pr ψ .un
 ·obtain⟨ψ,rfl⟩:=hu
  obtain⟨v1,bI,h1,h2,h3⟩:=h;rw[show bI=[] from h3]at h1
  show ψ.holds X' w1 v
  rw[hv,h1];exact h2
 ·have e:nA φ=.tp φ:=by
   cases φ<;>try rfl
   rename_i a b;cases b<;>first|rfl|exact zLh ⟨_,rfl⟩ hu
  rw[e]
  match vs,fC with
  | [v1],_ =>
   exfalso;cases φ<;>try exact h.elim
   ·cases h
   ·rename_i a b
    obtain⟨_,bI,h1,_,h3⟩:=h;cases h1;cases b<;>try exact h3.elim
    ·exact hu ⟨_,rfl⟩
    ·obtain⟨_,_,h4,_⟩:=h3;cases h4
  |v1::v2::vs,_=>exact⟨_,h,hv⟩
structure OwU(P:Program)(B:Nat)(w:World)(q:OwQ)(u:Value):Prop where
 c:q.2.1.closed=true
 o:∃vs,OwnS w B q.1 (q.2.1.gr P).sz u vs/\∀O,yk (q.2.1.gr P) O w vs q.2.2
theorem Xy{P:Program}{t:Ty}(hc:t.closed=true){O O' w}:∀ {vs:List Value} {xs:List t.D},yk (t.gr P) O w vs xs->yk (t.gr P) O' w vs xs
 | [],[],_=>trivial
 |v::vs,x::xs,h=>⟨XO hc h.1,Xy hc h.2⟩
 | [],_::_,h=>h.elim
 |_::_,[],h=>h.elim
def UZ(P:Program)(B:Nat)(w:World):List OwQ->List Value->Prop
 | [],[]=>True
 |q::qs,u::us=>OwU P B w q u/\UZ P B w qs us/\∀g,u.ownBlock=some g->∀u'∈us,u'.ownBlock≠some g
 |_,_=>False
theorem Xz{P:Program}{O:zR}{B:Nat}{w1:World}:∀ {ks:List (Option TypeId)} {rs:Ty} {y:rs.D} {vs:List Value} {qs:List OwQ},Yh ks rs y=some qs->Y0 P O B w1 ks rs vs y ->
  ∃us,UZ P B w1 qs us/\(∀u∈us,∀g,u.ownBlock=some g->g∈K0 ks vs)/\∀(X':Cx) (k:Nat),X'.P=P->(∀(j:Nat) u,us[j]?=some u->X'.U (k+j)=u/\k+j<X'.n/\u.oneCell'=true)->((Co k ks rs y).sem X' w1).l vs
 |some T::ks,.cons a b,y,vs,qs,hq,h=>by
  simp only[Yh]at hq;split at hq
  ·rename_i q hs
   split at hq
   ·rename_i l hc hl
    cases hq
    obtain⟨v,vs',h1,h2,h3,h4⟩:=h;obtain⟨e,he⟩:=Qx hs;subst e;obtain⟨us,f1,f2,f3⟩:=Xz hl h3;have h2:kx (q.1.gr P) T B O w1 v y.1:=h2
    have he:y.1=q.2:=he;rw[he]at h2;obtain⟨zs,g1,g2⟩:=h2;refine⟨v::us,⟨⟨hc,zs,g1,fun O=>Xy hc g2⟩,f1,fun g hg u' hu' hg'=>h4 g hg (f2 u' hu' g hg')⟩,?_,fun X' k hP hU=>⟨v,vs',h1,?_,f3 X' (k+1) hP fun j u hj=>?_⟩⟩
    ·intro u hu g hg
     rw[h1];simp only[K0,zLa,Option.mem_toList];rcases zLV.1 hu with rfl|hu
     ·exact .inl hg
     ·exact .inr (f2 u hu g hg)
    ·obtain⟨p1,p2,p3⟩:=hU 0 v rfl
     exact⟨p1.symm,p2,p3⟩
    ·have:=hU (j+1) u hj
     rwa[show k+(j+1)=k+1+j by omega]at this
   ·cases hq
  ·cases hq
 |none::ks,.cons a b,y,vs,qs,hq,h=>by
  simp only[Yh]at hq;split at hq
  ·rename_i hc
   obtain⟨v,vs',h1,h2,h3,_⟩:=h;obtain⟨us,f1,f2,f3⟩:=Xz hq h3;refine⟨us,f1,fun u hu g hg=>by rw[h1];simpa[K0,nN] using f2 u hu g hg,fun X' k hP hU=>⟨v,vs',h1,?_,f3 X' k hP hU⟩⟩
   show (a.gr X'.P).v _ _ _ _
   rw[hP];exact XO hc h2
  ·cases hq
 | [],.nil,y,vs,qs,hq,h=>by
  cases hq
  exact⟨[],trivial,(fun u hu=>by cases hu),fun X' k hP hU=>h⟩
 | [],.int _,_,_,_,h,_ | [],.bool,_,_,_,h,_ | [],.str,_,_,_,h,_ | [],.sl _,_,_,_,h,_ | [],.cons ..,_,_,_,h,_ | [],.arr ..,_,_,_,h,_ | [],.box ..,_,_,_,h,_ | [],.fn ..,_,_,_,h,_ | [],.seq ..,_,_,_,h,_ | [],.slo ..,_,_,_,h,_ | [],.mp ..,_,_,_,h,_=>by cases h
 |some _::_,.int _,_,_,_,h,_|some _::_,.bool,_,_,_,h,_|some _::_,.str,_,_,_,h,_|some _::_,.sl _,_,_,_,h,_|some _::_,.nil,_,_,_,h,_|some _::_,.arr ..,_,_,_,h,_|some _::_,.box ..,_,_,_,h,_|some _::_,.fn ..,_,_,_,h,_|some _::_,.seq ..,_,_,_,h,_|some _::_,.slo ..,_,_,_,h,_|some _::_,.mp ..,_,_,_,h,_=>by cases h
 |none::_,.int _,_,_,_,h,_|none::_,.bool,_,_,_,h,_|none::_,.str,_,_,_,h,_|none::_,.sl _,_,_,_,h,_|none::_,.nil,_,_,_,h,_|none::_,.arr ..,_,_,_,h,_|none::_,.box ..,_,_,_,h,_|none::_,.fn ..,_,_,_,h,_|none::_,.seq ..,_,_,_,h,_|none::_,.slo ..,_,_,_,h,_|none::_,.mp ..,_,_,_,h,_=>by cases h
def tgs(O:zR):Nat->List Value->zR
 |_,[]=>O
 |τ,u::us=>tag (tgs O (τ+1) us) u.ownBlock τ
theorem uV{O:zR}{b:Nat}:∀ {τ:Nat} {us:List Value},(∀u∈us,u.ownBlock≠some b)->tgs O τ us b=O b
 |_,[],_=>rfl
 |τ,u::us,h=>by
  unfold tgs;rw[vt (h u (by simp)),uV fun u' hu'=>h u' (by simp[hu'])]
theorem qF{A:Nat->Prop}{O Oc:zR}{w0 w:World}(h:Base A O w0 Oc w):∀ {τ:Nat} {us:List Value},τ≠0->(∀u∈us,∀g,u.ownBlock=some g->A g/\g<w.heap.size)->Base A O w0 (tgs Oc τ us) w
 |_,[],_,_=>h
 |τ,u::us,h0,hu=>(qF h (τ:=τ+1) (us:=us) (by omega) fun u' hu'=>hu u' (by simp[hu'])).tag h0 (hu u (by simp))
def S.rN(s:S)(d:Option Tmp)(φ:AV):List OwQ->S
 | []=>s.put d φ
 |q::qs=>(s.obj none (.sl true q.2.1 q.1 q.2.2) .top).rN d φ qs
theorem Inv.rN{d:Option Tmp}{φ:AV}:∀(qs:List OwQ) (s:S),Inv s (s.rN d φ qs)
 | [],s=>Inv.put _ _ _
 |q::qs,s=>(Inv.obj _ _ _ _).trans (Inv.rN qs _)
section
variable {F:Frm} {a:Act} {d:Option Tmp} {v:Value} {φ:AV} {O':zR} {w':World}
theorem mQ(hd:F.dst d)(hB:Base F.A F.O0 F.w0 O' w'):∀ {qs:List OwQ} {us:List Value} {s:S} {X:Cx} {w:World} {τ:Nat},RelX F s a w X->Ext w w'->KX none X.O w O' w'->(qs=[]->X.O=O')->(τ≠0/\F.x.st<τ)->(∀k e,look s.M k=some e->X.ι k<τ) ->
  qs.length=us.length->(∀(j:Nat) q u,qs[j]?=some q->us[j]?=some u->zo (τ+j) (q.2.1.gr X.P) q.1 (Go.Lift.Fr F.w0) O' w' u q.2.2) ->
  (∀X':Cx,X'.P=X.P->X'.O=O'->(∀k,k<X.n->X'.U k=X.U k)->X.n<=X'.n->(∀(j:Nat) u,us[j]?=some u->X'.U (s.n+j)=u/\s.n+j<X'.n/\u.oneCell'=true)->φ.holds X' w' v)->Rel F (s.rN d φ qs) (a.put d v) w'
 | [],us,s,X,w,τ,h,hE,hk,h0,hτ,hι,hl,hO,hφ=>by
  have bX:us=[]:=List.eq_nil_of_length_eq_zero hl.symm;subst bX;exact⟨_,h.val hE hd (hφ X rfl (h0 rfl) (fun _ _=>rfl) (zLT _) fun j u hj=>by simp at hj)⟩
 |q::qs,[],s,X,w,τ,h,hE,hk,h0,hτ,hι,hl,hO,hφ=>by cases hl
 |q::qs,u::us,s,X,w,τ,h,hE,hk,h0,hτ,hι,hl,hO,hφ=>by
  have tU:zo τ (q.2.1.gr X.P) q.1 (Go.Lift.Fr F.w0) O' w' u q.2.2:=hO 0 q u rfl rfl;obtain⟨X2,r1,r2,r3,r4,r5,r6,r7,r8⟩:=h.zHV (d:=none) hE (fun _ e=>nomatch e) (v:=u) (u:=u) (mv:=.sl true q.2.1 q.1 q.2.2) (φ:=.top) hB hk ⟨hτ.1,by omega⟩ (fun k e he=>by have:=hι k e he;omega)
   (fun X' e1 e2 e3 e4 e5 e6 e7 e8 fT=>⟨trivial,by
    show zo _ _ _ _ _ _ _ _
    rw[e7,e8,e1,e4];show zo _ _ _ (X'.F) _ _ _ _
    rw[e3,h.Fn];exact tU⟩)
  have hn:(s.obj none (.sl true q.2.1 q.1 q.2.2) .top).n=s.n+1:=rfl
  refine mQ hd hB (qs:=qs) (us:=us) (τ:=τ+1) r1 (Ext.refl _) ⟨zLT _,fun b _ _=>⟨by rw[r3],rfl⟩⟩ (fun _=>r3) ⟨by omega,by omega⟩ (fun k e he=>?_) (by simpa using hl) (fun j q' u' hq hu=>?_) (fun X' hP hO' hUo aS hU=>hφ X' (hP.trans r2) hO' (fun k hk=>(hUo k (by rw[r8];have:=h.n;omega)).trans (r7.U k hk)) (zLY r7.n aS) fun j u' hj=>?_)
  ·rcases zD he with ⟨h1,h2⟩|⟨h1,h2⟩
   ·subst h1;rw[r6];omega
   ·rw[r5 k (Ne.symm h1)];have:=hι k e h2;omega
  ·have:=hO (j+1) q' u' hq hu
   rw[show τ+(j+1)=τ+1+j by omega]at this
   rw[r2];exact this
  ·cases j with
   |zero =>
    simp only[List.getElem?_cons_zero,zLo]at hj;subst hj;exact⟨(hUo s.n (by rw[r8];omega)).trans r4,by rw[r8]at aS;omega,ZG tU⟩
   |succ j =>
    have:=hU j u' hj;rw[hn]at this;rwa[show s.n+1+j=s.n+(j+1) by omega]at this
end
theorem qZ{P:Program}{B:Nat}{w:World}:∀ {qs:List OwQ} {us:List Value},UZ P B w qs us->qs.length=us.length
 | [],[],_=>rfl
 |q::qs,u::us,h=>by simp[qZ h.2.1]
 | [],_::_,h=>h.elim
 |_::_,[],h=>h.elim
theorem CU{P:Program}{B:Nat}{w:World}:∀ {qs:List OwQ} {us:List Value},UZ P B w qs us->∀u∈us,∃q,OwU P B w q u
 | [],[],_,u,hu=>by cases hu
 |q::qs,u0::us,h,u,hu=>by
  rcases zLV.1 hu with rfl|hu
  ·exact⟨q,h.1⟩
  ·exact CU h.2.1 u hu
 | [],_::_,h,_,_=>h.elim
 |_::_,[],h,_,_=>h.elim
theorem CT{P:Program}{B:Nat}{w:World}{O:zR}:∀ {qs:List OwQ} {us:List Value} {τ:Nat},UZ P B w qs us->∀(j:Nat) q u,qs[j]?=some q->us[j]?=some u->OwU P B w q u/\∀g,u.ownBlock=some g->tgs O τ us g=τ+j
 | [],[],_,_,j,q,u,hq,_=>by simp at hq
 |q0::qs,u0::us,τ,h,j,q,u,hq,hu=>by
  cases j with
  |zero =>
   simp only[List.getElem?_cons_zero,zLo]at hq hu;subst hq hu;exact⟨h.1,fun g hg=>by unfold tgs;rw[hg];exact yg _ _ _⟩
  |succ j =>
   have hq':qs[j]?=some q:=by simpa using hq
   have hu':us[j]?=some u:=by simpa using hu
   obtain⟨r1,r2⟩:=CT (O:=O) (τ:=τ+1) h.2.1 j q u hq' hu';refine⟨r1,fun g hg=>?_⟩
   unfold tgs;rw[vt (fun e=>h.2.2 g e u (zLW hu') hg),r2 g hg]
   omega
 | [],_::_,_,h,_,_,_,_,_=>h.elim
 |_::_,[],_,h,_,_,_,_,_=>h.elim
def zAu(ks:List (Option TypeId)):Bool:=Nat.ble 2 (ks.filter Option.isSome).length
theorem RelX.zDh{F:Frm}{s:S}{a:Act}{w w':World}{X:Cx}(h:RelX F s a w X)(hE:Ext w w'){d:Option Tmp}(hd:F.dst d){v:Value}{ks:List (Option TypeId)}{rs:Ty}{y:rs.D}{vs:List Value}{qs:List OwQ}(hm:zAu ks=true)(hq:Yh ks rs y=some qs)(hr:Y0 X.P X.O w.heap.size w' ks rs vs y)(ht:kP vs v) :
  Rel F (s.rN d (nA (Co s.n ks rs y)) qs) (a.put d v) w':=by
 have fC:vs≠[]:=by
  intro e;subst e
  match ks,rs,y,hq,hr,hm with
  | [],_,_,_,_,hm=>cases hm
  |k::ks,.cons a b,y,hq,h,_=>obtain⟨v,vs',h1,_⟩:=h;cases h1
 obtain⟨us,f1,_,f3⟩:=Xz hq hr;obtain⟨τ,aI,hτ1⟩:∃τ,(τ≠0/\F.x.st<τ)/\∀k e,look s.M k=some e->X.ι k<τ:=by
  refine⟨1+F.x.st+(s.M.map fun e=>X.ι e.1).sum,⟨by omega,by omega⟩,fun k e h=>?_⟩
  have:=w8 (l:=s.M.map fun e=>X.ι e.1) (x:=X.ι k) (List.mem_map.2 ⟨_,kz h,rfl⟩)
  omega
 have sT:∀u∈us,∀g,u.ownBlock=some g->w.heap.size<=g/\g<w'.heap.size:=fun u hu g hg=>by
  obtain⟨q,hq⟩:=CU f1 u hu;obtain⟨zs,g1,_⟩:=hq.o;exact⟨g1.Kb g hg,g1.gC g hg⟩
 have hB:=h.base.step hE h.ok0;have hs:=h.base.size
 refine mQ hd (qF (τ:=τ) (us:=us) hB aI.1 fun u hu g hg=>⟨hB.new g (by have:=(sT u hu g hg).1;omega),(sT u hu g hg).2⟩) h hE ⟨hE.size,fun b hb _=>⟨uV fun u hu e=>by have:=(sT u hu b e).1;omega,hE.block b hb⟩⟩ (fun e=>?_) aI hτ1 (qZ f1) (fun j q u hqj oP=>?_) fun X' hP _ _ _ hU=>GD (f3 X' s.n hP hU) fC ht
 ·subst e
  have:=qZ f1;have:us=[]:=List.eq_nil_of_length_eq_zero this.symm
  subst this;rfl
 ·obtain⟨r1,r2⟩:=CT (O:=X.O) (τ:=τ) f1 j q u hqj oP
  obtain⟨zs,g1,g2⟩:=r1.o;exact⟨zs,g1.mono (Nat.zero_le _),g2 _,fun g hg=>⟨r2 g hg,by have:=(sT u (zLW oP) g hg).1;show F.w0.heap.size<=g;omega⟩⟩
def Knd.q:(k:Knd)->k.D->List OwQ
 |.o _ t T,xs=>[(T,⟨t,xs⟩)]
 |.pr a b,x=>a.q x.1++b.q x.2
 |.ag l,x=>l.q x
 |_,_=>[]
def Knd.a(n:Nat):(k:Knd)->k.D->AV
 |.v t,x=>.rd t x
 |.o ..,_=>.ob n
 |.un,_=>.un
 |.pr a b,x=>.pr (a.a n x.1) (b.a (n+(a.q x.1).length) x.2)
 |.ag l,x=>.ag (l.a n x)
 |_,_=>.top
theorem wz{P:Program}{O:zR}{w:World}{B:Nat}:∀ {k:Knd} {x:k.D} {cs us:List Value},Ca P O w B k x cs us->(k.q x).length=us.length/\∀(j:Nat) q u,(k.q x)[j]?=some q->us[j]?=some u->u.oneCell'=true/\∃vs,OwnS w B q.1 (q.2.1.gr P).sz u vs/\yk (q.2.1.gr P) O w vs q.2.2
 |.v t,x,cs,us,h=>by obtain⟨_,rfl⟩:=h;exact⟨rfl,fun j q u hq=>by simp[Knd.q]at hq⟩
 |.o nw t T,xs,cs,us,h=>by
  obtain⟨u,vs,rfl,rfl,h0,h1,h2⟩:=h;refine⟨rfl,fun j q u' hq hu=>?_⟩
  cases j with
  |zero=>simp[Knd.q]at hq hu;subst hq hu;exact⟨h0,vs,h1,h2⟩
  |succ j=>simp[Knd.q]at hq
 |.un,_,cs,us,h=>by obtain⟨_,rfl⟩:=h;exact⟨rfl,fun j q u hq=>by simp[Knd.q]at hq⟩
 |.pr a b,x,cs,us,h=>by
  obtain⟨c1,c2,u1,u2,rfl,rfl,h1,h2⟩:=h;obtain⟨a1,a2⟩:=wz h1;obtain⟨b1,b2⟩:=wz h2;refine⟨by simp[Knd.q,a1,b1],fun j q u hq hu=>?_⟩
  simp only[Knd.q]at hq;by_cases hj:j<u1.length
  ·rw[zLf (by omega)]at hq
   rw[zLf hj]at hu;exact a2 j q u hq hu
  ·rw[zLg (by omega),a1]at hq
   rw[zLg (by omega)]at hu
   exact b2 _ q u hq hu
 |.ag l,x,cs,us,h=>wz (k:=l) h
 |.m ..,_,_,_,h=>h.elim
 |.bv ..,_,_,_,h=>h.elim
theorem lf{P:Program}{O:zR}{w:World}{B:Nat}{X':Cx}(hP:X'.P=P)(hk:zb 0 O w X'.O w):∀ {k:Knd} {x:k.D} {cs us:List Value} {n:Nat},Ca P O w B k x cs us->(∀(j:Nat) u,us[j]?=some u->X'.U (n+j)=u/\n+j<X'.n)->((k.a n x).sem X' w).c cs
 |.v t,x,cs,us,n,h,hU=>by
  show (t.gr X'.P).rel X'.O w cs x
  rw[hP];exact GR.mono _ hk h.1
 |.o nw t T,xs,cs,us,n,h,hU=>by
  obtain⟨u,vs,rfl,rfl,h0,h1,h2⟩:=h;obtain⟨g1,g2⟩:=hU 0 u rfl;exact⟨u,rfl,h0,g1.symm,g2,h0⟩
 |.un,_,cs,us,n,h,hU=>by obtain⟨rfl,rfl⟩:=h;exact rfl
 |.pr a b,x,cs,us,n,h,hU=>by
  obtain⟨c1,c2,u1,u2,rfl,rfl,h1,h2⟩:=h;have hl:=(wz h1).1
  have a1:=lf hP hk (n:=n) h1 fun j u hj=>hU j u (by rw[zLf (zLX.1 hj).1];exact hj)
  have b1:=lf hP hk (n:=n+(a.q x.1).length) h2 fun j u hj=>by
   have:=hU (u1.length+j) u (by rw[zLg (by omega),Nat.add_sub_cancel_left];exact hj)
   rw[hl];rwa[<-Nat.add_assoc]at this
  exact⟨c1,c2,rfl,a1,b1⟩
 |.ag l,x,cs,us,n,h,hU=>lf (k:=l) hP hk (n:=n) h hU
 |.m ..,_,_,_,_,h,_=>h.elim
 |.bv ..,_,_,_,_,h,_=>h.elim
def Knd.zEw:Knd->Bool
 |.v _|.o .. | .ag _=>true
 |_=>false
theorem zBd{P:Program}{O:zR}{w:World}{B:Nat}{X':Cx}(hP:X'.P=P)(hk:zb 0 O w X'.O w){k:Knd}{x:k.D}{cs us:List Value}{n:Nat}(hv:k.zEw=true)(h:Ca P O w B k x cs us)(hU:∀(j:Nat) u,us[j]?=some u->X'.U (n+j)=u/\n+j<X'.n):(k.a n x).holds X' w (yC k.agg cs):=by
 have hc:=lf hP hk (n:=n) h hU
 cases k with
 |v t=>exact zHQ hc
 |o nw t T =>
  obtain⟨u,vs,rfl,rfl,h0,h1,h2⟩:=h;obtain⟨g1,g2⟩:=hU 0 u rfl;exact⟨g1.symm,g2,h0⟩
 |ag l=>exact⟨cs,hc,rfl⟩
 |_=>cases hv
def Knd.D3:Knd->Bool
 |.pr a b=>a.zEw && b.D3
 |.un=>true
 |_=>false
theorem GX{P:Program}{O:zR}{w:World}{B:Nat}{X':Cx}(hP:X'.P=P)(hk:zb 0 O w X'.O w):∀ {k:Knd} {x:k.D} {vs us:List Value} {n:Nat},k.D3=true->Kz P O w B k x vs us->(∀(j:Nat) u,us[j]?=some u->X'.U (n+j)=u/\n+j<X'.n)->((k.a n x).sem X' w).l vs
 |.pr a b,x,vs,us,n,hv,h,hU=>by
  simp only[Knd.D3,zLR]at hv;obtain⟨v,vs',u1,u2,cs,rfl,rfl,rfl,h1,h2⟩:=h;have hl:=(wz h1).1
  refine⟨_,vs',rfl,zBd hP hk hv.1 h1 fun j u hj=>hU j u (by rw[zLf (zLX.1 hj).1];exact hj),GX hP hk hv.2 h2 fun j u hj=>?_⟩
  have:=hU (u1.length+j) u (by rw[zLg (by omega),Nat.add_sub_cancel_left];exact hj)
  rw[hl];rwa[<-Nat.add_assoc]at this
 |.un,_,vs,us,n,_,h,hU=>h.1
 |.v _,_,_,_,_,_,h,_|.o ..,_,_,_,_,_,h,_|.m ..,_,_,_,_,_,h,_|.bv ..,_,_,_,_,_,h,_|.ag _,_,_,_,_,_,h,_=>h.elim
theorem GW{P:Program}{O:zR}{w:World}{B:Nat}:∀ {k:Knd} {x:k.D} {vs us:List Value},Kz P O w B k x vs us->(k.q x).length=us.length/\∀(j:Nat) q u,(k.q x)[j]?=some q->us[j]?=some u->u.oneCell'=true/\∃vs,OwnS w B q.1 (q.2.1.gr P).sz u vs/\yk (q.2.1.gr P) O w vs q.2.2
 |.pr a b,x,vs,us,h=>by
  obtain⟨v,vs',u1,u2,cs,rfl,rfl,_,h1,h2⟩:=h;obtain⟨a1,a2⟩:=wz h1;obtain⟨b1,b2⟩:=GW h2;refine⟨by simp[Knd.q,a1,b1],fun j q u hq hu=>?_⟩
  simp only[Knd.q]at hq;by_cases hj:j<u1.length
  ·rw[zLf (by omega)]at hq
   rw[zLf hj]at hu;exact a2 j q u hq hu
  ·rw[zLg (by omega),a1]at hq
   rw[zLg (by omega)]at hu
   exact b2 _ q u hq hu
 |.un,_,vs,us,h=>by obtain⟨_,rfl⟩:=h;exact⟨rfl,fun j q u hq=>by simp[Knd.q]at hq⟩
 |.v _,_,_,_,h|.o ..,_,_,_,h|.m ..,_,_,_,h|.bv ..,_,_,_,h|.ag _,_,_,_,h=>h.elim
def Knd.un?:Knd->Bool
 |.un=>true
 |_=>false
theorem NV{P:Program}{O:zR}{w:World}{B:Nat}{k:Knd}{x:k.D}{vs us:List Value}(hn:k.un?=false)(h:Kz P O w B k x vs us):vs≠[]:=by
 cases k<;>first|exact h.elim|cases hn|skip
 obtain⟨v,vs',u1,u2,cs,rfl,_⟩:=h;simp
theorem Ux{O:zR}{us:List Value}{b:Nat}(h:uA O us b=0):O b=0/\∀u∈us,u.ownBlock≠some b:=by
 unfold uA at h;split at h
 ·cases h
 ·rename_i hn
  refine⟨h,fun u hu e=>hn ?_⟩
  rw[List.any_eq_true];exact⟨u,hu,by rw[e];simp⟩
theorem Qq{O:zR}:∀ {us:List Value} {τ:Nat},(us.filterMap Value.ownBlock).Nodup->∀(j:Nat) u g,us[j]?=some u->u.ownBlock=some g->tgs O τ us g=τ+j
 | [],_,_,j,u,g,h,_=>by simp at h
 |u0::us,τ,hn,j,u,g,hu,hg=>by
  have hnt:(us.filterMap Value.ownBlock).Nodup:=by
   cases h0:u0.ownBlock with
   |none=>simpa[h0] using hn
   |some g0=>rw[List.filterMap_cons_some h0]at hn;exact(List.nodup_cons.1 hn).2
  cases j with
  |zero =>
   simp only[List.getElem?_cons_zero,zLo]at hu;subst hu;unfold tgs;rw[hg];exact yg _ _ _
  |succ j =>
   have hu':us[j]?=some u:=by simpa using hu
   have fC:u0.ownBlock≠some g:=fun h0=>by
    rw[List.filterMap_cons_some h0]at hn;exact(List.nodup_cons.1 hn).1 (List.mem_filterMap.2 ⟨u,zLW hu',hg⟩)
   unfold tgs;rw[vt fC,Qq (τ:=τ+1) hnt j u g hu' hg];omega
section
variable {F:Frm} {s:S} {a:Act} {w w':World} {X:Cx}
theorem RelX.zKq(h:RelX F s a w X)(hE:Ext w w'){d:Option Tmp}(hd:F.dst d){v:Value}{kd:Knd}{y:kd.D}{vs us:List Value}(hv:kd.D3=true)(hun:kd.un?=false)(hr:Kz X.P (uA X.O us) w' w.heap.size kd y vs us)(sA:(us.filterMap Value.ownBlock).Nodup)(ht:kP vs v) :
  Rel F (s.rN d (nA (kd.a s.n y)) (kd.q y)) (a.put d v) w':=by
 have fC:=NV hun hr;obtain⟨f1,f2⟩:=GW hr;obtain⟨τ,aI,hτ1⟩:∃τ,(τ≠0/\F.x.st<τ)/\∀k e,look s.M k=some e->X.ι k<τ:=by
  refine⟨1+F.x.st+(s.M.map fun e=>X.ι e.1).sum,⟨by omega,by omega⟩,fun k e h=>?_⟩
  have:=w8 (l:=s.M.map fun e=>X.ι e.1) (x:=X.ι k) (List.mem_map.2 ⟨_,kz h,rfl⟩)
  omega
 have xK:∀u∈us,∀g,u.ownBlock=some g->w.heap.size<=g/\g<w'.heap.size:=fun u hu g hg=>by
  obtain⟨j,hj⟩:=List.mem_iff_getElem?.1 hu;have gF:j<(kd.q y).length:=by rw[f1];exact(zLX.1 hj).1
  obtain⟨_,zs,g1,_⟩:=f2 j _ u (zLv gF) hj;exact⟨g1.Kb g hg,g1.gC g hg⟩
 have hB:=h.base.step hE h.ok0;have hs:=h.base.size
 have hkt:zb 0 (uA X.O us) w' (tgs X.O τ us) w':=⟨zLT _,fun b _ hz=>by
  obtain⟨q1,q2⟩:=Ux hz;exact⟨(uV q2).trans q1,rfl⟩⟩
 refine mQ hd (qF (τ:=τ) (us:=us) hB aI.1 fun u hu g hg=>⟨hB.new g (by have:=(xK u hu g hg).1;omega),(xK u hu g hg).2⟩) h hE ⟨hE.size,fun b hb _=>⟨uV fun u hu e=>by have:=(xK u hu b e).1;omega,hE.block b hb⟩⟩ (fun e=>?_) aI hτ1 f1 (fun j q u hqj oP=>?_) fun X' hP hO' _ _ hU=>?_
 ·have:us=[]:=List.eq_nil_of_length_eq_zero (by rw[<-f1,e];rfl)
  subst this;rfl
 ·obtain⟨_,zs,g1,g2⟩:=f2 j q u hqj oP
  exact⟨zs,g1.mono (Nat.zero_le _),g2.mono hkt,fun g hg=>⟨Qq sA j u g oP hg,by have:=(xK u (zLW oP) g hg).1;show F.w0.heap.size<=g;omega⟩⟩
 ·exact GD (GX hP (by rw[hO'];exact hkt) hv hr fun j u hj=>⟨(hU j u hj).1,(hU j u hj).2.1⟩) fC ht
variable {E:VE} {d:Option Tmp} {T:TypeId} {pos:String} {aft:Array Edge} {g:Option (Nat×Bool)} {k:S->Comp β}
def mD(E:VE)(s:S)(d:Option Tmp)(φ:Option AV)(l:Option (List AV))(k:S->Comp β):Comp β:=match φ,l with
 |some (.cl f ca cb),some l=>match E.J f with
  |none=>Comp.fail
  |some fs=>match fs.kd.D3 && !fs.kd.un?,Xf ((ca.asv E.G s.M).2.2++(l.map (fun φ=>φ.asT E.G s.M)++(cb.asv E.G s.M).2.2)) fs.ps with
   |true,some z=>(fs.sem z).bind fun y=>k (s.rN d (nA (fs.kd.a s.n y)) (fs.kd.q y))
   |_,_=>Comp.fail
 |_,_=>Comp.fail
theorem DJ(hE:E.ok X.P)(h:RelX F s a w X)(hd:F.dst d){x:Operand}{xs:Array Operand}{ts:Array TypeId}:gG F s a w ⟨d,.call ⟨.value x,xs,ts⟩,T,pos,aft,g⟩ (mD E s d (rdO s.ep s.L [] [] x) (jB (rdO s.ep s.L [] []) xs.toList) k) k:=by
 intro nf y hr K Q hK;rw[<-h.P];rw[<-h.ep]at hr;unfold mD at hr;split at hr
 ·rename_i f ca cb l hφ hl
  split at hr
  ·cases hr
  ·rename_i fs hs
   split at hr
   ·rename_i z hvu hz
    rw[zLR]at hvu;obtain⟨y0,eX,hr⟩:=run_bind hr;have H:=h.rd (Op.operands (.call ⟨.value x,xs,ts⟩))
    have k1:=H x _ (by simp[Op.operands,Call.operands]) hφ
    have kA:=jT hl;have fD:=Kc hE.G h.m (a:=a) hl fun z ψ hz hψ=>H z ψ (by have hz':z∈xs:=Array.mem_toList_iff.1 hz;simp[Op.operands,Call.operands,hz']) hψ
    have xB:(xs.map a.eval)=(xs.toList.map a.eval).toArray:=by rw[<-Array.toList_map]
    obtain⟨vs,us,e1,e2,e3⟩:=k1;have A:=AV.jS hE.G ca h.m
    have B:=AV.jS hE.G cb h.m;obtain⟨f1,f2⟩:=hE.J f fs hs;have n1:=A.n e1
    have n2:=B.n e2;have fU:fs.ps.args X.P X.O w (vs++(xs.toList.map a.eval++us)) z:=kO hz (by simp[n1,n2,kA]) (Y6 (R:=fun f v=>∀t x,f t=some x->(t.gr X.P).v X.O w v x) n1 (A.e e1) (Y6 (by simp[kA]) fD (B.e e2)))
    have hp:=f2 X.O w h.okO _ _ fU nf y0 eX;refine KN (d:=d) (T:=T) (pos:=pos) (aft:=aft) (g:=g) (ts:=ts) e3 xB (XW f1 (by rw[Zc];exact hp)) K Q fun v w' pV hv=>?_
    obtain⟨rs,us',h3,h4,h5⟩:=hv;exact hK _ _ _ (h.zKq pV hd hvu.1 (by simpa using hvu.2) h4 h5 h3) (Inv.rN _ _) hr
   ·cases hr
 ·cases hr
end
section
variable {F:Frm} {s:S} {a:Act} {w:World} {X:Cx} {E:VE}
variable {d:Option Tmp} {T Y:TypeId} {pos:String} {aft:Array Edge} {g:Option (Nat×Bool)} {k:S->Comp β}
theorem CM(hE:E.ok X.P){M:MS}(hM:yD M X w)(hO:OkO X.O w){rd:Operand->Option AV}{x:Operand}{xs:Array Operand}{ts:Array TypeId}(H:ZK X w a rd (Op.operands (.call ⟨.value x,xs,ts⟩))){f:FuncId}{ca cb:AV}{l:List AV}(h1:rd x=some (.cl f ca cb))(h2:jB rd xs.toList=some l){fs:FS}(hs:E.G f=some fs)
  {z:fs.ps.D} (hz:Xf ((ca.asv E.G M).2.2++(l.map (fun φ=>φ.asT E.G M)++(cb.asv E.G M).2.2)) fs.ps=some z) {nf:Nat} {y:fs.rs.D} (hy:(fs.sem z).run nf=some y) :
  Ok X.P ⟨d,.call ⟨.value x,xs,ts⟩,T,pos,aft,g⟩ a w (fun w' v=>∃rs,kP rs v/\Y0 X.P X.O w.heap.size w' fs.rk fs.rs rs y):=by
 have k1:=H x _ (by simp[Op.operands,Call.operands]) h1
 have kA:=jT h2;have fD:=Kc hE.G hM (a:=a) h2 fun y ψ hy hψ=>H y ψ (by have hy':y∈xs:=Array.mem_toList_iff.1 hy;simp[Op.operands,Call.operands,hy']) hψ
 have xB:(xs.map a.eval)=(xs.toList.map a.eval).toArray:=by rw[<-Array.toList_map]
 obtain⟨vs,us,e1,e2,e3⟩:=k1;have A:=AV.jS hE.G ca hM
 have B:=AV.jS hE.G cb hM;obtain⟨f1,f2⟩:=hE.G f fs hs;refine KN e3 xB (XW f1 ?_);rw[Zc];have n1:=A.n e1
 have n2:=B.n e2;have fU:fs.ps.args X.P X.O w (vs++(xs.toList.map a.eval++us)) z:=kO hz (by simp[n1,n2,kA]) (Y6 (R:=fun f v=>∀t x,f t=some x->(t.gr X.P).v X.O w v x) n1 (A.e e1) (Y6 (by simp[kA]) fD (B.e e2)))
 exact f2 X.O w hO _ _ fU nf y hy
def zDz(G:FE):Option AV->Bool
 |some (.cl f _ _)=>match G f with
  |some fs=>fs.rk.any Option.isSome
  |none=>false
 |_=>false
def zGm(G:ME):Option AV->Bool
 |some (.cl f _ _)=>(G f).isSome
 |_=>false
def H5{α:Type}(G:FuncId->Option α):Option AV->Bool
 |some (.cl f _ _)=>(G f).isSome
 |_=>false
def tlV:Option (List AV)->List AV
 |some (_::l)=>l
 |_=>[]
def q9:List (Option TypeId)->Ty->Bool
 |none::ks,.cons a b=>a.closed && q9 ks b
 |some _::ks,.cons a b=>(match a with
  |.sl e=>e.closed
  |_=>false) && q9 ks b
 | [],.nil=>true
 |_,_=>false
def H3(G:FE)(M:MS)(fs:FS):MS:=match q9 fs.rk fs.rs with
 |true=>Sv G M
 |false=>M
theorem K6{P:Program}{O O':zR}{B:Nat}{w:World}:∀ {ks:List (Option TypeId)} {rs:Ty} {vs:List Value} {y:rs.D},q9 ks rs=true->Y0 P O B w ks rs vs y->Y0 P O' B w ks rs vs y
 |k::ks,.cons a b,vs,y,hl,h=>by
  obtain⟨v,vs',h1,h2,h3,h4⟩:=h
  cases k with
  |none =>
   simp only[q9,zLR]at hl;exact⟨v,vs',h1,XO hl.1 h2,K6 hl.2 h3,h4⟩
  |some T =>
   simp only[q9,zLR]at hl;refine⟨v,vs',h1,?_,K6 hl.2 h3,h4⟩;cases a<;>first|exact h2.elim|skip
   obtain⟨zs,g1,g2⟩:=h2;exact⟨zs,g1,Xy hl.1 g2⟩
 | [],.nil,vs,_,_,h=>h
 | [],.int _,_,_,h,_ | [],.bool,_,_,h,_ | [],.str,_,_,h,_ | [],.sl _,_,_,h,_ | [],.cons ..,_,_,h,_ | [],.arr ..,_,_,h,_ | [],.box ..,_,_,h,_ | [],.fn ..,_,_,h,_ | [],.seq ..,_,_,h,_ | [],.slo ..,_,_,h,_ | [],.mp ..,_,_,h,_=>by cases h
 |_::_,.int _,_,_,_,h|_::_,.bool,_,_,_,h|_::_,.str,_,_,_,h|_::_,.sl _,_,_,_,h|_::_,.nil,_,_,_,h|_::_,.arr ..,_,_,_,h|_::_,.box ..,_,_,_,h|_::_,.fn ..,_,_,_,h|_::_,.seq ..,_,_,_,h|_::_,.slo ..,_,_,_,h|_::_,.mp ..,_,_,_,h=>h.elim
def EJ(E:VE)(s:S)(d:Option Tmp)(φ:Option AV)(l:Option (List AV))(k:S->Comp β):Comp β:=match φ,l with
 |some (.cl f ca cb),some l=>match E.G f with
  |none=>Comp.fail
  |some fs=>match Xf ((ca.asv E.G (H3 E.G s.M fs)).2.2++(l.map (fun φ=>φ.asT E.G (H3 E.G s.M fs))++(cb.asv E.G (H3 E.G s.M fs)).2.2)) fs.ps with
   |some z=>(fs.sem z).bind fun y=>match YN fs.rk fs.rs y with
    |some q=>k (s.obj d (.sl true q.2.1 q.1 q.2.2) (Hw s.n fs.rk fs.rs y))
    |none=>match zAu fs.rk,Yh fs.rk fs.rs y with
     |true,some qs=>k (s.rN d (nA (Co s.n fs.rk fs.rs y)) qs)
     |_,_=>k (s.put d (Cg fs.rs y))
   |none=>Comp.fail
 |_,_=>Comp.fail
theorem VB{P:Program}{O:zR}{B:Nat}{w:World}{ks:List (Option TypeId)}{rs:Ty}{vs:List Value}{y:rs.D}{q:TypeId×(t:Ty)×List t.D}(hq:YN ks rs y=some q)(h:Y0 P O B w ks rs vs y):vs≠[]:=by
 intro e;subst e
 match ks,rs,y,hq,h with
 |k::ks,.cons a b,y,hq,h=>obtain⟨v,vs',h1,_⟩:=h;cases h1
theorem Ic(hE:E.ok X.P)(h:RelX F s a w X)(hd:F.dst d){x:Operand}{xs:Array Operand}{ts:Array TypeId}:gG F s a w ⟨d,.call ⟨.value x,xs,ts⟩,T,pos,aft,g⟩ (EJ E s d (rdO s.ep s.L [] [] x) (jB (rdO s.ep s.L [] []) xs.toList) k) k:=by
 intro nf y hr K Q hK;rw[<-h.P];rw[<-h.ep]at hr;unfold EJ at hr;split at hr
 ·rename_i f ca cb l hφ hl
  split at hr
  ·cases hr
  ·rename_i fs hs
   split at hr
   ·rename_i z hz
    obtain⟨y0,eX,hr⟩:=run_bind hr;have fA:Ok X.P ⟨d,.call ⟨.value x,xs,ts⟩,T,pos,aft,g⟩ a w (fun w' v=>∃rs,kP rs v/\Y0 X.P X.O w.heap.size w' fs.rk fs.rs rs y0):=by
     unfold H3 at hz;split at hz
     ·rename_i hlr
      refine yU (CM (X:=X.lent) (d:=d) (T:=T) (pos:=pos) (aft:=aft) (g:=g) (ts:=ts) hE (Bh hE.G h.m) (Nx w) (fun z ψ hz hψ=>(ψ.mono (X.le_lent w) fun _=>Ext.refl w).1 _ (h.rd _ z ψ hz hψ)) hφ hl hs hz eX) fun w' v _ hv=>?_
      obtain⟨rs,h3,h4⟩:=hv;exact⟨rs,h3,K6 hlr h4⟩
     ·exact CM (d:=d) (T:=T) (pos:=pos) (aft:=aft) (g:=g) (ts:=ts) hE h.m h.okO (h.rd _) hφ hl hs hz eX
    split at hr
    ·rename_i q hq
     refine fA K Q fun v w' pV hv=>?_
     obtain⟨rs,h3,h4⟩:=hv;obtain⟨u,h5,h6⟩:=Jl (k:=s.n) hq h4;refine hK _ _ _ (h.Cr pV hd h5 fun X' e1 fT e2 e3 e4=>?_) (Inv.obj _ _ _ _) hr
     exact Ge (h6 X' e1 e2 e3 e4) (VB hq h4) h3
    ·split at hr
     ·rename_i qs hm mJ
      refine fA K Q fun v w' pV hv=>?_
      obtain⟨rs,h3,h4⟩:=hv;exact hK _ _ _ (h.zDh pV hd hm mJ h4 h3) (Inv.rN _ _) hr
     ·refine fA K Q fun v w' pV hv=>?_
      obtain⟨rs,h3,h4⟩:=hv;exact hK _ _ _ ⟨_,h.val pV hd (uY (XF (fun b hb=>h.okO b hb) h4) h3)⟩ (Inv.put _ _ _) hr
   ·cases hr
 ·cases hr
def Wo{α:Type}:List α->Option (α×α)
 | [x,y]=>some (x,y)
 |_=>none
theorem uS{α:Type}{l:Array α}{p:α×α}(h:Wo l.toList=some p):l=#[p.1,p.2]:=by
 unfold Wo at h;split at h
 ·rename_i x y e;cases h;exact Array.ext' e
 ·cases h
def zAv:Builtin->Bool
 |.clear=>true
 |_=>false
theorem N5{b:Builtin}(h:zAv b=true):b=.clear:=by cases b<;>first|rfl|cases h
def one? {α:Type}:List α->Option α
 | [x]=>some x
 |_=>none
theorem Gf{α:Type}{l:Array α}{p:α}(h:one? l.toList=some p):l=#[p]:=by
 unfold one? at h;split at h
 ·rename_i x e;cases h;exact Array.ext' (by simpa using e)
 ·cases h
def zAb(E:VE)(s:S)(Y:TypeId)(x:Operand)(l h m:Option Operand):Option (Operand×(Nat×Bool×TypeId×(t:Ty)×List t.D)):=match l,h,m with
 |none,some y,none=>match rdO s.ep s.L [] [] x with
  |some φ=>match Xs s.M φ,look E.T Y with
   |some p,some i=>match slD i.dd with
    |some e=>match look E.T e with
     |some j=>match Nat.beq p.2.2.2.1.sz j.sz with
      |true=>some (y,p)
      |false=>none
     |none=>none
    |none=>none
   |_,_=>none
  |none=>none
 |_,_,_=>none
def isApp:Builtin->Bool
 |.append=>true
 |_=>false
theorem N6{b:Builtin}(h:isApp b=true):b=.append:=by cases b<;>first|rfl|cases h
def AV.refs:AV->List Nat
 |.ob k|.bx k _|.ba k .. | .el k .. | .sx k .. | .px k _=>[k]
 |.cl _ a b|.pr a b=>a.refs++b.refs
 |.tp l|.ag l=>l.refs
 |_=>[]
def Ci(rd:Operand->Option AV):List Operand->List Nat
 | []=>[]
 |x::xs=>match rd x with
  |some φ=>φ.refs++Ci rd xs
  |none=>Ci rd xs
def zKt:Option AV->Bool
 |some (.bx _ _)=>true
 |_=>false
def clC(G:FE):Option AV->Bool
 |some (.cl f _ _)=>match G f with
  |some fs=>fs.rs.closed || q9 fs.rk fs.rs
  |none=>true
 |some (.rd (.fn _ tr) _)=>tr.closed
 |_=>true
def UG(E:VE)(s:S)(o:Op):S:=match o with
 |.buildSlice _ _ ps=>s.XR (Ci (rdO s.ep s.L [] []) (ps.toList.map (·.2)))
 |.store _ x z=>match zKt (rdO s.ep s.L [] [] x) with
  |true=>s
  |false=>s.XR (Ci (rdO s.ep s.L [] []) [z])
 |.call c=>match c.callee with
  |.value x=>match clC E.G (rdO s.ep s.L [] [] x) && !H5 E.J (rdO s.ep s.L [] [] x) with
   |true=>s
   |false=>s.XR (Ci (rdO s.ep s.L [] []) (x::c.args.toList))
  |_=>s
 |_=>s
def Hr(E:VE)(wr:List Nat)(s:S)(o:Oper)(k:S->Comp β):Comp β:=match o.op with
 |.alloc Y=>uW E s o.dst Y k
 |.box Y x=>SY s o.dst Y (rdO s.ep s.L [] [] x) k
 |.store Y x z=>match o.dst with
  |none=>nv E s Y (rdO s.ep s.L [] [] x) (rdO s.ep s.L [] [] z) k
  |some _=>Comp.fail
 |.buildSlice Y n ps=>SX E s o.dst (Ha E.T E.G s.M (rdO s.ep s.L [] []) Y n ps.toList) k
 |.makeSlice Y x z=>EH E s o.dst Y x z ((rdO s.ep s.L [] [] z).bind AV.int?) k
 |.call c=>match c.callee with
  |.builtin b=>match isApp b with
   |true=>match Wo c.args.toList,Wo c.argTypes.toList with
    |some p,some q=>match Nat.beq q.1 q.2 with
     |true=>match zEu (rdO s.ep s.L [] [] p.1) with
      |some r=>EO E s o.dst q.1 r.1 r.2 (rdO s.ep s.L [] [] p.2) k
      |none=>SZ E s o.dst q.1 (rdO s.ep s.L [] [] p.1) (rdO s.ep s.L [] [] p.2) k
     |false=>EM E s o.dst q.1 q.2 (rdO s.ep s.L [] [] p.1) ((rdO s.ep s.L [] [] p.2).bind AV.int?) k
    |_,_=>Comp.fail
   |false=>match zAv b with
    |true=>match one? c.args.toList,one? c.argTypes.toList with
     |some x,some Y=>n5 E s o.dst Y (rdO s.ep s.L [] [] x) k
     |_,_=>Comp.fail
    |false=>nG (val E s.M s.ep s.L [] [] wr o.dst o.op) s o.dst k
  |.value x=>match zGm E.H (rdO s.ep s.L [] [] x) with
   |true=>mB E s o.dst (rdO s.ep s.L [] [] x) (jB (rdO s.ep s.L [] []) c.args.toList) k
   |false=>match H5 E.O (rdO s.ep s.L [] [] x) with
   |true =>
    let s1:=s.Z6 E (tlV (jB (rdO s.ep s.L [] []) c.args.toList))
    n9 E s1 o.dst (rdO s1.ep s1.L [] [] x) (jB (rdO s1.ep s1.L [] []) c.args.toList) k
   |false=>match H5 E.J (rdO s.ep s.L [] [] x) with
   |true=>mD E s o.dst (rdO s.ep s.L [] [] x) (jB (rdO s.ep s.L [] []) c.args.toList) k
   |false=>match H5 E.N (rdO s.ep s.L [] [] x) with
   |true=>mA E s o.dst (rdO s.ep s.L [] [] x) (jB (rdO s.ep s.L [] []) c.args.toList) k
   |false=>match zDz E.G (rdO s.ep s.L [] [] x) with
   |true=>EJ E s o.dst (rdO s.ep s.L [] [] x) (jB (rdO s.ep s.L [] []) c.args.toList) k
   |false=>nG (val E s.M s.ep s.L [] [] wr o.dst o.op) s o.dst k
  |.invoke _ _=>Comp.fail
 |.makeMap Y n=>n4 E s o.dst Y k n
 |.mapUpdate Y m x v=>match o.dst with
  |none=>qd E s Y k (rdO s.ep s.L [] [] m) (rdO s.ep s.L [] [] x) (rdO s.ep s.L [] [] v)
  |some _=>Comp.fail
 |.insert Y m x v=>match o.dst with
  |none=>qd E s Y k (rdO s.ep s.L [] [] m) (rdO s.ep s.L [] [] x) (rdO s.ep s.L [] [] v)
  |some _=>Comp.fail
 |.slice Y x l h m=>match zAb E s Y x l h m with
  |some q=>SR s o.dst q.2 ((rdO s.ep s.L [] [] q.1).bind AV.int?) k
  |none=>nG (val E s.M s.ep s.L [] [] wr o.dst o.op) s o.dst k
 |_=>nG (val E s.M s.ep s.L [] [] wr o.dst o.op) s o.dst k
theorem M8(hE:E.ok X.P)(h:RelX F s a w X)(wr:List Nat)(o:Oper)(hd:F.dst o.dst):gG F s a w o (Hr E wr s o k) k:=by
 have hv:gG F s a w o (nG (val E s.M s.ep s.L [] [] wr o.dst o.op) s o.dst k) k:=by
  refine M9 h hd ?_;rw[<-h.ep];exact J6 (R:=[]) (g:=[]) hE trivial h.okO h.m o (h.zGk o) trivial
 have xQ:gG F s a w o (Comp.fail:Comp β) k:=fun nf y hr=>nomatch hr
 obtain⟨d,op,T,pos,aft,g⟩:=o;unfold Hr;split
 ·rename_i Y e;simp only at e;subst e;exact DK hE h hd
 ·rename_i Y x e;simp only at e;subst e;exact NH h hd
 ·rename_i Y x z e;simp only at e;subst e
  split
  ·rename_i e;simp only at e;subst e;exact DA hE h
  ·exact xQ
 ·rename_i Y n ps e;simp only at e;subst e;exact NF hE h hd
 ·rename_i Y x z e;simp only at e;subst e;exact Ib hE h hd
 ·rename_i c e
  simp only at e;obtain⟨cal,xs,ts⟩:=c;split
  ·rename_i b e2
   simp only at e2;split
   ·rename_i hb
    rw[N6 hb]at e2;split
    ·rename_i p q hp hq
     split
     ·rename_i cN
      have h1:=uS hp;have h2:=uS hq
      simp only at h1 h2;have h3:=zLQ cN
      rw[<-h3]at h2;subst e2 h1 h2 e;split
      ·rename_i r hr
       exact Ig hE h hd (VD hr)
      ·exact NI hE h hd
     ·have h1:=uS hp
      have h2:=uS hq;simp only at h1 h2;subst e2 h1 h2 e;exact Ie hE h hd
    ·exact xQ
   ·split
    ·rename_i hb
     rw[N5 hb]at e2;split
     ·rename_i x Y hx hY
      have h1:=Gf hx;have h2:=Gf hY
      simp only at h1 h2;subst e2 h1 h2 e
      cases d with
      |none=>exact DD hE h
      |some d=>exact fun nf y hr=>(by cases hr)
     ·exact xQ
    ·exact hv
  ·rename_i x e2
   simp only at e2;split
   ·subst e2 e;exact DH hE h hd
   ·split
    ·subst e2 e
     obtain⟨X1,h1⟩:=Rel.Z6 (E:=E) (by rw[<-h.P];exact hE) ⟨X,h⟩ (tlV (jB (rdO s.ep s.L [] []) xs.toList))
     intro nf y hr K Q hK;exact DF (by rw[h1.P,<-h.P];exact hE) h1 hd nf y hr K Q fun s' v w' q1 q2 q3=>hK s' v w' q1 ((Inv.Z6 _ _).trans q2) q3
    split
    ·subst e2 e;exact DJ hE h hd
    split
    ·subst e2 e;exact DG hE h hd
    split
    ·subst e2 e;exact Ic hE h hd
    ·exact hv
  ·exact xQ
 ·rename_i Y n e;simp only at e;subst e;exact DC h hd
 ·rename_i Y m x v e;simp only at e;subst e
  split
  ·rename_i e;simp only at e;subst e;exact rU hE h
  ·exact xQ
 ·rename_i Y m x v e;simp only at e;subst e
  split
  ·rename_i e;simp only at e;subst e;exact NG hE h
  ·exact xQ
 ·rename_i Y x l h' m e
  simp only at e;split
  ·rename_i q hq
   unfold zAb at hq;split at hq
   ·rename_i y
    split at hq
    ·rename_i φ hφ
     split at hq
     ·rename_i p i hp hi
      split at hq
      ·rename_i e' he'
       split at hq
       ·rename_i j hj
        split at hq
        ·rename_i hs
         cases hq
         subst e;exact NB hE h hd hφ hp hi he' hj hs
        ·cases hq
       ·cases hq
      ·cases hq
     ·cases hq
    ·cases hq
   ·cases hq
  ·exact hv
 ·exact hv
def step(E:VE)(wr:List Nat)(s:S)(o:Oper)(k:S->Comp β):Comp β:=Hr E wr (UG E s o.op) o k
theorem VH(h:Rel F s a w)(o:Op):Rel F (UG E s o) a w/\Inv s (UG E s o):=by
 unfold UG;split
 ·exact⟨Rel.XR _ h,Inv.XR _ _⟩
 ·split
  ·exact⟨h,Inv.refl _⟩
  ·exact⟨Rel.XR _ h,Inv.XR _ _⟩
 ·split
  ·split
   ·exact⟨h,Inv.refl _⟩
   ·exact⟨Rel.XR _ h,Inv.XR _ _⟩
  ·exact⟨h,Inv.refl _⟩
 ·exact⟨h,Inv.refl _⟩
theorem Ki(hE:E.ok F.P)(h:Rel F s a w)(wr:List Nat)(o:Oper)(hd:F.dst o.dst):gG F s a w o (step E wr s o k) k:=by
 intro nf y hr K Q hK;obtain⟨⟨X,h1⟩,h2⟩:=VH (E:=E) h o.op;exact M8 (by rw[h1.P];exact hE) h1 wr o hd nf y hr K Q fun s' v w' g1 g2 g3=>hK s' v w' g1 (h2.trans g2) g3
def Hq(E:VE)(wr:List Nat)(k:S->Comp β):List Oper->S->Comp β
 | [],s=>k s
 |o::os,s=>step E wr s o (Hq E wr k os)
theorem Au(hE:E.ok F.P)(wr:List Nat){nf:Nat}{y:β}{ops:Array Oper}{Q:Exit->Act->World->Prop}{s0:S}:∀ {os:List Oper} {s:S} {a:Act} {w:World},Rel F s a w->Inv s0 s->(Hq E wr k os s).run nf=some y->(∀o∈os,(o.guard.isNone=true/\∀c,o.op≠.defer c)/\F.dst o.dst) ->
  (∀s' a' w',Rel F s' a' w'->Inv s0 s'->(k s').run nf=some y->Q .normal a' w')->vp (F.W Q) ops (Q .normal) os a w
 | [],s,a,w,h,hi,hr,_,hK=>hK s a w h hi hr
 |o::os,s,a,w,h,hi,hr,ho,hK=>by
  have h1:=ho o (by simp)
  have hg:o.guard=none:=by cases sM:o.guard<;>simp_all
  have hw:Region.wanted o (yielded ops a.tmps)=true:=by simp[Region.wanted,hg]
  simp only[vp,hw,if_true];refine jo h1.1.2 (Ki (k:=Hq E wr k os) hE h wr o h1.2 nf y hr _ _ fun s' v w' hR hi' hr'=>?_)
  exact Au hE wr hR (hi.trans hi') hr' (fun o' ho'=>ho o' (by simp[ho'])) hK
end
def zLA:Builtin->Bool
 |.len|.max|.min|.cap=>false
 |_=>true
def eff(G:FE):Op->Bool
 |.alloc _|.box .. | .store .. | .buildSlice .. | .makeSlice .. | .makeMap .. | .mapUpdate .. | .insert .. | .panic _|.defer _=>true
 |.call c=>match c.callee with
  |.builtin b=>zLA b
  |.value (.func f)=>match G f with
   |some fs=>!fs.rs.closed
   |none=>true
  |_=>false
 |_=>false
def Ml:List Oper->Bool
 | []=>false
 |o::os=>o.guard.isSome || Ml os
def cut(G:FE)(draw:Bool)(all:List Oper):Nat->List Oper->Nat
 |i,[]=>i
 |i,o::os=>match eff G o.op && (!Ml (o::os) && (!draw || Xq all i)) with
  |true=>i
  |false=>cut G draw all (i+1) os
def wrS:List Oper->List Nat
 | []=>[]
 |o::os=>match o.op with
  |.store _ (.tmp t) _=>t::wrS os
  |.fieldAddr _ (.tmp t) _=>match Dy o.dst (wrS os) with
   |true=>t::wrS os
   |false=>wrS os
  |.indexAddr _ (.tmp t) _=>match Dy o.dst (wrS os) with
   |true=>t::wrS os
   |false=>wrS os
  |_=>wrS os
def S5{β:Type}(c:Nat)(E:VE)(draw:Bool)(os:List Oper)(s:S)(k:S->Comp β):Comp β :=
 D0 E s.M s.ep s.L s.n (wrS os) (fun tl R F=>match !Ml tl && (!draw || Xq os R.length) with
  |true=>Hq E (wrS os) k tl { s with L:=F,n:=s.n+1 }
  |false=>Comp.fail) c 0 os [] s.L
def zLC{β:Type}(E:VE)(draw:Bool)(os:List Oper)(s:S)(k:S->Comp β):Comp β:=S5 (cut E.G draw os 0 os) E draw os s k
theorem mZ:∀ {os:List Oper},Ml os=false->∀o∈os,o.guard.isNone=true
 | [],_,o,h=>by cases h
 |o'::os,h,o,ho=>by
  simp only[Ml,Bool.or_eq_false_iff]at h;rcases zLV.1 ho with rfl|ho
  ·have:=h.1
   cases hg:o.guard<;>simp_all
  ·exact mZ h.2 o ho
theorem CG{F:Frm}{c:Nat}(fE:∀t φ,¬F.Lh t φ){E:VE}(hE:E.ok F.P){s0 s:S}{a:Act}{w:World}(hR:Rel F s a w)(hi:Inv s0 s){os:List Oper}{id nf:Nat}{draw:Bool}{β:Type}{y:β}{k:S->Comp β}{Q:Exit->Act->World->Prop}(hm:F.P.follows .mixedOrders=true)
  (fA:Xb F.N os=true) (h:(S5 c E draw os s k).run nf=some y) (hK:∀s' a' w',Rel F s' a' w'->Inv s0 s'->(k s').run nf=some y->Q .normal a' w'):F.wp (Code.region id os.toArray draw) Q a w:=by
 refine DR fE hE hR (draw:=draw) (fun _=>hm) fA h fun tl R' F' hF hr=>?_
 split at hr
 ·rename_i hb
  rw[zLR]at hb;have hg:Ml tl=false:=by simpa using hb.1
  refine⟨zLw.2 (mZ hg),fun hd=>?_,fun a' w' hR' sK=>?_⟩
  ·have:=hb.2;rw[hd]at this;simpa using this
  ·refine Au hE (wrS os) hR' (hi.trans ⟨zLc _,hF,ya⟩) hr (fun o ho=>⟨⟨mZ hg o ho,Kn fA o (sK o ho)⟩,fun t ht=>?_⟩) hK
   obtain⟨j,hj⟩:=List.mem_iff_getElem?.1 (sK o ho);exact⟨((zV (Xm fA) hj).2.1 t ht).1,fun φ=>fE t φ⟩
 ·cases hr
def AV.bd(n:Nat):AV->Prop
 |.ob k|.bx k _|.ba k .. | .el k .. | .sx k .. | .px k _=>k<n
 |.cl _ a b|.pr a b=>a.bd n/\b.bd n
 |.tp l|.ag l=>l.bd n
 |_=>True
theorem AV.S8{X:Cx}{w:World}(φ:AV):(∀u,(φ.sem X w).v u->φ.bd X.n)/\(∀vs,(φ.sem X w).l vs->φ.bd X.n)/\(∀cs,(φ.sem X w).c cs->φ.bd X.n):=by
 have one_case:∀ {q:Value->Prop} {p:Prop},(∀u,q u->p)->(∀u,(one q).v u->p)/\(∀vs,(one q).l vs->p)/\(∀cs,(one q).c cs->p) :=
  fun h=>⟨h,fun _ h=>h.elim,fun cs ⟨u,_,_,h3⟩=>h u h3⟩
 induction φ with
 |ob k=>exact one_case fun u h=>h.2.1
 |bx k off=>exact one_case fun u h=>h.1
 |ba k off sz i esz off2=>exact one_case fun u h=>h.1
 |el k i esz off2=>exact one_case fun u h=>h.1
 |sx k lo esz=>exact one_case fun u h=>h.2
 |px k n=>exact one_case fun u h=>h.2
 |yl=>exact one_case fun u h=>trivial
 |cl f a b iha ihb =>
  refine one_case fun u h=>?_
  obtain⟨vs,us,h1,h2,_⟩:=h;exact⟨iha.2.1 _ h1,ihb.2.1 _ h2⟩
 |pr a b iha ihb =>
  refine⟨fun _ h=>h.elim,fun vs h=>?_,fun cs h=>?_⟩
  ·obtain⟨v,vs',_,h2,h3⟩:=h;exact⟨iha.1 _ h2,ihb.2.1 _ h3⟩
  ·obtain⟨c1,c2,_,h2,h3⟩:=h;exact⟨iha.2.2 _ h2,ihb.2.2 _ h3⟩
 |tp l ih=>exact⟨fun u ⟨vs,h1,_⟩=>ih.2.1 _ h1,fun _ h=>h.elim,fun _ h=>h.elim⟩
 |ag l ih=>exact⟨fun u ⟨cs,h1,_⟩=>ih.2.2 _ h1,fun _ h=>h.elim,fun cs h=>ih.2.2 _ h⟩
 |_=>exact⟨fun _ _=>trivial,fun _ _=>trivial,fun _ _=>trivial⟩
structure Cx.al(X X':Cx)(n:Nat):Prop where
 P:X'.P=X.P
 O:X'.O=X.O
 U:∀k,k<n->X'.U k=X.U k
 n:n<=X'.n
 L:X'.Lp=X.Lp
theorem AV.al{X X':Cx}{n:Nat}(hX:X.al X' n){w:World}(φ:AV)(hb:φ.bd n):(∀u,(φ.sem X w).v u->(φ.sem X' w).v u)/\(∀vs,(φ.sem X w).l vs->(φ.sem X' w).l vs)/\(∀cs,(φ.sem X w).c cs->(φ.sem X' w).c cs):=by
 induction φ with
 |rd t x =>
  refine⟨fun u h=>?_,fun _ h=>h,fun cs h=>?_⟩
  ·show (t.gr X'.P).v _ _ _ _;rw[hX.P,hX.O];exact h
  ·show (t.gr X'.P).rel _ _ _ _;rw[hX.P,hX.O];exact h
 |pt t x=>refine vL fun u h=>?_;rw[hX.P,hX.O];exact h
 |ob k=>exact vL fun u h=>⟨by rw[h.1,hX.U k hb],zLe hb hX.n,h.2.2⟩
 |bx k off =>
  refine vL fun u h=>?_
  obtain⟨h1,b,h2,h3⟩:=h;exact⟨zLe hb hX.n,b,by rw[hX.U k hb];exact h2,h3⟩
 |ba k off sz i esz off2 =>
  refine vL fun u h=>?_
  obtain⟨h1,h2,h3,b,h4,h5⟩:=h;exact⟨zLe hb hX.n,h2,h3,b,by rw[hX.U k hb];exact h4,h5⟩
 |el k i esz off2 =>
  refine vL fun u h=>?_
  obtain⟨h1,h2,h3,h4⟩:=h;exact⟨zLe hb hX.n,h2,by rw[hX.U k hb];exact h3,by rw[hX.U k hb];exact h4⟩
 |pq t x =>
  refine⟨fun u h=>?_,fun _ h=>h,fun _ h=>h⟩
  show ∃v,Yy w u v/\(t.gr X'.P).v X'.O w v x
  rw[hX.P,hX.O];exact h
 |cl f a b iha ihb =>
  refine vL fun u h=>?_
  obtain⟨vs,us,h1,h2,h3⟩:=h;exact⟨vs,us,(iha hb.1).2.1 _ h1,(ihb hb.2).2.1 _ h2,h3⟩
 |un=>exact⟨fun _ h=>h,fun _ h=>h,fun _ h=>h⟩
 |pr a b iha ihb =>
  refine⟨fun _ h=>h,fun vs h=>?_,fun cs h=>?_⟩
  ·obtain⟨v,vs',h1,h2,h3⟩:=h
   exact⟨v,vs',h1,(iha hb.1).1 _ h2,(ihb hb.2).2.1 _ h3⟩
  ·obtain⟨c1,c2,h1,h2,h3⟩:=h
   exact⟨c1,c2,h1,(iha hb.1).2.2 _ h2,(ihb hb.2).2.2 _ h3⟩
 |tp l ih =>
  refine⟨fun u h=>?_,fun _ h=>h,fun _ h=>h⟩
  obtain⟨vs,h1,h2⟩:=h;exact⟨vs,(ih hb).2.1 _ h1,h2⟩
 |ag l ih =>
  refine⟨fun u h=>?_,fun _ h=>h,fun cs h=>(ih hb).2.2 _ h⟩
  obtain⟨cs,h1,h2⟩:=h;exact⟨cs,(ih hb).2.2 _ h1,h2⟩
 |ex v=>exact⟨fun _ h=>h,fun _ h=>h,fun _ h=>h⟩
 |nb p e=>exact⟨fun _ h=>h,fun _ h=>h,fun _ h=>h⟩
 |sx k lo esz=>exact vL fun u h=>⟨by rw[h.1,hX.U k hb],zLe hb hX.n⟩
 |px k n=>exact vL fun u h=>⟨by rw[hX.U k hb];exact h.1,zLe hb hX.n⟩
 |yl=>exact vL fun u h=>by rw[hX.L];exact h
 |em t=>exact⟨fun _ h=>h,fun _ h=>h,fun _ h=>h⟩
 |top=>exact⟨fun _ h=>h,fun _ h=>h,fun _ h=>h⟩
def Knd.put(st:Nat):(k:Knd)->k.D->Nat->AV×MS×Nat
 |.v t,x,n=>(.rd t x,[],n)
 |.o nw t T,xs,n=>(.ob n,[(n,st,.sl nw t T xs)],n+1)
 |.m nw a b,xs,n=>(.ob n,[(n,st,.mp nw a b xs)],n+1)
 |.bv nw t T,x,n=>(.bx n 0,[(n,st,.bx nw (.rd t x) T)],n+1)
 |.un,_,n=>(.un,[],n)
 |.pr a b,x,n =>
  let p:=a.put st x.1 n
  let q:=b.put st x.2 p.2.2
  (.pr p.1 q.1,p.2.1++q.2.1,q.2.2)
 |.ag l,x,n =>
  let p:=l.put st x n
  (.ag p.1,p.2.1,p.2.2)
def Kw:AV->Option AV
 |.ag l=>some l
 |.rd t x=>match t.agg && okE t with
  |true=>some (UP t x)
  |false=>none
 |_=>none
def Ty.zFA:Ty->Bool
 |.slo _=>false
 |_=>true
theorem Vq{P:Program}{k:Nat}{B:Nat->Prop}{O:zR}{w:World}{u:Value}{a b a' b':Ty}{xs:List (a.D×b.D)}{ys:List (a'.D×b'.D)}(e:Ty.mp a b=.mp a' b')(h:Ty.cast e xs=ys)(hO:Z5 k (gX a) (b.gr P) B O w u xs):Z5 k (gX a') (b'.gr P) B O w u ys:=by
 injection e with e1 e2
 subst e1 e2;subst h;exact hO
def Wz(M:MS):AV->Option (Nat×Bool×(a:Ty)×(b:Ty)×List (a.D×b.D))
 |.ob k=>match look M k with
  |some (_,.mp nw a b xs)=>some (k,nw,⟨a,b,xs⟩)
  |_=>none
 |_=>none
theorem Vr{M:MS}{φ:AV}{p:Nat×Bool×(a:Ty)×(b:Ty)×List (a.D×b.D)}(h:Wz M φ=some p):φ=.ob p.1/\∃e,look M p.1=some e/\e.2=.mp p.2.1 p.2.2.1 p.2.2.2.1 p.2.2.2.2:=by
 unfold Wz at h;split at h
 ·split at h
  ·rename_i k _ st nw a b xs hk
   cases h
   exact⟨rfl,_,hk,rfl⟩
  ·cases h
 ·cases h
def zAH(M:MS):AV->Option (Nat×Bool×AV×TypeId)
 |.bx k 0=>match look M k with
  |some (_,.bx nw c T)=>some (k,nw,c,T)
  |_=>none
 |_=>none
theorem WV{M:MS}{φ:AV}{p:Nat×Bool×AV×TypeId}(h:zAH M φ=some p):φ=.bx p.1 0/\∃st,look M p.1=some (st,.bx p.2.1 p.2.2.1 p.2.2.2):=by
 unfold zAH at h;split at h
 ·split at h
  ·rename_i hk;cases h;exact⟨rfl,_,hk⟩
  ·cases h
 ·cases h
def Knd.get(G:FE)(M:MS):(k:Knd)->AV->Option (k.D×List (Option Nat))
 |.v t,φ=>match t.zFA,φ.asT G M t with
  |true,some x=>some (x,[])
  |_,_=>none
 |.o nw t T,φ=>match Xs M φ with
  |some p=>match lK p.2.1 nw && Nat.beq p.2.2.1 T,(Ty.sl p.2.2.2.1).to (.sl t) p.2.2.2.2 with
   |true,some xs=>some ((xs:List t.D),[some p.1])
   |_,_=>none
  |none=>match Yk φ && nw with
   |true=>some (([]:List t.D),[none])
   |false=>none
 |.m nw a b,φ=>match Wz M φ with
  |some p=>match lK p.2.1 nw,(Ty.mp p.2.2.1 p.2.2.2.1).to (.mp a b) p.2.2.2.2 with
   |true,some xs=>some ((xs:List (a.D×b.D)),[some p.1])
   |_,_=>none
  |none=>none
 |.bv nw t T,φ=>match zAH M φ with
  |some p=>match lK p.2.1 nw && (Nat.beq p.2.2.2 T && t.zFA),p.2.2.1.asT G M t with
   |true,some x=>some (x,[some p.1])
   |_,_=>none
  |none=>none
 |.un,φ=>match φ with
  |.un=>some ((),[])
  |_=>none
 |.pr a b,φ=>match φ with
  |.pr φ1 φ2=>match a.get G M φ1,b.get G M φ2 with
   |some p,some q=>some ((p.1,q.1),p.2++q.2)
   |_,_=>none
  |_=>none
 |.ag l,φ=>match Kw φ with
  |some φ=>l.get G M φ
  |none=>none
structure Ren(X X':Cx)(n:Nat)(olds:List (Option Nat)):Prop where
 P:X'.P=X.P
 O:X'.O=X.O
 A:X'.A=X.A
 F:X'.F=X.F
 L:X'.Lp=X.Lp
 U:∀i k,olds[i]?=some (some k)->X'.U (n+i)=X.U k/\X'.ι (n+i)=X.ι k
 N:∀i,olds[i]?=some none->X'.U (n+i)=.slice none 0 0
 n:n+olds.length<=X'.n
theorem Ren.left{X X':Cx}{n:Nat}{a b:List (Option Nat)}(h:Ren X X' n (a++b)):Ren X X' n a :=
 ⟨h.P,h.O,h.A,h.F,h.L,fun i k hi=>h.U i k (by rw[zLf (zLX.1 hi).1];exact hi),fun i hi=>h.N i (by rw[zLf (zLX.1 hi).1];exact hi),by have:=h.n;rw[zLS]at this;omega⟩
theorem Ren.right{X X':Cx}{n:Nat}{a b:List (Option Nat)}(h:Ren X X' n (a++b)):Ren X X' (n+a.length) b :=
 ⟨h.P,h.O,h.A,h.F,h.L,fun i k hi=>by
   have:=h.U (a.length+i) k (by rw[zLg (by omega),Nat.add_sub_cancel_left];exact hi)
   rwa[<-Nat.add_assoc]at this,fun i hi=>by
   have:=h.N (a.length+i) (by rw[zLg (by omega),Nat.add_sub_cancel_left];exact hi)
   rwa[<-Nat.add_assoc]at this,by have:=h.n;rw[zLS]at this;omega⟩
theorem Zx{α:Type}{l m:List (Nat×α)}{t:Nat}{e:α}(h:look (l++m) t=some e):look l t=some e\/(look l t=none/\look m t=some e):=by
 induction l with
 |nil=>exact .inr ⟨rfl,h⟩
 |cons x l ih =>
  obtain⟨k,y⟩:=x;rw[List.cons_append]at h;simp only[look]at h |-
  cases hb:Nat.beq k t with
  |true=>rw[hb]at h;exact .inl h
  |false=>rw[hb]at h;exact ih h
def II(M:MS)(k:Nat):Prop:=∃e,look M k=some e/\e.2.own=true
theorem Knd.ok{X X':Cx}{G:FE}(hG:FOk X.P G){M:MS}{w:World}(hM:yD M X w){st:Nat}:∀ {kd:Knd} {φ:AV} {x:kd.D} {olds:List (Option Nat)} {n:Nat},kd.get G M φ=some (x,olds)->Ren X X' n olds ->
  (kd.put st x n).2.2=n+olds.length/\(∀u,(φ.sem X w).v u->((kd.put st x n).1.sem X' w).v u)/\(∀cs,(φ.sem X w).c cs->((kd.put st x n).1.sem X' w).c cs/\(kd.put st x n).1.zg=false)/\(kd.put st x n).1.zg=false /\
  (∀j e,look (kd.put st x n).2.1 j=some e->e.1=st/\n<=j/\j<n+olds.length/\e.2.holds X' w j)/\(∀(i:Nat) k,olds[i]?=some (some k)->II M k):=by
 intro kd
 induction kd with
 |v t =>
  intro φ x olds n h hR;simp only[Knd.get]at h;split at h
  ·rename_i y _ hy
   cases h
   have hA:=AV.jS hG φ hM;refine⟨rfl,fun u hu=>?_,fun cs hc=>⟨?_,rfl⟩,rfl,fun j e he=>(nomatch he),fun i k hi=>by simp at hi⟩
   ·show (t.gr X'.P).v _ _ _ _;rw[hR.P,hR.O];exact hA.v hy hu
   ·show (t.gr X'.P).rel _ _ _ _;rw[hR.P,hR.O];exact hA.vc hy hc
  ·cases h
 |o nw t T =>
  intro φ x olds n h hR;simp only[Knd.get]at h;have eU:olds.length=1->n<X'.n:=fun hl=>by have:=hR.n;omega
  split at h
  ·rename_i p hp
   split at h
   ·rename_i xs hb hx
    cases h
    rw[zLR]at hb;have tC:=Xo hb.1
    have aT:=zLQ hb.2;obtain⟨hU,hι⟩:=hR.U 0 p.1 rfl;rw[Nat.add_zero]at hU hι;have hn:=eU rfl
    have e9:∀u,φ.holds X w u->(AV.ob n).holds X' w u/\∃e,look M p.1=some e/\e.2=.sl p.2.1 p.2.2.2.1 p.2.2.1 p.2.2.2.2:=by
     intro u hu;obtain⟨e,h1,h2,h3,h4⟩:=wy hM hu hp;exact⟨⟨by rw[hU];exact h4,hn,ZG h3⟩,e,h1,h2⟩
    have bY:∃k,φ=.ob k/\p.1=k/\∃e,look M k=some e/\e.2=.sl p.2.1 p.2.2.2.1 p.2.2.1 p.2.2.2.2:=by
     unfold Xs at hp;split at hp
     ·split at hp
      ·rename_i k _ st' nw' t' T' xs' hk
       cases hp
       exact⟨k,rfl,rfl,_,hk,rfl⟩
      ·cases hp
     ·cases hp
    obtain⟨k,hφ,iA,e,c6,cY⟩:=bY;refine⟨rfl,fun u hu=>(e9 u hu).1,fun cs hc=>⟨?_,rfl⟩,rfl,fun j e' he'=>?_,fun i k' hi=>?_⟩
    ·subst hφ
     obtain⟨u,h1,h2,h3⟩:=hc;exact⟨u,h1,h2,(e9 u h3).1⟩
    ·rcases zD he' with ⟨h1,h2⟩|⟨_,h2⟩
     ·subst h1 h2
      refine⟨rfl,zLT _,zLd _,?_⟩;have:=hM k e c6
      rw[cY]at this;show zo _ _ _ _ _ _ _ _
      rw[hU,hι,hR.P,hR.O,Cx.KL hR.A hR.F,iA];obtain⟨e3,hx⟩:=Ty.jL hx;rw[tC,aT]at this;cases e3;cases hx;exact this
     ·cases h2
    ·match i,hi with
     |0,hi=>cases hi;rw[iA];exact⟨e,c6,by rw[cY];rfl⟩
     |i+1,hi=>simp at hi
   ·cases h
  ·split at h
   ·rename_i hb
    cases h
    rw[zLR]at hb;have hφ:=jU hb.1
    subst hφ;have hU:=hR.N 0 rfl
    rw[Nat.add_zero]at hU;have hn:=eU rfl
    refine⟨rfl,fun u hu=>⟨by rw[hU];exact hu,hn,by rw[show u=_ from hu];rfl⟩,fun cs hc=>⟨⟨.slice none 0 0,hc,rfl,hU.symm,hn,rfl⟩,rfl⟩,rfl,fun j e' he'=>?_,fun i k' hi=>?_⟩
    ·rcases zD he' with ⟨h1,h2⟩|⟨_,h2⟩
     ·subst h1 h2
      refine⟨rfl,zLT _,zLd _,?_⟩;show zo _ _ _ _ _ _ _ _
      rw[hU];exact zo.nil _ _ _ _ _ _
     ·cases h2
    ·match i,hi with
     |0,hi=>cases hi
     |i+1,hi=>simp at hi
   ·cases h
 |m nw a b =>
  intro φ x olds n h hR;simp only[Knd.get]at h;split at h
  ·rename_i p hp
   split at h
   ·rename_i xs hb hx
    cases h
    have tC:=Xo hb;obtain⟨hU,hι⟩:=hR.U 0 p.1 rfl;rw[Nat.add_zero]at hU hι;have hn:n<X'.n:=by have:=hR.n;simp at this;omega
    obtain⟨hφ,e,c6,cY⟩:=Vr hp;have hmm:=hM _ e c6
    rw[cY]at hmm;have h1c:(X.U p.1).oneCell'=true:=by
     obtain⟨c,es,clock,q1,_⟩:=hmm;rw[q1];rfl
    have e9:∀u,(φ.sem X w).v u->(AV.ob n).holds X' w u:=fun u hu=>by
     subst hφ;exact⟨by rw[hU];exact hu.1,hn,hu.2.2⟩
    refine⟨rfl,fun u hu=>e9 u hu,fun cs hc=>⟨?_,rfl⟩,rfl,fun j e' he'=>?_,fun i k' hi=>?_⟩
    ·subst hφ
     obtain⟨u,g1,g2,g3⟩:=hc;exact⟨u,g1,g2,e9 u g3⟩
    ·rcases zD he' with ⟨h1,h2⟩|⟨_,h2⟩
     ·subst h1 h2
      refine⟨rfl,zLT _,zLd _,?_⟩;show Z5 _ _ _ _ _ _ _ _
      rw[hU,hι,hR.P,hR.O,Cx.KL hR.A hR.F];obtain⟨e3,hx⟩:=Ty.jL hx;rw[tC]at hmm;exact Vq e3 hx hmm
     ·cases h2
    ·match i,hi with
     |0,hi=>cases hi;exact⟨e,c6,by rw[cY];rfl⟩
     |i+1,hi=>simp at hi
   ·cases h
  ·cases h
 |bv nw t T =>
  intro φ x olds n h hR;simp only[Knd.get]at h;split at h
  ·rename_i p hp
   split at h
   ·rename_i x' hb hx
    cases h
    rw[zLR,zLR]at hb;have tC:=Xo hb.1
    have aT:=zLQ hb.2.1;obtain⟨hU,hι⟩:=hR.U 0 p.1 rfl;rw[Nat.add_zero]at hU hι;have hn:n<X'.n:=by have:=hR.n;simp at this;omega
    obtain⟨hφ,st',hk⟩:=WV hp;obtain⟨b',cs,q1,q2,q3,q4⟩:=hM _ _ hk;have e9:∀u,(φ.sem X w).v u->(AV.bx n 0).holds X' w u:=fun u hu=>by
     subst hφ;obtain⟨_,b2,h2,h3⟩:=hu;exact⟨hn,b2,by rw[hU];exact h2,h3⟩
    refine⟨rfl,fun u hu=>e9 u hu,fun cs hc=>⟨?_,rfl⟩,rfl,fun j e' he'=>?_,fun i k' hi=>?_⟩
    ·subst hφ
     obtain⟨u,g1,g2,g3⟩:=hc;exact⟨u,g1,g2,e9 u g3⟩
    ·rcases zD he' with ⟨h1,h2⟩|⟨_,h2⟩
     ·subst h1 h2
      refine⟨rfl,zLT _,zLd _,b',cs,by rw[hU];exact q1,?_,?_,rfl⟩
      ·rw[hι,hR.O,Cx.KL hR.A hR.F,<-tC,<-aT];exact q2
      ·show (t.gr X'.P).rel X'.O w cs.toList _
       rw[hR.P,hR.O];exact(AV.jS hG p.2.2.1 hM).vc hx q3
     ·cases h2
    ·match i,hi with
     |0,hi=>cases hi;exact⟨_,hk,rfl⟩
     |i+1,hi=>simp at hi
   ·cases h
  ·cases h
 |un =>
  intro φ x olds n h hR;simp only[Knd.get]at h;split at h
  ·cases h
   exact⟨rfl,fun u hu=>hu,fun cs hc=>⟨hc,rfl⟩,rfl,fun j e he=>(nomatch he),fun i k hi=>by simp at hi⟩
  ·cases h
 |pr a b iha ihb =>
  intro φ x olds n h hR;simp only[Knd.get]at h;split at h
  ·rename_i φ1 φ2
   split at h
   ·rename_i p q hp hq
    cases h
    obtain⟨a1,a2,a3,a4,a5,a6⟩:=iha hp hR.left;obtain⟨b1,b2,b3,b4,b5,b6⟩:=ihb hq hR.right;simp only[Knd.put];rw[a1];refine⟨by rw[b1,zLS];omega,fun u hu=>hu.elim,fun cs hc=>?_,by simp[AV.zg,a4,b4],fun j e he=>?_,fun i k hi=>?_⟩
    ·obtain⟨c1,c2,h1,h2,h3⟩:=hc
     exact⟨⟨c1,c2,h1,(a3 _ h2).1,(b3 _ h3).1⟩,by simp[AV.zg,a4,b4]⟩
    ·rw[zLS]
     rcases Zx he with h1|⟨_,h1⟩
     ·obtain⟨g1,g2,g3,g4⟩:=a5 j e h1;exact⟨g1,g2,by omega,g4⟩
     ·obtain⟨g1,g2,g3,g4⟩:=b5 j e h1;exact⟨g1,by omega,by omega,g4⟩
    ·by_cases gF:i<p.2.length
     ·rw[zLf gF]at hi;exact a6 i k hi
     ·rw[zLg (by omega)]at hi;exact b6 _ k hi
   ·cases h
  ·cases h
 |ag l ih =>
  intro φ x olds n h hR;simp only[Knd.get]at h;split at h
  ·rename_i ψ hψ
   obtain⟨a1,a2,a3,a4,a5,a6⟩:=ih h hR;simp only[Knd.put];have hc:∀cs,(φ.sem X w).c cs->(ψ.sem X w).c cs:=by
    intro cs hc;unfold Kw at hψ;split at hψ
    ·cases hψ;exact hc
    ·split at hψ
     ·rename_i hb
      cases hψ
      rw[zLR]at hb;exact Et hb.2 hc
     ·cases hψ
    ·cases hψ
   refine⟨a1,fun u hu=>?_,fun cs h1=>⟨(a3 cs (hc cs h1)).1,a4⟩,a4,a5,a6⟩
   unfold Kw at hψ;split at hψ
   ·obtain⟨cs,h1,h2⟩:=hu
    exact⟨cs,(a3 cs (hc cs h1)).1,h2⟩
   ·split at hψ
    ·rename_i hb
     rw[zLR]at hb;obtain⟨cs,h1,h2⟩:=hu;refine⟨cs,(a3 cs (hc cs h1)).1,?_⟩;rw[h2,Ty.jF,hb.1];rfl
    ·cases hψ
   ·cases hψ
  ·cases h
abbrev KE:=Bool×Nat×Knd
def LD:List KE->Type
 | []=>Unit
 | [e]=>e.2.2.D
 |e::e'::l=>e.2.2.D×LD (e'::l)
def LD.hd:(e:KE)->(l:List KE)->LD (e::l)->e.2.2.D
 |_,[],x=>x
 |_,_::_,x=>x.1
def LD.tl:(e:KE)->(l:List KE)->LD (e::l)->LD l
 |_,[],_=>()
 |_,_::_,x=>x.2
def LD.mk:(e:KE)->(l:List KE)->e.2.2.D->LD l->LD (e::l)
 |_,[],x,_=>x
 |_,_::_,x,y=>(x,y)
theorem LD.Sy{e:KE}{l:List KE}{x:e.2.2.D}{y:LD l}:LD.hd e l (LD.mk e l x y)=x:=by cases l<;>rfl
theorem LD.SQ{e:KE}{l:List KE}{x:e.2.2.D}{y:LD l}:LD.tl e l (LD.mk e l x y)=y:=by
 cases l with
 |nil=>cases y;rfl
 |cons _ _=>rfl
def Cw(s:S)(t:Nat):Option (Nat×Bool×TypeId):=match look s.L t with
 |some (_,.bx k 0)=>match look s.M k with
  |some (_,.bx nw _ T)=>some (k,nw,T)
  |_=>none
 |_=>none
theorem Dv{s:S}{t:Nat}{p:Nat×Bool×TypeId}(h:Cw s t=some p):∃st c,look s.M p.1=some (st,.bx p.2.1 c p.2.2):=by
 unfold Cw at h;split at h
 ·split at h
  ·rename_i k _ st nw c T hk
   cases h;exact⟨st,c,hk⟩
  ·cases h
 ·cases h
def Wq(s:S)(t:Nat):Option (Nat×Bool×TypeId):=match look s.L t with
 |some (_,.ob k)=>match look s.M k with
  |some (_,.sl nw _ T _)=>some (k,nw,T)
  |_=>none
 |_=>none
theorem Ii{s:S}{t:Nat}{p:Nat×Bool×TypeId}(h:Wq s t=some p):∃e,look s.M p.1=some e:=by
 unfold Wq at h;split at h
 ·split at h
  ·rename_i hk;cases h;exact⟨_,hk⟩
  ·cases h
 ·cases h
def slM(M:MS)(b:Nat×Bool×TypeId):Option ((t:Ty)×List t.D):=match look M b.1 with
 |some (_,.sl nw t T xs)=>match lK nw b.2.1 && Nat.beq T b.2.2 with
  |true=>some ⟨t,xs⟩
  |false=>none
 |_=>none
theorem NO{M:MS}{b:Nat×Bool×TypeId}{r:(t:Ty)×List t.D}(h:slM M b=some r):∃st,look M b.1=some (st,.sl b.2.1 r.1 b.2.2 r.2):=by
 unfold slM at h;split at h
 ·rename_i st nw t T xs hk
  split at h
  ·rename_i hb
   rw[zLR]at hb;cases h;rw[<-Xo hb.1,<-zLQ hb.2];exact⟨st,hk⟩
  ·cases h
 ·cases h
def zFc(k st:Nat)(nw:Bool)(T:TypeId):AV->MS
 |.rd (.sl t) xs=>[(k,st,.sl nw t T xs)]
 |_=>[]
theorem zBQ{a b:Ty}{x:a.D}{y:b.D}(sW:a.agg=false)(hn:b.zFA=true)(h:a.toN b x=some y):a.to b x=some y:=by
 unfold Ty.toN at h;split at h
 ·rename_i z hz;cases h;exact hz
 ·split at h
  ·cases hn
  ·split at h
   ·rename_i ha hy
    obtain⟨e,_⟩:=Ty.jL hy;subst e;rw[sW]at ha;cases ha
   ·cases h
  ·cases h
theorem zDw{G:FE}{M:MS}{ek:Knd}{t:Ty}{xs:List t.D}{p:ek.D×List (Option Nat)}(h:ek.get G M (.rd (.sl t) xs)=some p)(st n:Nat):ek.put st p.1 n=(.rd (.sl t) xs,[],n)/\p.2=[]:=by
 cases ek with
 |v t' =>
  simp only[Knd.get]at h;split at h
  ·rename_i x hn hx
   cases h
   have hx:(Ty.sl t).toN t' xs=some x:=hx;obtain⟨e,h2⟩:=Ty.jL (zBQ rfl hn hx);subst e;have h2:xs=x:=h2
   subst h2;exact⟨rfl,rfl⟩
  ·cases h
 |o nw t' T=>simp only[Knd.get,Xs,Yk]at h;simp at h
 |m nw a b=>simp only[Knd.get,Wz]at h;cases h
 |bv nw t' T=>simp only[Knd.get,zAH]at h;cases h
 |un=>simp only[Knd.get]at h;cases h
 |pr a b=>simp only[Knd.get]at h;cases h
 |ag l=>simp only[Knd.get,Kw,Ty.agg]at h;simp at h
def lI(s:S):(l:List KE)->LD l->Nat->LS×MS×Nat
 | [],_,n=>([],[],n)
 |e::l,x,n =>
  let p:=e.2.2.put s.n (LD.hd e l x) n
  let q:=lI s l (LD.tl e l x) p.2.2
  match e.1 with
  |false=>((e.2.1,s.n,p.1)::q.1,p.2.1++q.2.1,q.2.2)
  |true=>match Cw s e.2.1 with
   |some b=>(q.1,(b.1,s.n,.bx b.2.1 p.1 b.2.2)::(p.2.1++q.2.1),q.2.2)
   |none=>match Wq s e.2.1 with
    |none=>(q.1,p.2.1++q.2.1,q.2.2)
    |some b=>(q.1,zFc b.1 s.n b.2.1 b.2.2 p.1++(p.2.1++q.2.1),q.2.2)
def bxM(M:MS)(b:Nat×Bool×TypeId):Option AV:=match look M b.1 with
 |some (_,.bx nw c T)=>match lK nw b.2.1 && Nat.beq T b.2.2 with
  |true=>some c
  |false=>none
 |_=>none
theorem Qa{M:MS}{b:Nat×Bool×TypeId}{c:AV}(h:bxM M b=some c):∃st,look M b.1=some (st,.bx b.2.1 c b.2.2):=by
 unfold bxM at h;split at h
 ·rename_i st nw c' T hk
  split at h
  ·rename_i hb
   cases h
   rw[zLR]at hb;rw[Xo hb.1,zLQ hb.2]at hk;exact⟨st,hk⟩
  ·cases h
 ·cases h
def Mm(G:FE)(s s1:S):(l:List KE)->Option (LD l×List (Option Nat)×List Nat)
 | []=>some ((),[],[])
 |e::l=>match Mm G s s1 l with
  |none=>none
  |some q=>match e.1 with
   |false=>match look s1.L e.2.1 with
    |none=>none
    |some f=>match fresh s1.ep f,e.2.2.get G s1.M f.2 with
     |true,some p=>some (LD.mk e l p.1 q.1,p.2++q.2.1,q.2.2)
     |_,_=>none
   |true=>match Cw s e.2.1 with
    |none=>match Wq s e.2.1 with
     |none=>none
     |some b=>match slM s1.M b with
      |none=>none
      |some r=>match e.2.2.get G s1.M (.rd (.sl r.1) r.2) with
       |some p=>some (LD.mk e l p.1 q.1,p.2++q.2.1,b.1::q.2.2)
       |none=>none
    |some b=>match bxM s1.M b with
     |none=>none
     |some c=>match e.2.2.get G s1.M c with
      |some p=>some (LD.mk e l p.1 q.1,p.2++q.2.1,b.1::q.2.2)
      |none=>none
theorem Jj{α:Type}{l m:List (Nat×α)}{t:Nat}(h:look (l++m) t=none):look l t=none/\look m t=none:=by
 induction l with
 |nil=>exact⟨rfl,h⟩
 |cons x l ih =>
  obtain⟨k,y⟩:=x;rw[List.cons_append]at h;simp only[look]at h |-
  cases hb:Nat.beq k t with
  |true=>rw[hb]at h;cases h
  |false=>rw[hb]at h;exact ih h
theorem km{α:Type}{k:Nat}{x:α}{l:List (Nat×α)}{t:Nat}(h:look ((k,x)::l) t=none):k≠t/\look l t=none:=by
 simp only[look]at h
 cases hb:Nat.beq k t with
 |true=>rw[hb]at h;cases h
 |false=>rw[hb]at h;rw[zU]at hb;exact⟨by simpa using hb,h⟩
structure AOk(s s1:S)(X':Cx)(w:World)(a:Act)(n:Nat)(olds:List (Option Nat))(obs:List Nat)(r:LS×MS×Nat):Prop where
 nn:r.2.2=n+olds.length
 l:∀t e,look r.1 t=some e->e.1=s.n/\e.2.holds X' w (a.get t)
 m:∀j e,look r.2.1 j=some e->e.1=s.n/\e.2.holds X' w j/\((n<=j/\j<n+olds.length)\/j∈obs)
 o:∀(i:Nat) k,olds[i]?=some (some k)->II s1.M k
 b:∀k,k∈obs->II s1.M k/\k<s.n/\look r.2.1 k≠none
theorem ud{s s1:S}{a:Act}{w:World}{X X':Cx}{E:VE}(hE:E.ok X.P)(hM:yD s1.M X w)(hL:Xi s1.L X w a)(xG:X.ep=s1.ep)(dH:∀k e,look s.M k=some e->k<s.n)(hU:∀k,k<s.n->X'.U k=X.U k/\X'.ι k=X.ι k):∀ {l:List KE} {x:LD l} {olds:List (Option Nat)} {obs:List Nat} {n:Nat},Mm E.G s s1 l=some (x,olds,obs)->s.n<=n->Ren X X' n olds->AOk s s1 X' w a n olds obs (lI s l x n)
 | [],x,olds,obs,n,h,hn,hR=>by
  cases h
  exact⟨rfl,fun t e he=>(nomatch he),fun j e he=>(nomatch he),fun i k hi=>by simp at hi,fun k hk=>by cases hk⟩
 |e::l,x,olds,obs,n,h,hn,hR=>by
  obtain⟨eb,et,ek⟩:=e;simp only[Mm]at h
  cases hq:Mm E.G s s1 l with
  |none=>rw[hq]at h;cases h
  |some q =>
   obtain⟨y,hA5,obs2⟩:=q;rw[hq]at h;simp only at h
   cases eb with
   |false =>
    simp only at h;split at h
    ·cases h
    ·rename_i f hf
     split at h
     ·rename_i p fY hp
      cases h
      obtain⟨k1,k2,k3,k4,k5,k6⟩:=Knd.ok hE.G hM (st:=s.n) hp hR.left;have ih:=ud hE hM hL xG dH hU hq (n:=n+p.2.length) (by omega) hR.right
      simp only[lI];rw[LD.Sy,LD.SQ,k1];refine⟨by rw[ih.nn,zLS];omega,fun t e' he'=>?_,fun j e' he'=>?_,fun i k hi=>?_,fun k hk=>?_⟩
      ·rcases zD he' with ⟨h1,h2⟩|⟨_,h2⟩
       ·subst h1 h2
        exact⟨rfl,k2 _ (hL _ f hf (by rw[xG];exact fY))⟩
       ·exact ih.l t e' h2
      ·rw[zLS]
       rcases Zx he' with h1|⟨_,h1⟩
       ·obtain⟨g1,g2,g3,g4⟩:=k5 j e' h1;exact⟨g1,g4,.inl ⟨g2,by omega⟩⟩
       ·obtain⟨g1,g2,g3⟩:=ih.m j e' h1
        exact⟨g1,g2,g3.imp (fun h=>⟨by omega,by omega⟩) id⟩
      ·by_cases gF:i<p.2.length
       ·rw[zLf gF]at hi;exact k6 i k hi
       ·rw[zLg (by omega)]at hi;exact ih.o _ k hi
      ·obtain⟨g1,g2,g3⟩:=ih.b k hk
       exact⟨g1,g2,fun eA=>g3 (Jj eA).2⟩
     ·cases h
   |true =>
    simp only at h;split at h
    ·rename_i hnb
     split at h
     ·cases h
     ·rename_i b hb
      split at h
      ·cases h
      ·rename_i r hr
       split at h
       ·rename_i p hp
        cases h
        obtain⟨pe1,pe2⟩:=zDw hp s.n n;have ih:=ud hE hM hL xG dH hU hq (n:=n) hn (by have:=hR;rw[pe2]at this;exact this)
        simp only[lI,hnb,hb];rw[LD.Sy,LD.SQ,pe1,pe2];obtain⟨st1,tC⟩:=NO hr;obtain⟨e0,oM⟩:=Ii hb;have gF:=dH _ _ oM
        have hO:zo _ _ _ _ _ _ _ _:=hM _ _ tC;obtain⟨u1,u2⟩:=hU _ gF;show AOk s s1 X' w a n ([]++hA5) (b.1::obs2) ((lI s l y n).1,(b.1,s.n,MV.sl b.2.1 r.1 b.2.2 r.2)::([]++(lI s l y n).2.1),(lI s l y n).2.2)
        refine⟨ih.nn,ih.l,fun j e' he'=>?_,ih.o,fun k hk=>?_⟩
        ·rcases zD he' with ⟨h1,h2⟩|⟨_,h2⟩
         ·subst h1 h2
          refine⟨rfl,?_,.inr (by simp)⟩
          show zo _ _ _ _ _ _ _ _
          rw[u1,u2,hR.P,hR.O,Cx.KL hR.A hR.F];exact hO
         ·obtain⟨g1,g2,g3⟩:=ih.m j e' h2
          exact⟨g1,g2,g3.imp id (fun h=>by simp[h])⟩
        ·rcases zLV.1 hk with rfl|hk
         ·refine⟨⟨_,tC,rfl⟩,gF,fun eA=>?_⟩
          exact(km eA).1 rfl
         ·obtain⟨g1,g2,g3⟩:=ih.b k hk
          exact⟨g1,g2,fun eA=>g3 (km eA).2⟩
       ·cases h
    ·rename_i b hb
     split at h
     ·cases h
     ·rename_i c hc
      split at h
      ·rename_i p hp
       cases h
       obtain⟨k1,k2,k3,k4,k5,k6⟩:=Knd.ok hE.G hM (st:=s.n) hp hR.left;have ih:=ud hE hM hL xG dH hU hq (n:=n+p.2.length) (by omega) hR.right
       simp only[lI,hb];rw[LD.Sy,LD.SQ,k1];obtain⟨st0,c0,oM⟩:=Dv hb;obtain⟨st1,tC⟩:=Qa hc;have gF:=dH _ _ oM
       obtain⟨bb,cs,m1,m2,m3,m4⟩:=hM _ _ tC;obtain⟨u1,u2⟩:=hU _ gF;refine⟨by rw[ih.nn,zLS];omega,ih.l,fun j e' he'=>?_,fun i k hi=>?_,fun k hk=>?_⟩
       ·rw[zLS]
        rcases zD he' with ⟨h1,h2⟩|⟨_,h2⟩
        ·subst h1 h2
         refine⟨rfl,⟨bb,cs,by rw[u1];exact m1,?_,(k3 _ m3).1,k4⟩,.inr (by simp)⟩
         rw[u2,hR.O,Cx.KL hR.A hR.F];exact m2
        ·rcases Zx h2 with h1|⟨_,h1⟩
         ·obtain⟨g1,g2,g3,g4⟩:=k5 j e' h1;exact⟨g1,g4,.inl ⟨g2,by omega⟩⟩
         ·obtain⟨g1,g2,g3⟩:=ih.m j e' h1
          exact⟨g1,g2,g3.imp (fun h=>⟨by omega,by omega⟩) (fun h=>by simp[h])⟩
       ·by_cases gF:i<p.2.length
        ·rw[zLf gF]at hi;exact k6 i k hi
        ·rw[zLg (by omega)]at hi;exact ih.o _ k hi
       ·rcases zLV.1 hk with rfl|hk
        ·refine⟨⟨_,tC,rfl⟩,gF,fun eA=>?_⟩
         exact(km eA).1 rfl
        ·obtain⟨g1,g2,g3⟩:=ih.b k hk
         exact⟨g1,g2,fun eA=>g3 (Jj (km eA).2).2⟩
      ·cases h
def rB(L:LS):List Nat->LS
 | []=>[]
 |t::l=>match look L t with
  |some e=>match e.2.zg with
   |false=>(t,e)::rB L l
   |true=>rB L l
  |none=>rB L l
theorem ZS{L:LS}:∀ {l:List Nat} {t:Nat} {e:Nat×AV},look (rB L l) t=some e->look L t=some e/\e.2.zg=false/\vf t l=true
 | [],t,e,h=>by cases h
 |u::l,t,e,h=>by
  have st:vf t l=true->vf t (u::l)=true:=fun h=>by simp only[vf];cases Nat.beq u t<;>simp[h]
  simp only[rB]at h;split at h
  ·rename_i f hf
   split at h
   ·rename_i fY
    rcases zD h with ⟨h1,h2⟩|⟨_,h2⟩
    ·subst h1 h2;exact⟨hf,fY,by simp[vf,zU]⟩
    ·obtain⟨g1,g2,g3⟩:=ZS h2;exact⟨g1,g2,st g3⟩
   ·obtain⟨g1,g2,g3⟩:=ZS h;exact⟨g1,g2,st g3⟩
  ·obtain⟨g1,g2,g3⟩:=ZS h;exact⟨g1,g2,st g3⟩
def Cu(M:MS):List Nat->MS
 | []=>[]
 |t::l=>match look M t with
  |some e=>(t,e)::Cu M l
  |none=>Cu M l
theorem Js{M:MS}:∀ {l:List Nat} {t:Nat} {e:Nat×MV},look (Cu M l) t=some e->look M t=some e/\vf t l=true
 | [],t,e,h=>by cases h
 |u::l,t,e,h=>by
  have st:vf t l=true->vf t (u::l)=true:=fun h=>by simp only[vf];cases Nat.beq u t<;>simp[h]
  simp only[Cu]at h;split at h
  ·rename_i f hf
   rcases zD h with ⟨h1,h2⟩|⟨_,h2⟩
   ·subst h1 h2;exact⟨hf,by simp[vf,zU]⟩
   ·obtain⟨g1,g3⟩:=Js h2;exact⟨g1,st g3⟩
  ·obtain⟨g1,g3⟩:=Js h;exact⟨g1,st g3⟩
def zAF(s s1:S):List Nat->Bool
 | []=>true
 |t::l=>(match look s.L t with
  |none=>true
  |some e=>match e.2.zg with
   |true=>true
   |false=>match look s1.L t with
    |some e1=>Nat.blt e1.1 s.n
    |none=>false) && zAF s s1 l
theorem HO{s s1:S}(hi:Inv s s1):∀ {l:List Nat},zAF s s1 l=true->∀ {t e},vf t l=true->look s.L t=some e->e.2.zg=false->look s1.L t=some e
 | [],_,t,e,h,_,_=>by cases h
 |u::l,hc,t,e,h,he,hf=>by
  simp only[zAF,zLR]at hc;simp only[vf]at h
  cases hb:Nat.beq u t with
  |false=>rw[hb]at h;exact HO hi hc.2 h he hf
  |true =>
   have:=zLQ hb;subst this;have h1:=hc.1
   rw[he]at h1;simp only[hf]at h1;split at h1
   ·rename_i e1 c6
    rw[zX]at h1;have h2:=hi.l u e1 c6 (by simpa using h1)
    rw[he]at h2;cases h2;exact c6
   ·cases h1
def zAE(s s1:S)(obs:List Nat):List Nat->Bool
 | []=>true
 |t::l=>(vf t obs || match look s.M t with
  |none=>true
  |some e=>match look s1.M t with
   |some e1=>Nat.blt e1.1 s.n
   |none=>false) && zAE s s1 obs l
theorem X7{t:Nat}:∀ {l:List Nat},vf t l=true↔t∈l
 | []=>by simp[vf]
 |u::l=>by
  simp only[vf,zLV]
  cases hb:Nat.beq u t with
  |true=>have:=zLQ hb;simp[this]
  |false =>
   rw[zU]at hb;have:¬u=t:=by simpa using hb
   simp only[cond_false,X7];exact⟨.inr,fun h=>h.resolve_left fun e=>this e.symm⟩
theorem HN{s s1:S}(hi:Inv s s1){obs:List Nat}:∀ {l:List Nat},zAE s s1 obs l=true->∀ {t e},vf t l=true->t ∉ obs->look s.M t=some e->look s1.M t=some e
 | [],_,t,e,h,_,_=>by cases h
 |u::l,hc,t,e,h,ho,he=>by
  simp only[zAE,zLR,zLp]at hc;simp only[vf]at h
  cases hb:Nat.beq u t with
  |false=>rw[hb]at h;exact HN hi hc.2 h ho he
  |true =>
   have:=zLQ hb;subst this;rcases hc.1 with h1|h1
   ·exact zLh (X7.1 h1) ho
   ·rw[he]at h1
    simp only at h1;split at h1
    ·rename_i e1 c6
     rw[zX]at h1;have h2:=hi.m u e1 c6 (by simpa using h1)
     rw[he]at h2;cases h2;exact c6
    ·cases h1
def US(no:List Nat):List (Option Nat)->Bool
 | []=>true
 |none::l=>US no l
 |some k::l=>!vf k no && US (k::no) l
theorem mw:∀ {l:List (Option Nat)} {no:List Nat},US no l=true->(∀(i:Nat) k,l[i]?=some (some k)->k ∉ no)/\∀(i j:Nat) k,l[i]?=some (some k)->l[j]?=some (some k)->i=j
 | [],no,_=>⟨fun i k h=>by simp at h,fun i j k h=>by simp at h⟩
 |none::l,no,h=>by
  obtain⟨h1,h2⟩:=mw (l:=l) h;refine⟨fun i k hi=>?_,fun i j k hi hj=>?_⟩
  ·cases i with
   |zero=>simp at hi
   |succ i=>exact h1 i k (by simpa using hi)
  ·cases i with
   |zero=>simp at hi
   |succ i =>
    cases j with
    |zero=>simp at hj
    |succ j=>rw[h2 i j k (by simpa using hi) (by simpa using hj)]
 |some k0::l,no,h=>by
  simp only[US,zLR]at h;obtain⟨h1,h2⟩:=mw (l:=l) h.2;have h0:k0 ∉ no:=fun hm=>by rw[X7.2 hm]at h;simp at h
  refine⟨fun i k hi=>?_,fun i j k hi hj=>?_⟩
  ·cases i with
   |zero=>simp at hi;subst hi;exact h0
   |succ i=>exact fun hm=>h1 i k (by simpa using hi) (by simp[hm])
  ·cases i with
   |zero =>
    simp at hi;subst hi
    cases j with
    |zero=>rfl
    |succ j=>exact zLh (by simp) (h1 j k0 (by simpa using hj))
   |succ i =>
    cases j with
    |zero=>simp at hj;subst hj;exact zLh (by simp) (h1 i k0 (by simpa using hi))
    |succ j=>rw[h2 i j k (by simpa using hi) (by simpa using hj)]
def zAa:LS->List Nat
 | []=>[]
 |e::L=>e.2.2.refs++zAa L
def Cj(M:MS):List Nat->List Nat
 | []=>[]
 |k::l=>match look M k with
  |some (_,.bx _ c _)=>c.refs++Cj M l
  |_=>Cj M l
structure Sh where
 l:List KE
 keep:List Nat
 fz:List Nat
def Sc(s:S):List Nat->List Nat
 | []=>[]
 |t::l=>match look s.L t with
  |some (_,φ)=>φ.refs++(Cj s.M φ.refs++Sc s l)
  |none=>Sc s l
def IB(s:S):List KE->List Nat
 | []=>[]
 |e::l=>match e.1 with
  |false=>IB s l
  |true=>match Cw s e.2.1 with
   |some b=>b.1::IB s l
   |none=>IB s l
def lv(no:List Nat):List Nat->List Nat
 | []=>[]
 |k::l=>match vf k no with
  |true=>lv no l
  |false=>k::lv no l
def Sh.tags(sh:Sh)(s:S):List Nat :=
 let no:=IB s sh.l
 let a:=zAa (rB s.L sh.keep)
 let b:=Cj s.M (lv no a)
 a++(b++Cj s.M (lv no b))
abbrev Sh.D(sh:Sh):Type:=LD sh.l
def Sh.put(sh:Sh)(s:S)(x:sh.D):S :=
 let p:=lI s sh.l x s.n
 { L:=p.1++rB s.L sh.keep,M:=p.2.1++Cu s.M (sh.tags s),n:=p.2.2+1,ep:=s.n }
def Sh.zFJ(sh:Sh)(G:FE)(s s1:S):Option sh.D:=match Mm G s s1 sh.l with
 |none=>none
 |some q=>match zAF s s1 sh.keep && (zAE s s1 q.2.2 (sh.tags s) && US (q.2.2++sh.tags s) q.2.1) with
  |true=>some q.1
  |false=>none
def Knd.uJ:Knd->AV->List Nat
 |.v _,φ=>φ.refs
 |.o ..,_=>[]
 |.m ..,_=>[]
 |.bv ..,_=>[]
 |.un,_=>[]
 |.pr a b,φ=>match φ with
  |.pr x y=>a.uJ x++b.uJ y
  |_=>[]
 |.ag l,φ=>match Kw φ with
  |some ψ=>l.uJ ψ
  |none=>[]
def p9(s1:S):List KE->List Nat
 | []=>[]
 |e::l=>match look s1.L e.2.1 with
  |none=>p9 s1 l
  |some f=>match e.1 with
   |false=>e.2.2.uJ f.2++p9 s1 l
   |true=>match f.2 with
    |.bx k _=>match look s1.M k with
     |some (_,.bx _ c _)=>e.2.2.uJ c++p9 s1 l
     |_=>p9 s1 l
    |_=>p9 s1 l
def Sh.get(sh:Sh)(G:FE)(s s1:S):Option sh.D:=sh.zFJ G s (s1.XR (p9 s1 sh.l++Sc s1 sh.fz))
theorem zBS(ι:Nat->Nat)(M:MS):∃B,0<B/\∀k e,look M k=some e->ι k<B :=
 ⟨1+(M.map fun e=>ι e.1).sum,by omega,fun k e h=>by
  have:=w8 (l:=M.map fun e=>ι e.1) (x:=ι k) (List.mem_map.2 ⟨_,kz h,rfl⟩)
  omega⟩
structure Frm.kin(F F0:Frm):Prop where
 fe:F0.fe=F.fe
 bl:F0.bl=F.bl
 kv:F0.x.kv=F.x.kv
theorem Frm.KR(F:Frm):F.kin F:=⟨rfl,rfl,rfl⟩
theorem Frm.Same.kin{F F':Frm}(h:F.Same F'):F'.kin F:=⟨h.fe.symm,h.bl.symm,h.kv.symm⟩
theorem N4{F:Frm}(fE:∀t φ,¬F.Lh t φ){E:VE}(hE:E.ok F.P){s s1:S}{a0 a1:Act}{w0 w1:World}{F0:Frm}(c7:F.kin F0)(h0:Rel F0 s a0 w0)(h1:Rel F s1 a1 w1)(hi:Inv s s1){sh:Sh}{x:sh.D}(hg:sh.zFJ E.G s s1=some x):Rel F (sh.put s x) a1 w1/\Inv s (sh.put s x):=by
 obtain⟨X0,h0⟩:=h0;obtain⟨X,h1⟩:=h1;unfold Sh.zFJ at hg
 cases hq:Mm E.G s s1 sh.l with
 |none=>rw[hq]at hg;cases hg
 |some q =>
  obtain⟨y,olds,obs⟩:=q;rw[hq]at hg;simp only at hg;split at hg
  ·rename_i hc
   cases hg
   simp only[zLR]at hc;obtain⟨c1,c2,c3⟩:=hc;obtain⟨t1,t2⟩:=mw c3;obtain⟨B,hB0,hBs,hB⟩:∃B,0<B/\F.x.st<B/\∀k e,look s1.M k=some e->X.ι k<B:=by
    obtain⟨B,hB0,hB⟩:=zBS X.ι s1.M;exact⟨B+F.x.st,by omega,by omega,fun k e he=>by have:=hB k e he;omega⟩
   have hfe0:=c7.fe ▸ h0.fe;have hbl0:=c7.bl ▸ h0.bl
   let pick:Nat->Option Nat:=fun k=>(olds[k-s.n]?).bind id
   let X':Cx:={ X with
    U:=fun k=>if k<s.n then X.U k else match pick k with|some j=>X.U j|none=>.slice none 0 0
    ι:=fun k=>if k<s.n then X.ι k else match pick k with|some j=>X.ι j|none=>B+k
    n:=s.n+olds.length+1
    ep:=s.n }
   have hU:∀k,k<s.n->X'.U k=X.U k/\X'.ι k=X.ι k:=fun k hk=>⟨zLr hk,zLr hk⟩
   have iA:∀i o,olds[i]?=some o->pick (s.n+i)=o:=fun i o hi'=>by
    show (olds[s.n+i-s.n]?).bind id=o
    rw[Nat.add_sub_cancel_left,hi'];rfl
   have hU2:∀i o,olds[i]?=some o->X'.U (s.n+i)=(match o with|some j=>X.U j|none=>.slice none 0 0)/\X'.ι (s.n+i)=(match o with|some j=>X.ι j|none=>B+(s.n+i)):=fun i o hi'=>by
    have h:=iA i o hi';refine⟨?_,?_⟩
    ·show (if s.n+i<s.n then _ else match pick (s.n+i) with|some j=>X.U j|none=>_)=_
     rw[zLs (by omega),h]
    ·show (if s.n+i<s.n then _ else match pick (s.n+i) with|some j=>X.ι j|none=>_)=_
     rw[zLs (by omega),h]
   have hR:Ren X X' s.n olds:=⟨rfl,rfl,rfl,rfl,rfl,fun i k hi'=>hU2 i _ hi',fun i hi'=>(hU2 i _ hi').1,zLc _⟩
   have dH:∀k e,look s.M k=some e->k<s.n:=fun k e he=>(h0.mn k e he).2
   have hA:=ud (by rw[h1.P];exact hE) h1.m h1.l h1.ep dH hU hq (zLT _) hR
   have hn:(sh.put s x).n=s.n+olds.length+1:=by show (lI s sh.l x s.n).2.2+1=_;rw[hA.nn]
   have sR:X.al X' s.n:=⟨rfl,rfl,fun k hk=>(hU k hk).1,by show s.n<=s.n+olds.length+1;omega,rfl⟩
   -- the objects
   have cls:∀k e,look (sh.put s x).M k=some e->e.1=s.n/\e.2.holds X' w1 k/\(s.n<=k/\k<s.n+olds.length)\/(e.1=s.n/\e.2.holds X' w1 k/\k∈obs/\k<s.n)\/(k ∉ obs/\k<s.n/\vf k (sh.tags s)=true/\look s.M k=some e/\look s1.M k=some e):=by
    intro k e he;rcases Zx he with h2|⟨h2,h3⟩
    ·obtain⟨g1,g2,g3⟩:=hA.m k e h2
     rcases g3 with g3|g3
     ·exact .inl ⟨g1,g2,g3⟩
     ·exact .inr (.inl ⟨g1,g2,g3,(hA.b k g3).2.1⟩)
    ·obtain⟨g1,g2⟩:=Js h3
     have aS:k ∉ obs:=fun hm=>(hA.b k hm).2.2 h2
     exact .inr (.inr ⟨aS,dH k e g1,g2,g1,HN hi c2 g2 aS g1⟩)
   -- the tags of the call's own objects
   have tg:∀k e,look (sh.put s x).M k=some e->e.2.own=true->(∃k0,II s1.M k0/\X'.ι k=X.ι k0/\((k0=k/\k<s.n/\(k∈obs\/vf k (sh.tags s)=true))\/(∃i,k=s.n+i/\olds[i]?=some (some k0))))\/X'.ι k=B+k:=by
    intro k e he ho;rcases cls k e he with ⟨_,_,g1,g2⟩|⟨_,_,g1,g2⟩|⟨g1,g2,g3,g4,g5⟩
    ·have gF:k-s.n<olds.length:=by omega
     have fD:olds[k-s.n]?=some olds[k-s.n]:=zLv gF;have h2:=(hU2 (k-s.n) _ fD).2
     have e1:s.n+(k-s.n)=k:=by omega
     rw[e1]at h2
     cases ho2:olds[k-s.n] with
     |none=>rw[ho2]at h2;exact .inr h2
     |some k0 =>
      rw[ho2]at h2 fD;exact .inl ⟨k0,hA.o _ k0 fD,h2,.inr ⟨k-s.n,e1.symm,fD⟩⟩
    ·exact .inl ⟨k,(hA.b k g1).1,(hU k g2).2,.inl ⟨rfl,g2,.inl g1⟩⟩
    ·exact .inl ⟨k,⟨e,g5,ho⟩,(hU k g2).2,.inl ⟨rfl,g2,.inr g3⟩⟩
   refine⟨⟨X',?_⟩,?_⟩
   ·refine⟨h1.P,h1.A,h1.Fn,hn.symm,rfl,h1.ok0,h1.fit,h1.base,fun t e he hf=>?_,fun k e he=>?_,fun t e he=>?_,fun k e he=>?_,fun k k' e e' he he' ho ho' fH=>?_,fun k e he ho=>?_,by rw[hn];show s.n<=_;omega,by rw[hn];have:=hfe0;omega,fun t φ hp=>zLh hp (fE t φ),⟨by rw[hn];have:=hbl0.1;omega,fun j b hj=>(hU j (zLe (zLX.1 hj).1 hbl0.1)).1.trans (h1.bl.2 j b hj)⟩,⟨h1.ex.st,h1.ex.sys,fun v φ hv=>⟨(h1.ex.kv v φ hv).1,(AV.al sR φ (by have:=(AV.S8 φ).1 _ (h0.ex.kv v φ (by rw[c7.kv];exact hv)).2;rwa[h0.n]at this)).1 _ (h1.ex.kv v φ hv).2⟩,h1.ex.since,h1.ex.L⟩⟩
    ·rcases Zx he with h2|⟨_,h2⟩
     ·exact(hA.l t e h2).2
     ·obtain⟨g1,g2,g3⟩:=ZS h2
      have g4:=HO hi c1 g3 g1 g2;have fY:∀ep,fresh ep e=true:=fun ep=>by simp[fresh,g2]
      have hb:e.2.bd s.n:=by
       have:=(AV.S8 e.2).1 _ (h0.l t e g1 (fY _));rwa[h0.n]at this
      exact(AV.al sR e.2 hb).1 _ (h1.l t e g4 (fY _))
    ·rcases cls k e he with ⟨_,g2,_⟩|⟨_,g2,_⟩|⟨g1,g2,g3,g4,g5⟩
     ·exact g2
     ·exact g2
     ·have hh:=h1.m k e g5
      have hh0:=h0.m k e g4;obtain⟨st,mv⟩:=e
      cases mv with
      |sl nw t T xs =>
       show zo _ _ _ _ _ _ _ _
       rw[(hU k g2).1,(hU k g2).2];exact hh
      |bx nw c T =>
       obtain⟨b,cs,m1,m2,m3,m4⟩:=hh;obtain⟨_,cs0,_,_,m5,_⟩:=hh0;have hb:=(AV.S8 c).2.2 _ m5
       rw[h0.n]at hb;refine⟨b,cs,by rw[(hU k g2).1];exact m1,?_,(AV.al sR c hb).2.2 _ m3,m4⟩
       rw[(hU k g2).2];exact m2
      |fs t xs=>show (rSl _).v _ _ _ _;rw[(hU k g2).1];exact hh
      |fb t x=>show (KI _).v _ _ _ _;rw[(hU k g2).1];exact hh
      |fg f=>intro t x hx;show (KI _).v _ _ _ _;rw[(hU k g2).1];exact hh t x hx
      |mp nw a b xs =>
       show Z5 _ _ _ _ _ _ _ _
       rw[(hU k g2).1,(hU k g2).2];exact hh
      |fm a b xs=>show ((Ty.mp a b).gr X.P).v _ _ _ _;rw[(hU k g2).1];exact hh
      |dead=>trivial
    ·rw[hn]
     rcases Zx he with h2|⟨_,h2⟩
     ·rw[(hA.l t e h2).1];omega
     ·have:=h0.ln t e (ZS h2).1;omega
    ·rw[hn]
     rcases cls k e he with ⟨g1,_,g2⟩|⟨g1,_,_,g2⟩|⟨_,g2,_,g4,_⟩
     ·omega
     ·omega
     ·have:=(h0.mn k e g4).1;omega
    ·rcases tg k e he ho with ⟨k0,a1,a2,a3⟩|a2<;>rcases tg k' e' he' ho' with ⟨k1,b1,b2,b3⟩|b2
     ·have bU:k0=k1:=by
       obtain⟨e1,f1,f2⟩:=a1;obtain⟨e2,f3,f4⟩:=b1;exact h1.inj k0 k1 e1 e2 f1 f3 f2 f4 (by rw[<-a2,<-b2,fH])
      subst bU;rcases a3 with ⟨a3,a4,a5⟩|⟨i,a3,a4⟩<;>rcases b3 with ⟨b3,b4,b5⟩|⟨j,b3,b4⟩
      ·omega
      ·refine zLh ?_ (t1 j k0 b4)
       rw[a3,zLa];exact a5.imp id X7.1
      ·refine zLh ?_ (t1 i k0 a4)
       rw[b3,zLa];exact b5.imp id X7.1
      ·have:=t2 i j k0 a4 b4;omega
     ·obtain⟨e1,f1,_⟩:=a1
      have:=hB k0 e1 f1;rw[a2,b2]at fH;omega
     ·obtain⟨e1,f1,_⟩:=b1
      have:=hB k1 e1 f1;rw[a2,b2]at fH;omega
     ·rw[a2,b2]at fH;omega
    ·rcases tg k e he ho with ⟨k0,⟨e1,f1,f2⟩,a2,_⟩|a2
     ·rw[a2];exact h1.pos k0 e1 f1 f2
     ·rw[a2];exact⟨by omega,by omega⟩
   ·refine⟨by rw[hn];omega,fun t e he hl=>?_,fun k e he hl=>?_⟩
    ·rcases Zx he with h2|⟨_,h2⟩
     ·rw[(hA.l t e h2).1]at hl;omega
     ·exact(ZS h2).1
    ·rcases cls k e he with ⟨g1,_⟩|⟨g1,_⟩|⟨_,_,_,g4,_⟩
     ·omega
     ·omega
     ·exact g4
  ·cases hg
theorem YO{F:Frm}(fE:∀t φ,¬F.Lh t φ){E:VE}(hE:E.ok F.P){s s1:S}{a0 a1:Act}{w0 w1:World}{F0:Frm}(c7:F.kin F0)(h0:Rel F0 s a0 w0)(h1:Rel F s1 a1 w1)(hi:Inv s s1){sh:Sh}{x:sh.D}(hg:sh.get E.G s s1=some x):Rel F (sh.put s x) a1 w1/\Inv s (sh.put s x) :=
 N4 fE hE c7 h0 (Rel.XR _ h1) (hi.trans (Inv.XR _ _)) hg
section
variable {F:Frm} {s:S} {a:Act} {w w':World} {X:Cx} {E:VE}
theorem RelX.ghost(h:RelX F s a w X)(fE:∀t φ,¬F.Lh t φ)(hL:s.L=[])(hE:Ext w w')(sB:F.x.sb<=F.w0.heap.size){d:Option Tmp}{v:Value}{b:Nat}{o0:Obj}(hb:w.heap.size<=b)(ho:w'.heap[b]?=some o0) :
  RelX (F.sys fun c o=>F.x.sys c o\/(c=b/\o=o0)) s (a.put d v) w' { X with O:=tag X.O (some b) F.x.st }:=by
 have gF:=(zLq.1 ho).1;have hk:KX none X.O w (tag X.O (some b) F.x.st) w':=KX.tag hE fun g hg=>by cases hg;exact hb
 have hB:Base F.A F.O0 F.w0 (tag X.O (some b) F.x.st) w':=(h.base.step hE h.ok0).tag h.ex.st (fun g hg=>by cases hg;exact⟨h.base.new _ (zLY h.base.size hb),gF⟩)
 have h1:RelX F s (a.put d v) w' { X with O:=tag X.O (some b) F.x.st }:=h.go (ZH h.fit d v) rfl rfl rfl (fun _ _=>hk.keep (by simp)) (fun _ _=>rfl) h.n h.ep (zLT _) h.epn hB (fun hf=>⟨hf,hE⟩) (fun t φ hp=>zLh hp (fE t φ)) (fun t e he=>by rw[hL]at he;cases he) (fun k e he=>.inr ⟨he,rfl,fun _=>hk.keep (by simp)⟩) h.inj h.pos
 refine⟨h1.P,h1.A,h1.Fn,h1.n,h1.ep,h1.ok0,h1.fit,h1.base,h1.l,h1.m,h1.ln,h1.mn,h1.inj,h1.pos,h1.epn,h1.fe,h1.lh,h1.bl,h1.ex.st,fun c o hc=>?_,h1.ex.kv,h1.ex.since,h1.ex.L⟩
 rcases hc with hc|⟨rfl,rfl⟩
 ·exact h1.ex.sys c o hc
 ·exact⟨⟨ho,yg _ _ _⟩,zLY sB (zLY h.base.size hb)⟩
theorem RelX.take{q:Nat->Obj->Prop}{b:Nat}{cs:Array Value}{Y:TypeId}{o0:Obj}{d:Nat}{c:AV}(h:RelX (F.sys q) s a w X)(hq:∀c o,F.x.sys c o->c≠b/\q c o)(hb:q b o0)(hw:F.w0.heap.size<=b)(hO:∀w:World,w.heap[b]?=some o0->Own w b cs Y)
  (hd:a.get d=.pointer (some ⟨b,0,none⟩)) (hc:(c.sem X w).c cs.toList) (hf:c.zg=false) (hdl:∀φ,¬F.Lh d φ):Rel F (s.obj (some d) (.bx true c Y) (.bx s.n 0)) a w:=by
 obtain⟨τ,aI,hτ⟩:=ZD X.ι s.M F.x.st;obtain⟨⟨e1,e2⟩,e3⟩:=h.ex.sys b o0 hb;have gF:=(zLq.1 e1).1
 have iB:∀k,k≠F.x.st->zb k X.O w (tag X.O (some b) τ) w:=fun k hk=>⟨zLT _,fun c hc hO=>⟨by rw[vt (fun e=>hk (by cases e;rw[<-hO];exact e2))];exact hO,rfl⟩⟩
 have hB:Base F.A F.O0 F.w0 (tag X.O (some b) τ) w:=Base.tag h.base aI.1 (fun g hg=>by cases hg;exact⟨Base.new h.base _ hw,gF⟩)
 let X':Cx:={ X with O:=tag X.O (some b) τ,U:=qu X.U s.n (.pointer (some ⟨b,0,none⟩)),ι:=qu X.ι s.n τ,n:=s.n+1 }
 have hU:∀k,k<s.n->X'.U k=X.U k:=fun k hk=>Y3 _ _ (by omega)
 have hι:∀k,k≠s.n->X'.ι k=X.ι k:=fun k hk=>Y3 _ _ hk
 have xI:X'.ι s.n=τ:=gM _ _ _;have hUn:X'.U s.n=.pointer (some ⟨b,0,none⟩):=gM _ _ _
 have fT:X.le w X' w:=⟨rfl,iB 0 h.ex.st.symm,fun k hk=>hU k (by rw[<-h.n];exact hk),by rw[h.n];exact zLc _,rfl⟩
 have mono:∀ {φ:AV} {v:Value},φ.holds X w v->φ.holds X' w v:=fun {φ v} hv=>(φ.mono fT fun _=>Ext.refl _).1 v hv
 have dH:∀k e,look s.M k=some e->k<s.n:=fun k e he=>(h.mn k e he).2
 refine⟨X',h.P,h.A,h.Fn,rfl,h.ep,h.ok0,h.fit,hB,fun t e he hf'=>?_,fun k e he=>?_,fun t e he=>?_,fun k e he=>?_,fun k k' e e' he he' ho ho' fH=>?_,fun k e he ho=>?_,Nat.le_succ_of_le h.epn,Nat.lt_succ_of_lt h.fe,fun t φ hp hf'=>mono (h.lh t φ hp hf'),⟨Nat.le_succ_of_le h.bl.1,fun j b' hj=>(hU j (zLe (zLX.1 hj).1 h.bl.1)).trans (h.bl.2 j b' hj)⟩,?_⟩
 ·rcases zD he with ⟨h1,h2⟩|⟨h1,h2⟩
  ·subst h1 h2
   exact⟨zLd _,b,hUn,hd⟩
  ·exact mono (h.l t e h2 hf')
 ·rcases zD he with ⟨h1,h2⟩|⟨h1,h2⟩
  ·subst h1 h2
   refine⟨b,cs,hUn,⟨hO w e1,?_,?_⟩,(c.mono fT fun h=>by rw[hf]at h;cases h).2.2 _ hc,hf⟩
   ·show X'.F b
    rw[show X'.F=X.F from rfl,h.Fn];exact hw
   ·rw[xI];exact yg _ _ _
  ·exact MV.le fT (h.mnX k e h2) (hι k (Nat.ne_of_lt (dH k e h2))) rfl rfl _ (fun ho=>iB _ (h.pos k e h2 ho).2) (h.m k e h2)
 ·rcases zD he with ⟨h1,h2⟩|⟨h1,h2⟩
  ·subst h1 h2;exact zLd _
  ·exact Nat.lt_succ_of_lt (h.ln t e h2)
 ·rcases zD he with ⟨h1,h2⟩|⟨h1,h2⟩
  ·subst h1 h2;exact⟨zLd _,zLd _⟩
  ·exact⟨Nat.lt_succ_of_lt (h.mn k e h2).1,Nat.lt_succ_of_lt (h.mn k e h2).2⟩
 ·rcases zD he with ⟨h1,h2⟩|⟨h1,h2⟩<;>rcases zD he' with ⟨h3,h4⟩|⟨h3,h4⟩
  ·omega
  ·subst h1
   rw[xI,hι k' (Ne.symm h3)]at fH;exact zLh fH.symm (hτ k' e' h4)
  ·subst h3
   rw[xI,hι k (Ne.symm h1)]at fH;exact zLh fH (hτ k e h2)
  ·rw[hι k (Ne.symm h1),hι k' (Ne.symm h3)]at fH
   exact h.inj k k' e e' h2 h4 ho ho' fH
 ·rcases zD he with ⟨h1,h2⟩|⟨h1,h2⟩
  ·subst h1;rw[xI];exact aI
  ·rw[hι k (Ne.symm h1)];exact h.pos k e h2 ho
 ·refine⟨h.ex.st,fun c o hc=>?_,fun v φ hv=>⟨(h.ex.kv v φ hv).1,mono (h.ex.kv v φ hv).2⟩,h.ex.since.trans fT.k,h.ex.L⟩
  obtain⟨g1,g2⟩:=hq c o hc;obtain⟨⟨g3,g4⟩,g5⟩:=h.ex.sys c o g2;exact⟨⟨g3,by rw[show X'.O=tag X.O (some b) τ from rfl,vt (fun e=>g1 (by cases e;rfl))];exact g4⟩,g5⟩
end
structure It where
 i:Nat
 d:Nat
 n:Nat
 φ:AV
 L:LS
 M:MS
 ep:Nat
def bit(b:Array Nat)(i k:Nat):Bool:=(b.getD i 0).testBit k
def wOf:List Oper->Nat->Nat->Option Nat
 | [],_,_=>none
 |o::os,i,t=>match Dy o.dst [t] with
  |true=>some i
  |false=>wOf os (i+1) t
def ndD:List Oper->Bool
 | []=>true
 |o::os=>(match o.dst with
  |some d=>(wOf os 0 d).isNone
  |none=>true) && ndD os
def W4:List It->Nat->Option It
 | [],_=>none
 |e::l,i=>bif Nat.beq e.i i then some e else W4 l i
def rdX(b:Array Nat)(os:List Oper)(C:List It)(L0:LS)(i t:Nat):Option (Nat×AV):=match wOf os 0 t with
 |none=>look L0 t
 |some j=>match bit b i j with
  |true=>match W4 C j with
   |some e=>some (e.n,e.φ)
   |none=>none
  |false=>match bit b j i with
   |true=>look L0 t
   |false=>none
def tmps:List Operand->List Nat
 | []=>[]
 |.tmp t::l=>t::tmps l
 |_::l=>tmps l
def lof(b:Array Nat)(os:List Oper)(C:List It)(L0:LS)(i:Nat):List Nat->LS
 | []=>[]
 |t::l=>match rdX b os C L0 i t with
  |some e=>(t,e)::lof b os C L0 i l
  |none=>lof b os C L0 i l
def frX(b:Array Nat)(i:Nat):List Nat->Bool
 | []=>true
 |e::l=>(bit b i e || bit b e i) && frX b i l
def UN(kill:List Nat):MS->MS
 | []=>[]
 |p::M=>match vf p.1 kill with
  |true=>UN kill M
  |false=>p::UN kill M
def zFS:LS->Bool
 | []=>false
 |e::l=>e.2.2.zg || zFS l
def mvX(b:Array Nat)(i:Nat)(ch:List Nat)(kill:Nat->List Nat)(s:S)(L:LS):MS×Nat:=match frX b i ch with
 |true=>(s.M,s.ep)
 |false=>(UN (kill i) s.M,match zFS L with
  |true=>s.ep
  |false=>s.n+1000000000)
def UE(M M':MS):MS->Bool
 | []=>true
 |p::l=>(match look M p.1,look M' p.1 with
  |some e,some e'=>Nat.beq e.1 e'.1
  |_,_=>false) && UE M M' l
def stays(b:Array Nat)(i:Nat)(s':S):List It->Bool
 | []=>true
 |it::C=>(bit b i it.i || (UE it.M s'.M it.M && Nat.ble s'.ep it.ep)) && stays b i s' C
def ql(b:Array Nat)(i:Nat):List Nat->Bool
 | []=>true
 |j::l=>bit b j i && ql b i l
def rD(al:Nat):List Nat->List Nat
 | []=>[]
 |i::l=>match Nat.beq i al with
  |true=>rD al l
  |false=>i::rD al l
def alX(b:Array Nat)(os:List Oper)(ch:List Nat):List Nat->Nat
 | []=>os.length
 |i::l=>match os[i]? with
  |some o=>match o.op with
   |.alloc _=>match frX b i (rD i ch) with
    |true=>alX b os ch l
    |false=>i
   |_=>alX b os ch l
  |none=>alX b os ch l
def Mo(E:VE)(os:List Oper)(ch:List Nat)(al:Nat):Bool:=match os[al]? with
 |none=>true
 |some o=>vf al ch && (match o.op,o.dst with
  |.alloc Y,some _=>(look E.T Y).isSome
  |_,_=>false)
def He:List It->LS
 | []=>[]
 |it::C=>(it.d,it.n,it.φ)::He C
def gOk(gs:List Nat)(i:Nat)(φ:AV):Bool:=match vf i gs with
 |false=>true
 |true=>match φ.bool? with
  |some x=>x
  |none=>false
def Jy{β:Type}(E:VE)(wr:List Nat)(b:Array Nat)(os:List Oper)(ch:List Nat)(al:Nat)(gs:List Nat)(kill:Nat->List Nat)(L0:LS)(k:S->Comp β):List Nat->List It->S->Comp β
 | [],C,s=>k { s with L:=He C++L0,n:=s.n+1 }
 |i::rest,C,s=>match vf i rest,os[i]? with
  |false,some o=>match vf i ch with
   |true=>match ql b i (rD al rest) with
    |true=>step E wr { L:=lof b os C L0 i (tmps o.op.operands.toList),M:=s.M,n:=s.n+1,ep:=s.ep } o fun s'=>match Nat.ble s.ep s'.ep && stays b i s' C with
     |true=>match o.dst with
      |none=>Jy E wr b os ch al gs kill L0 k rest C { L:=[],M:=s'.M,n:=s'.n,ep:=s'.ep }
      |some d=>match look s'.L d with
       |some e=>match Nat.ble s.n e.1 with
        |true=>match gOk gs i e.2 with
         |true=>Jy E wr b os ch al gs kill L0 k rest (⟨i,d,e.1,e.2,[],[],s.n+1000000000⟩::C) { L:=[],M:=s'.M,n:=s'.n,ep:=s'.ep }
         |false=>Comp.fail
        |false=>Comp.fail
       |none=>Comp.fail
     |false=>Comp.fail
    |false=>Comp.fail
   |false=>match o.dst with
    |none=>Comp.fail
    |some d=>match val E (mvX b i ch kill s (lof b os C L0 i (tmps o.op.operands.toList))).1 (mvX b i ch kill s (lof b os C L0 i (tmps o.op.operands.toList))).2 (lof b os C L0 i (tmps o.op.operands.toList)) [] [] wr (some d) o.op with
     |.no=>Comp.fail
     |.tot φ=>match gOk gs i φ with
      |true=>Jy E wr b os ch al gs kill L0 k rest (⟨i,d,s.n,φ,lof b os C L0 i (tmps o.op.operands.toList),(mvX b i ch kill s (lof b os C L0 i (tmps o.op.operands.toList))).1,(mvX b i ch kill s (lof b os C L0 i (tmps o.op.operands.toList))).2⟩::C) s
      |false=>Comp.fail
     |.par t c mk=>c.bind fun x=>match gOk gs i (mk x) with
      |true=>Jy E wr b os ch al gs kill L0 k rest (⟨i,d,s.n,mk x,lof b os C L0 i (tmps o.op.operands.toList),(mvX b i ch kill s (lof b os C L0 i (tmps o.op.operands.toList))).1,(mvX b i ch kill s (lof b os C L0 i (tmps o.op.operands.toList))).2⟩::C) s
      |false=>Comp.fail
  |_,_=>Comp.fail
def UV:List Oper->List Nat
 | []=>[]
 |o::os=>match o.op with
  |.call c=>match c.callee with
   |.builtin .append=>tmps (c.args.toList.take 1)++UV os
   |_=>UV os
  |_=>UV os
def nL(L:LS):List Nat->List Nat
 | []=>[]
 |t::l=>match look L t with
  |some e=>e.2.refs++nL L l
  |none=>nL L l
def gLs:List Oper->List Nat
 | []=>[]
 |o::os=>match o.guard with
  |none=>gLs os
  |some g=>g.1::gLs os
def UJ(all:List Oper)(al:Nat):List Oper->Bool
 | []=>true
 |o::os=>(match o.guard with
  |none=>true
  |some (g,w)=>w && (!Nat.beq g al && (match all[g]? with
   |some p=>p.dst.isSome
   |none=>false))) && UJ all al os
def ID(can:List Nat):Nat->Bool
 |0=>true
 |n+1=>vf n can && ID can n
def ES(M:MS):List Nat->List Nat
 | []=>[]
 |k::l=>match look M k with
  |some (_,.bx _ c _)=>c.refs++ES M l
  |_=>ES M l
def Sx(L:LS)(M:MS)(Hk:List Nat):List (Nat×List Nat)->Nat->List Nat
 | [],_=>Hk
 |e::l,i=>match Nat.beq e.1 i with
  |true=>nL L e.2++ES M (nL L e.2)
  |false=>Sx L M Hk l i
def zFL{β:Type}(E:VE)(os:List Oper)(ch can:List Nat)(kl:List (Nat×List Nat))(s:S)(k:S->Comp β):Comp β:=match ndD os && (UJ os (alX (bitsOf os) os ch ch) os && (ID can os.length && Mo E os ch (alX (bitsOf os) os ch ch))) with
 |true=>Jy E (wrS os) (bitsOf os) os ch (alX (bitsOf os) os ch ch) (gLs os) (Sx s.L s.M (nL s.L (wrS os++UV os)) kl) s.L k can [] { s with L:=[] }
 |false=>Comp.fail
theorem kX{d:Nat}:∀ {l:List Nat},vf d l=true↔d∈l
 | []=>by simp[vf]
 |e::l=>by
  unfold vf
  cases hb:Nat.beq e d with
  |true=>have:=zLQ hb;simp[this]
  |false =>
   rw[zU]at hb;have fC:¬e=d:=by simpa using hb
   simp only[cond_false,kX,zLV];exact⟨.inr,fun h=>h.resolve_left fun h=>fC h.symm⟩
theorem Bg{o:Option Tmp}{t:Nat}:Dy o [t]=true↔o=some t:=by
 cases o with
 |none=>simp[Dy]
 |some d =>
  show vf d [t]=true↔_
  rw[kX];simp
theorem qA:∀ {os:List Oper} {i t j:Nat},wOf os i t=some j->i<=j/\∃o,os[j-i]?=some o/\o.dst=some t
 | [],_,_,_,h=>by cases h
 |o::os,i,t,j,h=>by
  unfold wOf at h
  cases hb:Dy o.dst [t] with
  |true=>rw[hb]at h;cases h;exact⟨zLT _,o,by simp,Bg.1 hb⟩
  |false =>
   rw[hb]at h;obtain⟨h1,o',h2,h3⟩:=qA h;refine⟨by omega,o',?_,h3⟩
   rw[show j-i=(j-(i+1))+1 by omega,List.getElem?_cons_succ];exact h2
theorem qC:∀ {os:List Oper} {i t:Nat},wOf os i t=none->∀(j:Nat) o,os[j]?=some o->o.dst≠some t
 | [],_,_,_,j,o,h=>by simp at h
 |o::os,i,t,h,j,o',ho=>by
  unfold wOf at h
  cases hb:Dy o.dst [t] with
  |true=>rw[hb]at h;cases h
  |false =>
   rw[hb]at h
   cases j with
   |zero =>
    simp only[List.getElem?_cons_zero,zLo]at ho;subst ho;intro e;rw[Bg.2 e]at hb;cases hb
   |succ j=>exact qC h j o' (by simpa using ho)
theorem w6:∀ {os:List Oper},ndD os=true->∀ {i j:Nat} {o o':Oper} {t:Nat},os[i]?=some o->os[j]?=some o'->o.dst=some t->o'.dst=some t->i=j
 | [],_,i,j,o,o',t,h,_,_,_=>by simp at h
 |x::os,hn,i,j,o,o',t,hi,hj,h1,h2=>by
  simp only[ndD,zLR]at hn;have key:∀ {j:Nat} {o':Oper},x.dst=some t->os[j]?=some o'->o'.dst=some t->False:=by
   intro j o' hx hj h2;have h:=hn.1
   rw[hx]at h;simp only at h;exact qC (Option.isNone_iff_eq_none.1 h) j o' hj h2
  cases i with
  |zero =>
   cases j with
   |zero=>rfl
   |succ j =>
    simp only[List.getElem?_cons_zero,zLo]at hi;subst hi;exact(key h1 (by simpa using hj) h2).elim
  |succ i =>
   cases j with
   |zero =>
    simp only[List.getElem?_cons_zero,zLo]at hj;subst hj;exact(key h2 (by simpa using hi) h1).elim
   |succ j=>exact zLi Nat.succ (w6 (os:=os) (i:=i) (j:=j) hn.2 (by simpa using hi) (by simpa using hj) h1 h2)
theorem pH:∀ {C:List It} {j:Nat} {e:It},W4 C j=some e->e∈C/\e.i=j
 | [],_,_,h=>by cases h
 |x::C,j,e,h=>by
  unfold W4 at h
  cases hb:Nat.beq x.i j with
  |true=>rw[hb]at h;cases h;exact⟨by simp,zLQ hb⟩
  |false =>
   rw[hb]at h;obtain⟨h1,h2⟩:=pH h;exact⟨zLb _ h1,h2⟩
theorem KP{b:Array Nat}{os:List Oper}{C:List It}{L0:LS}{i:Nat}:∀ {l:List Nat} {t:Nat} {e:Nat×AV},look (lof b os C L0 i l) t=some e->rdX b os C L0 i t=some e
 | [],_,_,h=>by cases h
 |u::l,t,e,h=>by
  unfold lof at h;split at h
  ·rename_i e' he
   rcases zD h with ⟨h1,h2⟩|⟨_,h2⟩
   ·subst h1 h2;exact he
   ·exact KP h2
  ·exact KP h
theorem wI{kill:List Nat}:∀ {M:MS} {k:Nat} {e:Nat×MV},look (UN kill M) k=some e->vf k kill=false/\look M k=some e
 | [],_,_,h=>by cases h
 |p::M,k,e,h=>by
  unfold UN at h
  cases hb:vf p.1 kill with
  |true =>
   rw[hb]at h;obtain⟨h1,h2⟩:=wI h;refine⟨h1,?_⟩;unfold look;rw[zU,zLt (fun e=>by rw[e,h1]at hb;cases hb)]
   exact h2
  |false =>
   rw[hb]at h;rcases zD (k:=p.1) (x:=p.2) h with ⟨h1,h2⟩|⟨h1,h2⟩
   ·subst h1
    refine⟨hb,?_⟩;unfold look;rw[zU,zLu rfl,<-h2];rfl
   ·obtain⟨h3,h4⟩:=wI h2
    refine⟨h3,?_⟩;unfold look;rw[zU,zLt h1];exact h4
theorem GG{M M':MS}:∀ {l:MS},UE M M' l=true->∀ {k:Nat} {e x:Nat×MV},look M k=some e->look l k=some x->∃e',look M' k=some e'/\e'.1=e.1
 | [],_,k,e,x,_,h=>by cases h
 |p::l,h,k,e,x,he,hl=>by
  simp only[UE,zLR]at h;rcases zD (k:=p.1) (x:=p.2) hl with ⟨h1,_⟩|⟨_,h2⟩
  ·have h0:=h.1
   rw[h1,he]at h0
   cases hm:look M' k with
   |none=>rw[hm]at h0;cases h0
   |some e'=>rw[hm]at h0;exact⟨e',rfl,(zLQ h0).symm⟩
  ·exact GG h.2 he h2
theorem Av{b:Array Nat}{i:Nat}{s':S}:∀ {C:List It},stays b i s' C=true->∀it∈C,bit b i it.i=true\/(UE it.M s'.M it.M=true/\s'.ep<=it.ep)
 | [],_,it,h=>by cases h
 |x::C,h,it,hm=>by
  simp only[stays,zLR,zLp]at h;rcases zLV.1 hm with rfl|hm
  ·exact h.1.imp id fun h=>⟨h.1,Nat.le_of_ble_eq_true h.2⟩
  ·exact Av h.2 it hm
theorem qU{al j:Nat}:∀ {l:List Nat},j∈l->j≠al->j∈rD al l
 |x::l,hm,hj=>by
  unfold rD;rcases zLV.1 hm with rfl|hm
  ·rw[zU,zLt hj];exact List.mem_cons_self ..
  ·split
   ·exact qU hm hj
   ·exact zLb _ (qU hm hj)
theorem pG{b:Array Nat}{i:Nat}:∀ {l:List Nat},ql b i l=true->∀j∈l,bit b j i=true
 | [],_,j,h=>by cases h
 |x::l,h,j,hm=>by
  simp only[ql,zLR]at h;rcases zLV.1 hm with rfl|hm
  ·exact h.1
  ·exact pG h.2 j hm
theorem rz:∀ {C:List It} {t:Nat} {e:Nat×AV},look (He C) t=some e->∃it∈C,it.d=t/\(it.n,it.φ)=e
 | [],_,_,h=>by cases h
 |it::C,t,e,h=>by
  rcases zD (k:=it.d) (x:=(it.n,it.φ)) h with ⟨h1,h2⟩|⟨_,h2⟩
  ·exact⟨it,by simp,h1,h2⟩
  ·obtain⟨it',h3,h4⟩:=rz h2
   exact⟨it',zLb _ h3,h4⟩
theorem rv:∀ {C:List It} {t:Nat},look (He C) t=none->∀it∈C,it.d≠t
 | [],_,_,it,h=>by cases h
 |x::C,t,h,it,hm=>by
  unfold He look at h;simp only at h
  cases hb:Nat.beq x.d t with
  |true=>rw[hb]at h;cases h
  |false =>
   rw[hb]at h;rcases zLV.1 hm with rfl|hm
   ·intro e;rw[zU,zLu e]at hb;cases hb
   ·exact rv h it hm
theorem uv{all:List Oper}{al:Nat}:∀ {os:List Oper},UJ all al os=true->∀o∈os,o.guard=none\/∃g p,o.guard=some (g,true)/\g≠al/\all[g]?=some p/\p.dst.isSome=true
 | [],_,o,h=>by cases h
 |x::os,h,o,hm=>by
  simp only[UJ,zLR]at h;rcases zLV.1 hm with rfl|hm
  ·have h1:=h.1
   cases hg:o.guard with
   |none=>exact .inl rfl
   |some z =>
    obtain⟨g,w⟩:=z;rw[hg]at h1;simp only[zLR,Bool.not_eq_true']at h1;obtain⟨h2,h3,h4⟩:=h1;subst h2
    cases hp:all[g]? with
    |none=>rw[hp]at h4;cases h4
    |some p =>
     rw[hp]at h4;refine .inr ⟨g,p,rfl,fun e=>?_,hp,h4⟩
     rw[zU,zLu e]at h3;cases h3
  ·exact uv h.2 o hm
theorem uq:∀ {os:List Oper} {o:Oper} {g:Nat} {w:Bool},o∈os->o.guard=some (g,w)->g∈gLs os
 | [],_,_,_,h,_=>by cases h
 |x::os,o,g,w,hm,hg=>by
  unfold gLs;rcases zLV.1 hm with rfl|hm
  ·rw[hg];exact List.mem_cons_self ..
  ·cases x.guard with
   |none=>exact uq hm hg
   |some _=>exact zLb _ (uq hm hg)
theorem Es:∀ {os:List Oper} {g:Nat},g∈gLs os->∃o w,o∈os/\o.guard=some (g,w)
 | [],_,h=>by cases h
 |x::os,g,h=>by
  unfold gLs at h
  cases hg:x.guard with
  |none =>
   rw[hg]at h;obtain⟨o,w,h1,h2⟩:=Es h;exact⟨o,w,zLb _ h1,h2⟩
  |some z =>
   rw[hg]at h;rcases zLV.1 h with h|h
   ·exact⟨x,z.2,List.mem_cons_self ..,by rw[hg,h]⟩
   ·obtain⟨o,w,h1,h2⟩:=Es h
    exact⟨o,w,zLb _ h1,h2⟩
def phG(gs:List Nat):Nat->List Oper->List SP
 |_,[]=>[]
 |i,_::os=>(bif vf i gs then SP.isv (.bool true) else SP.tt)::phG gs (i+1) os
theorem mN{gs:List Nat}:∀ {os:List Oper} {i j:Nat},j<os.length->(phG gs i os)[j]?=some (bif vf (i+j) gs then SP.isv (.bool true) else SP.tt)
 | [],_,_,h=>by cases h
 |o::os,i,0,_=>rfl
 |o::os,i,j+1,h=>by
  show (phG gs (i+1) os)[j]?=_
  rw[mN (by simpa using h),show i+1+j=i+(j+1) by omega]
theorem CV{can:List Nat}:∀ {n:Nat},ID can n=true->∀i,i<n->i∈can
 |0,_,i,h=>by omega
 |n+1,h,i,hi=>by
  simp only[ID,zLR]at h;by_cases e:i=n
  ·subst e;exact kX.1 h.1
  ·exact CV h.2 i (by omega)
structure Rdy(P:Program)(os:List Oper)(L0:LS)(C:List It)(s:S)(it:It):Prop where
 sub:∀k e,look it.M k=some e->look s.M k=some e
 ep:s.ep<=it.ep
 op:∀t e,look it.L t=some e->(wOf os 0 t=none/\look L0 t=some e)\/(∃j,wOf os 0 t=some j/\bit (bitsOf os) j it.i=true/\look L0 t=some e)\/(∃jt∈C,jt.i≠it.i/\wOf os 0 t=some jt.i/\bit (bitsOf os) it.i jt.i=true/\(jt.n,jt.φ)=e)
 ok:∃o,os[it.i]?=some o/\o.dst=some it.d/\∀ {X:Cx} {w:World} {a:Act},X.P=P->OkO X.O w->yD it.M X w->X.ep=it.ep->Xi it.L X w a->Ok P o a w (fun w v=>it.φ.holds X w v)
structure JS(F:Frm)(al:Nat)(gs:List Nat)(os:List Oper)(L0:LS)(M0:MS)(n0:Nat)(rest:List Nat)(C:List It)(s:S)(T:Nat->Bool)(a:Act)(w:World)(X:Cx):Prop where
 rel:RelX F s a w X
 sL:s.L=[]
 hn:n0<=s.n
 l0:∀t e,look L0 t=some e->e.1<n0
 im:∀k e,look s.M k=some e->e.1<n0->look M0 k=some e
 c:∀it∈C,T it.i=true->fresh s.ep (it.n,it.φ)=true->it.φ.holds X w (a.get it.d)
 l:∀t e,look L0 t=some e->(∀j o,os[j]?=some o->o.dst=some t->T j=false)->fresh s.ep e=true->e.2.holds X w (a.get t)
 rd:∀it∈C,T it.i=false->Rdy F.P os L0 C s it
 rs:∀i∈rest,T i=false\/i=al
 nc:∀it∈C,it.i ∉ rest
 un:∀it∈C,∀it'∈C,it.i=it'.i->it=it'
 cov:∀i o,os[i]?=some o->i∈rest\/(o.dst=none/\T i=true)\/∃it∈C,it.i=i
 dst:∀it∈C,∃o,os[it.i]?=some o/\o.dst=some it.d
 st:∀it∈C,n0<=it.n/\it.n<=s.n
 gi:∀it∈C,gOk gs it.i it.φ=true
section
variable {F:Frm} {E:VE} {os:List Oper} {L0:LS} {M0:MS} {n0 nf:Nat} {rest:List Nat} {C:List It} {s:S} {T:Nat->Bool} {a:Act} {w:World} {X:Cx} {wr ch gs:List Nat} {al:Nat} {kill:Nat->List Nat} {β:Type} {y:β} {k:S->Comp β}
theorem Rdy.cons{P:Program}{it:It}(h:Rdy P os L0 C s it)(x:It):Rdy P os L0 (x::C) s it :=
 ⟨h.sub,h.ep,fun t e he=>(h.op t e he).imp id (·.imp id fun ⟨jt,h1,h2⟩=>⟨jt,zLb _ h1,h2⟩),h.ok⟩
theorem BI{b:Array Nat}{i t:Nat}{e:Nat×AV}(h:rdX b os C L0 i t=some e):(wOf os 0 t=none/\look L0 t=some e)\/(∃j,wOf os 0 t=some j/\bit b j i=true/\look L0 t=some e)\/(∃jt∈C,wOf os 0 t=some jt.i/\bit b i jt.i=true/\(jt.n,jt.φ)=e):=by
 unfold rdX at h;split at h
 ·rename_i hw;exact .inl ⟨hw,h⟩
 ·rename_i j hw
  split at h
  ·rename_i hb
   split at h
   ·rename_i e' he
    cases h
    obtain⟨h1,h2⟩:=pH he;exact .inr (.inr ⟨e',h1,by rw[h2];exact hw,by rw[h2];exact hb,rfl⟩)
   ·cases h
  ·split at h
   ·rename_i hb;exact .inr (.inl ⟨j,hw,hb,h⟩)
   ·cases h
theorem Vp{b:Array Nat}{i:Nat}{L:LS}:∀k e,look (mvX b i ch kill s L).1 k=some e->look s.M k=some e:=by
 intro k e h;unfold mvX at h;split at h
 ·exact h
 ·exact(wI h).2
theorem zDl{b:Array Nat}{i:Nat}{L:LS}(h:s.ep<=s.n):s.ep<=(mvX b i ch kill s L).2:=by
 unfold mvX;split
 ·exact zLT _
 ·show s.ep<=(match zFS L with
  |true=>s.ep
  |false=>s.n+1000000000)
  split
  ·exact zLT _
  ·exact zLY h (Nat.le_add_right _ _)
theorem JS.add(hE:E.ok F.P){i:Nat}(h:JS F al gs os L0 M0 n0 (i::rest) C s T a w X)(hn:i ∉ rest)(bZ:i≠al){o:Oper}(ho:os[i]?=some o){d:Nat}(hd:o.dst=some d){φ:AV}
  (hv:∀ {X:Cx} {w:World} {a:Act},X.P=F.P->OkO X.O w->yD (mvX (bitsOf os) i ch kill s (lof (bitsOf os) os C L0 i (tmps o.op.operands.toList))).1 X w->X.ep=(mvX (bitsOf os) i ch kill s (lof (bitsOf os) os C L0 i (tmps o.op.operands.toList))).2->Xi (lof (bitsOf os) os C L0 i (tmps o.op.operands.toList)) X w a->Ok F.P o a w (fun w v=>φ.holds X w v)) (sM:gOk gs i φ=true) :
  JS F al gs os L0 M0 n0 rest (⟨i,d,s.n,φ,lof (bitsOf os) os C L0 i (tmps o.op.operands.toList),(mvX (bitsOf os) i ch kill s (lof (bitsOf os) os C L0 i (tmps o.op.operands.toList))).1,(mvX (bitsOf os) i ch kill s (lof (bitsOf os) os C L0 i (tmps o.op.operands.toList))).2⟩::C) s T a w X:=by
 have iC:T i=false:=(h.rs i (by simp)).resolve_right bZ
 have dI:∀it∈C,it.i≠i:=fun it hm e=>h.nc it hm (by rw[e];simp)
 refine⟨h.rel,h.sL,h.hn,h.l0,h.im,fun it hm ht=>?_,h.l,fun it hm ht=>?_,fun j hj=>h.rs j (zLb _ hj),fun it hm=>?_,fun it hm it' hm' he=>?_,fun j o' hj=>?_,fun it hm=>?_,fun it hm=>?_,fun it hm=>?_⟩
 ·rcases zLV.1 hm with rfl|hm
  ·rw[iC]at ht;cases ht
  ·exact h.c it hm ht
 ·rcases zLV.1 hm with rfl|hm
  ·refine⟨Vp,zDl h.rel.epn,fun t e he=>?_,o,ho,hd,hv⟩
   rcases BI (KP he) with h1|h1|⟨jt,h1,h2⟩
   ·exact .inl h1
   ·exact .inr (.inl h1)
   ·exact .inr (.inr ⟨jt,zLb _ h1,dI jt h1,h2⟩)
  ·exact(h.rd it hm ht).cons _
 ·rcases zLV.1 hm with rfl|hm
  ·exact hn
  ·exact fun hr=>h.nc it hm (zLb _ hr)
 ·rcases zLV.1 hm with rfl|hm<;>rcases zLV.1 hm' with rfl|hm'
  ·rfl
  ·exact zLh he.symm (dI it' hm')
  ·exact zLh he (dI it hm)
  ·exact h.un it hm it' hm' he
 ·rcases h.cov j o' hj with h1|h1|⟨it,h1,h2⟩
  ·rcases zLV.1 h1 with rfl|h1
   ·exact .inr (.inr ⟨_,List.Mem.head _,rfl⟩)
   ·exact .inl h1
  ·exact .inr (.inl h1)
  ·exact .inr (.inr ⟨it,zLb _ h1,h2⟩)
 ·rcases zLV.1 hm with rfl|hm
  ·exact⟨o,ho,hd⟩
  ·exact h.dst it hm
 ·rcases zLV.1 hm with rfl|hm
  ·exact⟨h.hn,zLT _⟩
  ·exact h.st it hm
 ·rcases zLV.1 hm with rfl|hm
  ·exact sM
  ·exact h.gi it hm
theorem JS.zHU(sA:ndD os=true)(h:JS F al gs os L0 M0 n0 rest C s T a w X){i:Nat}(x8:∀k,bit (bitsOf os) k i=true->T k=false)(sG:∀k,bit (bitsOf os) i k=true->yr T i k=true){t:Nat}{e:Nat×AV}
  (hc:(wOf os 0 t=none/\look L0 t=some e)\/(∃j,wOf os 0 t=some j/\bit (bitsOf os) j i=true/\look L0 t=some e)\/(∃jt∈C,jt.i≠i/\wOf os 0 t=some jt.i/\bit (bitsOf os) i jt.i=true/\(jt.n,jt.φ)=e)) (hf:fresh s.ep e=true):e.2.holds X w (a.get t):=by
 rcases hc with ⟨h1,h2⟩|⟨j,h1,h2,h3⟩|⟨jt,h1,h2,h3,h4,h5⟩
 ·exact h.l t e h2 (fun j o hj hd=>zLh hd (qC h1 j o hj)) hf
 ·refine h.l t e h3 (fun j' o hj hd=>?_) hf
  obtain⟨_,o',g1,g2⟩:=qA h1;have:j'=j:=w6 sA hj (by simpa using g1) hd g2
  rw[this];exact x8 j h2
 ·obtain⟨_,o',g1,g2⟩:=qA h3
  obtain⟨o2,g3,g4⟩:=h.dst jt h1;rw[Nat.sub_zero,g3]at g1;cases g1;rw[g4]at g2;cases g2;have hT:T jt.i=true:=by
   have:=sG _ h4;simp only[yr,zLp]at this;exact this.resolve_right fun hb=>h2 (zLQ hb)
  rw[<-h5]at hf |-;exact h.c jt h1 hT hf
theorem RelX.set(fE:∀t φ,¬F.Lh t φ)(h:RelX F s a w X)(hL:s.L=[]){w':World}(hE:Ext w w')(d:Option Tmp)(v:Value):RelX F s (a.put d v) w' X :=
 h.go (ZH h.fit d v) rfl rfl rfl (fun _ _=>zb.ext hE) (fun _ _=>rfl) h.n h.ep (zLT _) h.epn (h.base.step hE h.ok0) (fun hf=>⟨hf,hE⟩) (fun t φ hp=>zLh hp (fE t φ)) (fun t e he=>by rw[hL]at he;cases he) (fun k e he=>.inr ⟨he,rfl,fun _=>zb.ext hE⟩) h.inj h.pos
theorem lD{T:Nat->Bool}{i j:Nat}(h:yr T i j=true)(fC:j≠i):T j=true:=by
 simp only[yr,zLp]at h;exact h.resolve_right fun hb=>fC (zLQ hb)
theorem kf(T:Nat->Bool)(i:Nat):yr T i i=true:=by simp[yr,zU]
theorem XP{T:Nat->Bool}{i j:Nat}(h:yr T i j=false):T j=false/\j≠i:=by
 unfold yr at h;rw[Bool.or_eq_false_iff,zU]at h;exact⟨h.1,by simpa using h.2⟩
theorem JS.val(fE:∀t φ,¬F.Lh t φ)(fA:zw F.N os=true)(sA:ndD os=true)(h:JS F al gs os L0 M0 n0 rest C s T a w X){it:It}(hm:it∈C)(hT:T it.i=false)(x8:∀k,bit (bitsOf os) k it.i=true->T k=false)(sG:∀k,bit (bitsOf os) it.i k=true->yr T it.i k=true) :
  ∃o,os[it.i]?=some o/\Ok F.P o a w (fun w' v=>Ext w w'->JS F al gs os L0 M0 n0 rest C s (yr T it.i) (a.put o.dst v) w' X):=by
 obtain⟨r1,r2,r3,o,ho,hd,r4⟩:=h.rd it hm hT;refine⟨o,ho,fun K Q hK=>?_⟩
 let X1:Cx:={ X with ep:=it.ep }
 have to1:∀ {φ:AV} {w:World} {v:Value},φ.holds X w v->φ.holds X1 w v:=fun {φ w v} hv=>(φ.mono (X:=X) (X':=X1) (w:=w) (w':=w) ⟨rfl,zb.refl _ _ _,fun _ _=>rfl,zLT _,rfl⟩ fun _=>Ext.refl _).1 v hv
 have of1:∀ {φ:AV} {w:World} {v:Value},φ.holds X1 w v->φ.holds X w v:=fun {φ w v} hv=>(φ.mono (X:=X1) (X':=X) (w:=w) (w':=w) ⟨rfl,zb.refl _ _ _,fun _ _=>rfl,zLT _,rfl⟩ fun _=>Ext.refl _).1 v hv
 have cK:=h.rel.mnX;have hM1:yD it.M X1 w:=fun k e he=>MV.le (X:=X) (X':=X1) ⟨rfl,zb.refl _ _ _,fun _ _=>rfl,zLT _,rfl⟩ (cK k e (r1 k e he)) rfl rfl rfl _ (fun _=>zb.refl _ _ _) (h.rel.m k e (r1 k e he))
 have hL1:Xi it.L X1 w a:=fun t e he hf=>by
  have hf':fresh s.ep e=true:=by
   unfold fresh at hf |-;rw[zLp]at hf |-;exact hf.imp id fun hb=>by
    rw[je,zLj]at hb |-;exact zLY r2 hb
  exact to1 (h.zHU sA x8 sG (r3 t e he) hf')
 refine r4 (X:=X1) h.rel.P h.rel.okO hM1 rfl hL1 K Q fun v w' pV hv=>?_
 refine hK v w' pV fun _=>?_
 rw[hd];have hv:=of1 hv
 have iR:=((zV fA ho).2.1 it.d hd).1;have mM:∀it'∈C,it'.i≠it.i->it.d≠it'.d:=fun it' hm' fC e=>by
  obtain⟨o',g1,g2⟩:=h.dst it' hm';exact fC (w6 sA g1 ho (by rw[g2,e]) hd)
 refine⟨h.rel.set fE h.sL pV _ _,h.sL,h.hn,h.l0,h.im,fun it' hm' ht hf=>?_,fun t e he ht hf=>?_,fun it' hm' ht=>h.rd it' hm' (XP ht).1,fun j hj=>?_,h.nc,h.un,fun j o' hj=>?_,h.dst,h.st,h.gi⟩
 ·by_cases fC:it'.i=it.i
  ·have:=h.un it' hm' it hm fC
   subst this;rw[yV h.rel.fit iR];exact hv
  ·rw[vi (mM it' hm' fC)]
   exact it'.φ.ext pV (h.c it' hm' (lD ht fC) hf)
 ·have fC:it.d≠t:=fun e=>by
   have:=ht it.i o ho (by rw[hd,e])
   rw[kf]at this;cases this
  rw[vi fC];exact e.2.ext pV (h.l t e he (fun j o' hj hd'=>(XP (ht j o' hj hd')).1) hf)
 ·have h1:=h.rs j hj
  have fC:j≠it.i:=fun e=>h.nc it hm (by rw[<-e];exact hj)
  refine h1.imp (fun h1=>?_) id
  unfold yr;rw[h1,zU,zLt fC];rfl
 ·rcases h.cov j o' hj with h1|⟨h1,h2⟩|h1
  ·exact .inl h1
  ·exact .inr (.inl ⟨h1,by simp[yr,h2]⟩)
  ·exact .inr (.inr h1)
def UK(ep:Nat)(os:List Oper)(L0:LS)(C:List It)(T:Nat->Bool)(i:Nat):Nat->AV->Prop:=fun t φ=>(∀o,os[i]?=some o->o.dst≠some t) /\
 ((∃it∈C,T it.i=true/\it.d=t/\it.φ=φ/\fresh ep (it.n,it.φ)=true)\/(∃x,look L0 t=some x/\x.2=φ/\fresh ep x=true/\∀j o,os[j]?=some o->o.dst=some t->T j=false))
theorem QB{ep:Nat}{e:Nat×AV}(h:e.2.zg=false):fresh ep e=true:=by simp[fresh,h]
theorem JS.nxt(fE:∀t φ,¬F.Lh t φ)(sA:ndD os=true){q:Nat->Obj->Prop}{i:Nat}(h:JS (F.sys q) al gs os L0 M0 n0 (i::rest) C s T a w X)(hn:i ∉ rest){o:Oper}(ho:os[i]?=some o)(sG:∀k,bit (bitsOf os) i k=true->yr T i k=true)
  {s':S} {a':Act} {w':World} {X':Cx} {Le:LS} (hX:RelX { F with Lh:=UK s.ep os L0 C T i,fe:=s.n } s' a' w' X') (hi:Inv { L:=Le,M:=s.M,n:=s.n+1,ep:=s.ep } s') (hA6:s.ep<=s'.ep) (f9:stays (bitsOf os) i s' C=true)
  {nw:List It} (h1:∀it∈nw,it.i=i/\o.dst=some it.d/\look s'.L it.d=some (it.n,it.φ)/\s.n<=it.n) (h2:∀it∈nw,∀it'∈nw,it=it') (h3:o.dst=none\/∃it,it∈nw) (h4:∀it∈nw,gOk gs it.i it.φ=true) :
  JS F al gs os L0 M0 n0 rest (nw++C) { L:=[],M:=s'.M,n:=s'.n,ep:=s'.ep } (yr T i) a' w' X':=by
 have fT:s.n+1<=s'.n:=hi.le;have dI:∀it∈C,it.i≠i:=fun it hm e=>h.nc it hm (by rw[e];simp)
 have hXF:RelX F { L:=[],M:=s'.M,n:=s'.n,ep:=s'.ep } a' w' X':=⟨hX.P,hX.A,hX.Fn,hX.n,hX.ep,hX.ok0,hX.fit,hX.base,fun t e he=>(nomatch he),hX.m,fun t e he=>(nomatch he),hX.mn,hX.inj,hX.pos,hX.epn,zLe h.rel.fe (by show s.n<=s'.n;omega),fun t φ hp=>zLh hp (fE t φ),hX.bl,hX.ex⟩
 have xG:∀ {e:Nat×AV},fresh s'.ep e=true->e.1<=s.n->e.2.zg=true->s'.ep<=s.n:=fun {e} hf hl fY=>by
  simp only[fresh,fY,Bool.not_true,Bool.false_or]at hf;rw[je]at hf;exact zLY (of_decide_eq_true hf) hl
 have aQ:∀ {e:Nat×AV},fresh s'.ep e=true->fresh s.ep e=true:=fun {e} hf=>by
  unfold fresh at hf |-;rw[zLp]at hf |-;exact hf.imp id fun hb=>by
   rw[je,zLj]at hb |-;exact zLY hA6 hb
 refine⟨hXF,rfl,zLY h.hn (by show s.n<=s'.n;omega),h.l0,fun k e he gF=>h.im k e (hi.m k e he (by have:=h.hn;show e.1<s.n+1;omega)) gF,
  fun it hm ht hf=>?_,fun t e he ht hf=>?_,fun it hm ht=>?_,fun j hj=>?_,fun it hm=>?_,fun it hm it' hm' he=>?_,fun j o' hj=>?_,fun it hm=>?_,fun it hm=>?_,fun it hm=>?_⟩
 ·rcases zLa.1 hm with hm|hm
  ·obtain⟨_,_,g1,_⟩:=h1 it hm
   exact hX.l _ _ g1 (by rw[hX.ep];exact hf)
  ·refine hX.lh it.d it.φ ⟨fun o' ho' e=>?_,.inl ⟨it,hm,lD ht (dI it hm),rfl,rfl,aQ hf⟩⟩ (xG hf (h.st it hm).2)
   obtain⟨o2,g1,g2⟩:=h.dst it hm;exact dI it hm (w6 sA g1 ho' g2 e)
 ·refine hX.lh t e.2 ⟨fun o' ho' e'=>?_,.inr ⟨e,he,rfl,aQ hf,fun j o' hj hd=>(XP (ht j o' hj hd)).1⟩⟩ (xG hf (by have:=h.l0 t e he;have:=h.hn;omega))
  have:=ht i o' ho' e';rw[kf]at this;cases this
 ·rcases zLa.1 hm with hm|hm
  ·rw[(h1 it hm).1,kf]at ht;cases ht
  ·obtain⟨r1,r2,r3,r4⟩:=h.rd it hm (XP ht).1
   rcases Av f9 it hm with g|⟨g1,g2⟩
   ·rw[sG _ g]at ht;cases ht
   ·refine⟨fun k e he=>?_,g2,fun t e he=>(r3 t e he).imp id (·.imp id fun ⟨jt,q1,q2⟩=>⟨jt,List.mem_append_right _ q1,q2⟩),r4⟩
    obtain⟨e',q1,q2⟩:=GG g1 he he;have q3:=r1 k e he
    have q4:=(h.rel.mn k e q3).1;have q5:=hi.m k e' q1 (by show e'.1<s.n+1;omega)
    have q6:look s.M k=some e':=q5;rw[q3]at q6;cases q6;exact q1
 ·have g1:=h.rs j (zLb _ hj)
  have fC:j≠i:=fun e=>hn (by rw[<-e];exact hj)
  refine g1.imp (fun g1=>?_) id
  unfold yr;rw[g1,zU,zLt fC];rfl
 ·rcases zLa.1 hm with hm|hm
  ·rw[(h1 it hm).1];exact hn
  ·exact fun hr=>h.nc it hm (zLb _ hr)
 ·rcases zLa.1 hm with hm|hm<;>rcases zLa.1 hm' with hm'|hm'
  ·exact h2 it hm it' hm'
  ·rw[(h1 it hm).1]at he;exact zLh he.symm (dI it' hm')
  ·rw[(h1 it' hm').1]at he;exact zLh he (dI it hm)
  ·exact h.un it hm it' hm' he
 ·rcases h.cov j o' hj with g|⟨g1,g2⟩|⟨it,g1,g2⟩
  ·rcases zLV.1 g with rfl|g
   ·rw[ho]at hj;cases hj
    rcases h3 with g|⟨it,g⟩
    ·exact .inr (.inl ⟨g,kf _ _⟩)
    ·exact .inr (.inr ⟨it,List.mem_append_left _ g,(h1 it g).1⟩)
   ·exact .inl g
  ·exact .inr (.inl ⟨g1,by simp[yr,g2]⟩)
  ·exact .inr (.inr ⟨it,List.mem_append_right _ g1,g2⟩)
 ·rcases zLa.1 hm with hm|hm
  ·exact⟨o,by rw[(h1 it hm).1];exact ho,(h1 it hm).2.1⟩
  ·exact h.dst it hm
 ·rcases zLa.1 hm with hm|hm
  ·exact⟨zLY h.hn (h1 it hm).2.2.2,Nat.le_of_lt (hX.ln _ _ (h1 it hm).2.2.1)⟩
  ·have:=h.st it hm;exact⟨this.1,by show it.n<=s'.n;omega⟩
 ·rcases zLa.1 hm with hm|hm
  ·exact h4 it hm
  ·exact h.gi it hm
theorem JS.Mk(h:JS F al gs os L0 M0 n0 rest C s T a w X)(i:Nat):RelX { F with Lh:=UK s.ep os L0 C T i,fe:=s.n } { L:=[],M:=s.M,n:=s.n+1,ep:=s.ep } a w { X with n:=s.n+1 }:=by
 let Xe:Cx:={ X with n:=s.n+1 }
 have toe:∀ {φ:AV} {v:Value},φ.holds X w v->φ.holds Xe w v:=fun {φ v} hv=>(φ.mono (X:=X) (X':=Xe) (w:=w) (w':=w) ⟨rfl,zb.refl _ _ _,fun _ _=>rfl,by rw[h.rel.n];exact zLc _,rfl⟩ fun _=>Ext.refl _).1 v hv
 have sM:RelX F { L:=[],M:=s.M,n:=s.n+1,ep:=s.ep } a w Xe :=
  h.rel.go (X':=Xe) h.rel.fit rfl rfl rfl (fun _ _=>zb.refl _ _ _) (fun _ _=>rfl) rfl h.rel.ep (zLc _) (Nat.le_succ_of_le h.rel.epn) h.rel.base (fun hf=>⟨hf,Ext.refl _⟩) (fun _ _ _=>rfl) (fun t e he=>nomatch he) (fun k e he=>.inr ⟨he,rfl,fun _=>zb.refl _ _ _⟩) h.rel.inj h.rel.pos
 refine⟨sM.P,sM.A,sM.Fn,sM.n,sM.ep,sM.ok0,sM.fit,sM.base,sM.l,sM.m,sM.ln,sM.mn,sM.inj,sM.pos,sM.epn,zLd _,fun t φ hp _=>toe ?_,sM.bl,sM.ex⟩
 rcases hp.2 with ⟨it,g1,g2,g3,g4,g5⟩|⟨x,g1,g2,g5,g3⟩
 ·rw[<-g3,<-g4];exact h.c it g1 g2 g5
 ·rw[<-g2];exact h.l t x g1 g3 g5
def Gh(E:VE)(F:Frm)(q:Nat->Obj->Prop)(al:Nat)(os:List Oper)(rest:List Nat)(T:Nat->Bool)(a:Act):Prop :=
 (q=F.x.sys/\(al∈rest->T al=false))\/(al∈rest/\T al=true/\(∀k,bit (bitsOf os) al k=true->T k=true)/\∃b Y d i o0 o,os[al]?=some o/\o.op=.alloc Y/\o.dst=some d/\look E.T Y=some i/\a.get d=.pointer (some ⟨b,0,none⟩) /\
  (∀c o,F.x.sys c o->c≠b/\q c o)/\q b o0/\F.w0.heap.size<=b/\∀w:World,w.heap[b]?=some o0->Own w b i.z.cells Y)
theorem Gh.no{q:Nat->Obj->Prop}(h:Gh E F q al os rest T a)(hT:al∈rest->T al=false):q=F.x.sys:=by
 rcases h with h|⟨h1,h2,_⟩
 ·exact h.1
 ·rw[hT h1]at h2;cases h2
theorem Gh.tail{q:Nat->Obj->Prop}{i:Nat}(h:Gh E F q al os (i::rest) T a)(hi:i≠al):Gh E F q al os rest T a :=
 h.imp (fun h=>⟨h.1,fun hm=>h.2 (zLb _ hm)⟩) fun h=>⟨(zLV.1 h.1).resolve_left (Ne.symm hi),h.2⟩
theorem Gh.step{q:Nat->Obj->Prop}(sA:ndD os=true)(h:Gh E F q al os rest T a){i:Nat}{o:Oper}(ho:os[i]?=some o)(hi:al∈rest->i≠al)(v:Value):Gh E F q al os rest (yr T i) (a.put o.dst v):=by
 rcases h with ⟨h1,h2⟩|⟨h1,h2,h3,b,Y,d,j,o0,o',h4,h5,h6,h7,h8,h9⟩
 ·refine .inl ⟨h1,fun hm=>?_⟩
  unfold yr;rw[h2 hm,zU,zLt (Ne.symm (hi hm))];rfl
 ·refine .inr ⟨h1,by simp[yr,h2],fun k hk=>by simp[yr,h3 k hk],b,Y,d,j,o0,o',h4,h5,h6,h7,?_,h9⟩
  rw[jN (fun e=>hi h1 (w6 sA ho h4 e h6))];exact h8
theorem C9{o:Oper}{Y:TypeId}{i:TI}(xV:o.op=.alloc Y)(hi:look E.T Y=some i){k:S->Comp β}:step E wr s o k=k (s.obj o.dst (.bx true (qw i) Y) (.bx s.n 0)):=by
 obtain⟨d,op,T,pos,aft,g⟩:=o;simp only at xV;subst xV;simp only[step,UG,Hr,uW,hi]
theorem Wj(h:T al=true):yr T al=T:=by
 funext j
 unfold yr;by_cases e:j=al
 ·rw[e,h];rfl
 ·rw[zU,zLt e,Bool.or_false]
theorem JS.adv(fE:∀t φ,¬F.Lh t φ)(hE:E.ok F.P)(sA:ndD os=true)(sR:Mo E os ch al=true):∀ {rest:List Nat} {C:List It} {s:S} {X:Cx} {q:Nat->Obj->Prop},JS (F.sys q) al gs os L0 M0 n0 rest C s T a w X->Gh E F q al os rest T a->(Jy E wr (bitsOf os) os ch al gs kill L0 k rest C s).run nf=some y ->
  ∃rest' C' s' X' q',JS (F.sys q') al gs os L0 M0 n0 rest' C' s' T a w X'/\Gh E F q' al os rest' T a/\(Jy E wr (bitsOf os) os ch al gs kill L0 k rest' C' s').run nf=some y/\(∀i l,rest'=i::l->vf i ch=true/\T i=false)
 | [],C,s,X,q,h,hg,hr=>⟨[],C,s,X,q,h,hg,hr,fun _ _ e=>nomatch e⟩
 |i::rest,C,s,X,q,h,hg,hr=>by
  cases hc:vf i ch with
  |true =>
   cases hT:T i with
   |false=>exact⟨i::rest,C,s,X,q,h,hg,hr,fun j l e=>by cases e;exact⟨hc,hT⟩⟩
   |true =>
    obtain rfl:al=i:=((h.rs i (by simp)).resolve_left fun e=>by rw[hT]at e;cases e).symm
    rcases hg with hg|⟨_,_,g3,b,Y,d,j,o0,o',g4,g5,g6,g7,g8,g9,g10,g11,g12⟩
    ·rw[hg.2 (by simp)]at hT;cases hT
    simp only[Jy]at hr;split at hr
    ·rename_i o hn ho
     rw[g4]at ho;cases ho;have hn':al ∉ rest:=fun hm=>by rw[kX.2 hm]at hn;cases hn
     rw[hc]at hr;simp only at hr;split at hr
     ·rw[C9 g5 g7]at hr
      have hlof:lof (bitsOf os) os C L0 al (tmps o'.op.operands.toList)=[]:=by rw[g5];rfl
      rw[hlof,g6]at hr;obtain⟨X',hX'⟩:=RelX.take (F:={ F with Lh:=UK s.ep os L0 C T al,fe:=s.n }) (d:=d) (h.Mk al) g9 g10 g11 g12 g8 E7 E6 fun φ hp=>hp.1 _ g4 g6
      have hi':=Inv.obj { L:=[],M:=s.M,n:=s.n+1,ep:=s.ep } (some d) (.bx true (qw j) Y) (.bx (s.n+1) 0);have xP:=Wj hT
      have sG:∀k,bit (bitsOf os) al k=true->yr T al k=true:=fun k hk=>by rw[xP];exact g3 k hk
      split at hr
      ·rename_i f9
       rw[zLR]at f9;obtain⟨iD,f9⟩:=f9;have iD:=Nat.le_of_ble_eq_true iD
       simp only at hr;split at hr
       ·rename_i e he
        split at hr
        ·rename_i hb
         split at hr
         rotate_left
         ·cases hr
         rename_i sM;have h2:=h.nxt (nw:=[⟨al,d,e.1,e.2,[],[],s.n+1000000000⟩]) fE sA hn' g4 sG hX' hi' iD f9 (fun it hm=>by
          obtain rfl:=List.mem_singleton.1 hm;exact⟨rfl,g6,he,Nat.le_of_ble_eq_true hb⟩) (fun it hm it' hm'=>by rw[List.mem_singleton.1 hm,List.mem_singleton.1 hm']) (.inr ⟨_,List.Mem.head _⟩) (fun it hm=>by obtain rfl:=List.mem_singleton.1 hm;exact sM)
         rw[xP]at h2;have h3:JS (F.sys F.x.sys) al gs os L0 M0 n0 rest _ _ T a w X':=h2
         exact JS.adv fE hE sA sR h3 (.inl ⟨rfl,fun hm=>zLh hm hn'⟩) hr
        ·cases hr
       ·cases hr
      ·cases hr
     ·cases hr
    ·cases hr
  |false =>
   simp only[Jy]at hr;split at hr
   ·rename_i o hn ho
    have hn':i ∉ rest:=fun hm=>by rw[kX.2 hm]at hn;cases hn
    have bZ:i≠al:=fun e=>by
     subst e;unfold Mo at sR;rw[ho]at sR;simp only[zLR]at sR;rw[sR.1]at hc;cases hc
    rw[hc]at hr;simp only at hr;split at hr
    ·cases hr
    ·rename_i d hd
     split at hr
     ·cases hr
     ·rename_i φ hv
      split at hr
      rotate_left
      ·cases hr
      rename_i sM;refine JS.adv fE hE sA sR (JS.add (F:=F.sys q) (ch:=ch) (kill:=kill) hE h hn' bZ ho hd (fun {X w a} hP hO hM xG hL=>?_) sM) (hg.tail bZ) hr
      have:=J6 (X:=X) (R:=[]) (g:=[]) (wr:=wr) (L:=lof (bitsOf os) os C L0 i (tmps o.op.operands.toList)) (by rw[hP];exact hE) trivial hO hM o (fun t _=>fun e he hf=>hL t e he hf) trivial
      rw[xG,hd,hv]at this;rw[<-hP];exact this
     ·rename_i t c mk hv
      obtain⟨x,hx,hr⟩:=run_bind hr;split at hr
      rotate_left
      ·cases hr
      rename_i sM;refine JS.adv fE hE sA sR (JS.add (F:=F.sys q) (ch:=ch) (kill:=kill) hE h hn' bZ ho hd (fun {X w a} hP hO hM xG hL=>?_) sM) (hg.tail bZ) hr
      have:=J6 (X:=X) (R:=[]) (g:=[]) (wr:=wr) (L:=lof (bitsOf os) os C L0 i (tmps o.op.operands.toList)) (by rw[hP];exact hE) trivial hO hM o (fun t _=>fun e he hf=>hL t e he hf) trivial
      rw[xG,hd,hv]at this;rw[<-hP];exact this nf x hx
   ·cases hr
theorem JS.early(fE:∀t φ,¬F.Lh t φ)(hE:E.ok F.P)(sB:F.x.sb<=F.w0.heap.size)(fA:zw F.N os=true)(sA:ndD os=true)(sR:Mo E os ch al=true)(h:JS F al gs os L0 M0 n0 rest C s T a w X)(hm:al∈rest)(hT:T al=false){o:Oper}(ho:os[al]?=some o)(sG:∀k,bit (bitsOf os) al k=true->yr T al k=true) :
  ∀(K:Act->World->Prop) (Q:Exit->Act->World->Prop),(∀v w',(∃q X',JS (F.sys q) al gs os L0 M0 n0 rest C s (yr T al) (a.put o.dst v) w' X'/\Gh E F q al os rest (yr T al) (a.put o.dst v))->K (a.put o.dst v) w')->o.wp F.P a w K Q:=by
 intro K Q hK;unfold Mo at sR;rw[ho]at sR;simp only[zLR]at sR;obtain⟨_,sR⟩:=sR;split at sR
 ·rename_i Y d xV hd
  obtain⟨i,hi⟩:=Option.isSome_iff_exists.1 sR;obtain⟨d',op,T0,pos,aft,g⟩:=o;simp only at xV hd;subst xV hd;refine BX (zLT _) (hE.T Y i hi).ty K Q fun v w' pV hv=>hK v w' ?_
  obtain⟨b,tC,aT,fr,hb3,hb4⟩:=hv;have hg:=h.rel.ghost fE h.sL pV sB (d:=some d) (v:=v) tC hb3
  have iR:=((zV fA ho).2.1 d rfl).1;have hk:KX none X.O w (tag X.O (some b) F.x.st) w':=KX.tag pV fun g hg=>by cases hg;exact tC
  have fT:X.le w { X with O:=tag X.O (some b) F.x.st } w':=⟨rfl,hk.keep (by simp),fun _ _=>rfl,zLT _,rfl⟩
  have mono:∀ {φ:AV} {v:Value},φ.holds X w v->φ.holds { X with O:=tag X.O (some b) F.x.st } w' v:=fun {φ v} hv=>(φ.mono fT fun _=>pV).1 v hv
  refine⟨_,_,⟨hg,h.sL,h.hn,h.l0,h.im,fun it hi' ht hf=>?_,fun t e he ht hf=>?_,fun it hi' ht=>h.rd it hi' (XP ht).1,fun j hj=>?_,h.nc,h.un,fun j o' hj=>?_,h.dst,h.st,h.gi⟩,.inr ⟨hm,kf _ _,sG,b,Y,d,i,_,_,ho,rfl,rfl,hi,?_,fun c o hc=>⟨fun e=>?_,.inl hc⟩,.inr ⟨rfl,rfl⟩,zLY h.rel.base.size tC,fun w hw=>⟨fr,hw,hb4⟩⟩⟩
  ·have fC:it.i≠al:=fun e=>h.nc it hi' (by rw[e];exact hm)
   obtain⟨o',g1,g2⟩:=h.dst it hi';rw[vi (fun e=>fC (w6 sA g1 ho g2 (by rw[e])))]
   exact mono (h.c it hi' (lD ht fC) hf)
  ·have fC:d≠t:=fun e=>by
    have:=ht al _ ho (by rw[e])
    rw[kf]at this;cases this
   rw[vi fC];exact mono (h.l t e he (fun j o' hj hd'=>(XP (ht j o' hj hd')).1) hf)
  ·by_cases e:j=al
   ·exact .inr e
   ·refine .inl ?_
    have:=(h.rs j hj).resolve_right e;unfold yr;rw[this,zU,zLt e];rfl
  ·rcases h.cov j o' hj with h1|⟨h1,h2⟩|h1
   ·exact .inl h1
   ·exact .inr (.inl ⟨h1,by simp[yr,h2]⟩)
   ·exact .inr (.inr h1)
  ·rw[yV h.rel.fit iR];exact aT
  ·have:=(zLq.1 (h.rel.ex.sys c o hc).1.1).1
   omega
 ·cases sR
theorem JS.eff(fE:∀t φ,¬F.Lh t φ)(hE:E.ok F.P)(fA:zw F.N os=true)(sA:ndD os=true)(sR:Mo E os ch al=true){q:Nat->Obj->Prop}{i:Nat}(h:JS (F.sys q) al gs os L0 M0 n0 (i::rest) C s T a w X)(c8:Gh E F q al os (i::rest) T a)(iC:T i=false)(iE:vf i ch=true)(hr:(Jy E wr (bitsOf os) os ch al gs kill L0 k (i::rest) C s).run nf=some y)
  (x8:∀k,bit (bitsOf os) k i=true->T k=false) (sG:∀k,bit (bitsOf os) i k=true->yr T i k=true) :
  ∃o,os[i]?=some o/\∀(K:Act->World->Prop) (Q:Exit->Act->World->Prop),(∀v w',(∃rest' C' s' X' q',JS (F.sys q') al gs os L0 M0 n0 rest' C' s' (yr T i) (a.put o.dst v) w' X'/\Gh E F q' al os rest' (yr T i) (a.put o.dst v)/\(Jy E wr (bitsOf os) os ch al gs kill L0 k rest' C' s').run nf=some y/\(∀j l,rest'=j::l->vf j ch=true/\yr T i j=false))->K (a.put o.dst v) w')->o.wp F.P a w K Q:=by
 simp only[Jy]at hr;split at hr
 ·rename_i o hn ho
  have hn':i ∉ rest:=fun hm=>by rw[kX.2 hm]at hn;cases hn
  rw[iE]at hr;simp only at hr;split at hr
  ·refine⟨o,ho,fun K Q hK=>?_⟩
   have dI:∀it∈C,it.i≠i:=fun it hm e=>h.nc it hm (by rw[e];simp)
   let Xe:Cx:={ X with n:=s.n+1 }
   have toe:∀ {φ:AV} {v:Value},φ.holds X w v->φ.holds Xe w v:=fun {φ v} hv=>(φ.mono (X:=X) (X':=Xe) (w:=w) (w':=w) ⟨rfl,zb.refl _ _ _,fun _ _=>rfl,by rw[h.rel.n];exact zLc _,rfl⟩ fun _=>Ext.refl _).1 v hv
   have aK:∀t e,look (lof (bitsOf os) os C L0 i (tmps o.op.operands.toList)) t=some e->(wOf os 0 t=none/\look L0 t=some e)\/(∃j,wOf os 0 t=some j/\bit (bitsOf os) j i=true/\look L0 t=some e)\/(∃jt∈C,jt.i≠i/\wOf os 0 t=some jt.i/\bit (bitsOf os) i jt.i=true/\(jt.n,jt.φ)=e):=fun t e he=>by
    rcases BI (KP he) with g|g|⟨jt,g1,g2⟩
    ·exact .inl g
    ·exact .inr (.inl g)
    ·exact .inr (.inr ⟨jt,g1,dI jt g1,g2⟩)
   have h0:=h.Mk i;have Mk:RelX { F.sys q with Lh:=UK s.ep os L0 C T i,fe:=s.n } { L:=lof (bitsOf os) os C L0 i (tmps o.op.operands.toList),M:=s.M,n:=s.n+1,ep:=s.ep } a w Xe:=by
    refine⟨h0.P,h0.A,h0.Fn,h0.n,h0.ep,h0.ok0,h0.fit,h0.base,fun t e he hf=>toe (h.zHU sA x8 sG (aK t e he) (by rw[<-h0.ep];exact hf)),h0.m,fun t e he=>?_,h0.mn,h0.inj,h0.pos,h0.epn,h0.fe,h0.lh,h0.bl,h0.ex⟩
    rcases aK t e he with ⟨_,g⟩|⟨_,_,_,g⟩|⟨jt,g1,_,_,_,g⟩
    ·have:=h.l0 t e g;have:=h.hn;show e.1<s.n+1;omega
    ·have:=h.l0 t e g;have:=h.hn;show e.1<s.n+1;omega
    ·rw[<-g];have:=(h.st jt g1).2;show jt.n<s.n+1;omega
   have hgh2:∀v,Gh E F q al os rest (yr T i) (a.put o.dst v):=fun v=>by
    by_cases bZ:i=al
    ·subst bZ
     exact .inl ⟨c8.no fun _=>iC,fun hm=>zLh hm hn'⟩
    ·exact(c8.tail bZ).step sA ho (fun _=>bZ) v
   refine Ki (F:={ F.sys q with Lh:=UK s.ep os L0 C T i,fe:=s.n }) hE ⟨_,Mk⟩ wr o (fun t ht=>⟨((zV fA ho).2.1 t ht).1,fun φ hp=>hp.1 o ho ht⟩) nf y hr K Q fun s' v w' hR' hi' hr'=>hK v w' ?_
   obtain⟨X',hX'⟩:=hR';split at hr'
   ·rename_i f9
    rw[zLR]at f9;obtain⟨iD,f9⟩:=f9;have iD:=Nat.le_of_ble_eq_true iD
    split at hr'
    ·rename_i hd
     obtain⟨rest',C',s2,X2,q',g⟩:=JS.adv fE hE sA sR (JS.nxt (F:=F.sys q) (q:=q) (nw:=[]) fE sA h hn' ho sG hX' hi' iD f9 (fun _ hm=>nomatch hm) (fun _ hm=>nomatch hm) (.inl hd) (fun _ hm=>nomatch hm)) (hgh2 v) hr'
     exact⟨rest',C',s2,X2,q',g⟩
    ·rename_i d hd
     split at hr'
     ·rename_i e he
      split at hr'
      ·rename_i hb
       split at hr'
       rotate_left
       ·cases hr'
       rename_i sM;obtain⟨rest',C',s2,X2,q',g⟩:=JS.adv fE hE sA sR (JS.nxt (F:=F.sys q) (q:=q) (nw:=[⟨i,d,e.1,e.2,[],[],s.n+1000000000⟩]) fE sA h hn' ho sG hX' hi' iD f9 (fun it hm=>by
        obtain rfl:=List.mem_singleton.1 hm;exact⟨rfl,hd,he,Nat.le_of_ble_eq_true hb⟩) (fun it hm it' hm'=>by rw[List.mem_singleton.1 hm,List.mem_singleton.1 hm']) (.inr ⟨_,List.Mem.head _⟩) (fun it hm=>by obtain rfl:=List.mem_singleton.1 hm;exact sM)) (hgh2 v) hr'
       exact⟨rest',C',s2,X2,q',g⟩
      ·cases hr'
     ·cases hr'
   ·cases hr'
  ·cases hr
 ·cases hr
theorem Du{b:Array Nat}{i:Nat}(iE:vf i ch=true)(hr:(Jy E wr b os ch al gs kill L0 k (i::rest) C s).run nf=some y):ql b i (rD al rest)=true:=by
 simp only[Jy]at hr;split at hr
 ·rw[iE]at hr
  simp only at hr;split at hr
  ·rename_i h;exact h
  ·cases hr
 ·cases hr
theorem pW{gs:List Nat}:∀(os:List Oper) (i:Nat),AllSt rF (phG gs i os)
 | [],_=>.nil
 |_::os,i=>.cons (by cases vf i gs;exact zBV _;exact GK _) (pW os (i+1))
theorem HX{F:Frm}{os:List Oper}{al:Nat}(fA:zw F.N os=true)(hg:UJ os al os=true):∀(n i:Nat) (o:Oper),i<n->os[i]?=some o->Eng.act os ((phG (gLs os) 0 os).map SP.vA) i=true
 |0,_,_,h,_=>by omega
 |n+1,i,o,h,ho=>by
  rcases uv hg o (zLW ho) with h1|⟨g,p,h1,_,h3,_⟩
  ·exact Kg ho h1
  ·have gF:=Zh fA i o g true ho h1
   have hl:=(zLX.1 h3).1;have hm:vf (0+g) (gLs os)=true:=by rw[Nat.zero_add];exact kX.2 (uq (zLW ho) h1)
   have e1:=mN (gs:=gLs os) (os:=os) (i:=0) (j:=g) hl;rw[hm]at e1;rw[Kf (Zh fA) ho h1,HX fA hg n g p (by omega) h3,zLk,List.getElem?_map,e1]
   rfl
theorem zEB{gs:List Nat}{i:Nat}{φ:AV}(h:gOk gs i φ=true)(hm:vf i gs=true):φ=.rd .bool true:=by
 unfold gOk at h;rw[hm]at h
 cases hb:φ.bool? with
 |none=>rw[hb]at h;cases h
 |some x =>
  rw[hb]at h;have:x=true:=h
  subst this;exact AV.ZV hb
theorem JS.guard(fA:zw F.N os=true)(sA:ndD os=true){i:Nat}{o:Oper}(ho:os[i]?=some o){v:Value}{a:Act}(h:JS F al gs os L0 M0 n0 rest C s (yr T i) (a.put o.dst v) w X)(hA:a.fitD F.N F.D)(hi:i≠al)(hm:vf i gs=true)(hd:o.dst.isSome=true):v=.bool true:=by
 obtain⟨d,hd⟩:=Option.isSome_iff_exists.1 hd;rcases h.cov i o ho with g|⟨g,_⟩|⟨it,g1,g2⟩
 ·rcases h.rs i g with g|g
  ·rw[kf]at g;cases g
  ·exact zLh g hi
 ·rw[hd]at g;cases g
 ·obtain⟨o',g3,g4⟩:=h.dst it g1
  rw[g2,ho]at g3;cases g3;rw[hd]at g4;cases g4;have e:=zEB (h.gi it g1) (by rw[g2];exact hm)
  have hf:it.φ.zg=false:=by rw[e];rfl
  have hc:=h.c it g1 (by rw[g2];exact kf _ _) (QB (e:=(it.n,it.φ)) hf)
  rw[hd,e,yV hA ((zV fA ho).2.1 it.d hd).1]at hc;exact j6.1 hc
end
theorem WA{F:Frm}(fE:∀t φ,¬F.Lh t φ){E:VE}(hE:E.ok F.P){s0 s:S}{a:Act}{w:World}(hR:Rel F s a w)(hi:Inv s0 s){os:List Oper}{id nf:Nat}{draw:Bool}{ch can:List Nat}{kl:List (Nat×List Nat)}{β:Type}{y:β}{k:S->Comp β}{Q:Exit->Act->World->Prop}(hm:F.P.follows .mixedOrders=true)(sB:F.x.sb<=F.w0.heap.size)
  (fA:Xb F.N os=true) (h:(zFL E os ch can kl s k).run nf=some y) (hK:∀s' a' w',Rel F s' a' w'->Inv s0 s'->(k s').run nf=some y->Q .normal a' w'):F.wp (Code.region id os.toArray draw) Q a w:=by
 have hokI:=fA;replace fA:=Xm fA;unfold zFL at h;split at h
 ·rename_i hb
  simp only[zLR]at hb;obtain⟨sA,hng,fF,sR⟩:=hb;generalize hale:alX (bitsOf os) os ch ch=al at h sR hng;generalize m9:gLs os=gs at h;obtain⟨X,hX⟩:=hR
  let J:(Nat->Bool)->Act->World->Prop:=fun T a w=>∃rest C s' X' q,JS (F.sys q) al gs os s.L s.M s.n rest C s' T a w X'/\Gh E F q al os rest T a/\(Jy E (wrS os) (bitsOf os) os ch al gs (Sx s.L s.M (nL s.L (wrS os++UV os)) kl) s.L k rest C s').run nf=some y/\(∀i l,rest=i::l->vf i ch=true/\T i=false)
  have fin:∀ {i:Nat} {o:Oper} {T:Nat->Bool} {a':Act} {v:Value} {w':World},os[i]?=some o->a'.fitD F.N F.D->J (yr T i) (a'.put o.dst v) w'->(bif vf i gs then SP.isv (.bool true) else SP.tt).holds w' v:=fun {i o T a' v w'} ho fW hJ=>by
   cases hm:vf i gs with
   |false=>trivial
   |true =>
    obtain⟨rest,C,s',X',q,g1,_⟩:=hJ;obtain⟨o2,w2,g2,g3⟩:=Es (os:=os) (g:=i) (by rw[m9];exact kX.1 hm)
    rcases uv hng o2 g2 with g4|⟨g,p,g4,g5,g6,g7⟩
    ·rw[g4]at g3;cases g3
    ·rw[g4]at g3;cases g3
     rw[ho]at g6;cases g6;exact JS.guard (F:=F.sys q) fA sA ho g1 fW g5 hm g7
  have obl:∀(os':List Oper) (i:Nat),(∀j,os'[j]?=os[i+j]?)->OblsX J F.P F.N F.D os (phG gs 0 os) a i os' (phG gs i os'):=by
   intro os'
   induction os' with
   |nil=>exact fun _ _=>.nil
   |cons o os' ih =>
    intro i x9;have ho:os[i]?=some o:=by have:=x9 0;simpa using this.symm
    refine .cons (fun T a' w' fW hJ iC x8 sG _ _ K Q t7=>?_) (ih (i+1) fun j=>by have:=x9 (j+1);simp only[List.getElem?_cons_succ]at this;rw[this];congr 1;omega)
    obtain⟨rest,C,s',X',q,tR,c8,fI,cO⟩:=hJ;rcases tR.cov i o ho with hr|⟨_,h2⟩|⟨it,hm',rfl⟩
    ·match rest,hr,tR,c8,fI,cO with
     |e::l,hr,tR,c8,fI,cO =>
      obtain⟨iE,eT⟩:=cO e l rfl;rcases zLV.1 hr with rfl|hr'
      ·obtain⟨o',g1,g2⟩:=tR.eff fE hE fA sA sR c8 eT iE fI x8 sG
       rw[ho]at g1;cases g1;exact g2 K Q fun v w' hJ'=>t7 v w' hJ' (fin ho fW hJ')
      ·by_cases bZ:i=al
       ·subst bZ
        obtain rfl:=c8.no fun _=>iC
        refine JS.early fE hE sB fA sA sR tR hr iC ho sG K Q fun v w' hJ'=>?_
        suffices hj:J (yr T i) (a'.put o.dst v) w' from t7 v w' hj (fin ho fW hj)
        obtain⟨q,X2,g1,g2⟩:=hJ';refine⟨_,C,s',X2,q,g1,g2,fI,fun j l' he=>?_⟩
        cases he
        refine⟨iE,?_⟩;have fC:e≠i:=fun e'=>by
         subst e';simp only[Jy]at fI;split at fI
         ·rename_i hn _
          rw[kX.2 hr']at hn;cases hn
         ·cases fI
        unfold yr;rw[eT,zU,zLt fC];rfl
       ·have g1:=pG (Du iE fI) i (qU hr' bZ)
        have g2:=sG e g1;have g4:e=i:=by
         unfold yr at g2;rw[eT,Bool.false_or]at g2;exact zLQ g2
        subst g4;obtain⟨o',g1,g2⟩:=tR.eff fE hE fA sA sR c8 eT iE fI x8 sG;rw[ho]at g1;cases g1;exact g2 K Q fun v w' hJ'=>t7 v w' hJ' (fin ho fW hJ')
    ·rw[iC]at h2;cases h2
    ·obtain⟨o',g1,g2⟩:=JS.val (F:=F.sys q) fE fA sA tR hm' iC x8 sG
     rw[ho]at g1;cases g1;refine g2 K Q fun v w' pV hJ'=>?_
     suffices hj:J (yr T it.i) (a'.put o.dst v) w' from t7 v w' hj (fin ho fW hj)
     refine⟨rest,C,s',X',q,hJ' pV,c8.step sA ho (fun hm2 e=>tR.nc it hm' (by rw[e];exact hm2)) v,fI,fun j l he=>⟨(cO j l he).1,?_⟩⟩
     have fC:j≠it.i:=fun e=>tR.nc it hm' (by rw[<-e,he];simp)
     unfold yr;rw[(cO j l he).2,zU,zLt fC];rfl
  refine Jd (fun _=>hm) (zBe KS (fun i o ho=>BZ hokI i o (by simpa using ho)) ?_)
  refine NZ J (phG gs 0 os) hX.fit (pW os 0) (obl os 0 fun j=>by simp) (fun i o S a' w' ho fP=>?_) (fun w1 pV=>?_) fA ?_ fun a' w' fW _ hJ=>?_
  ·rw[<-m9,HX (F:=F) fA hng (i+1) i o (zLd i) ho]at fP;cases fP
  ·have hX0:RelX F { s with L:=[] } a w1 X:=hX.go hX.fit rfl rfl rfl (fun _ _=>zb.ext pV) (fun _ _=>rfl) hX.n hX.ep (zLT _) hX.epn (hX.base.step pV hX.ok0) (fun hf=>⟨hf,pV⟩) (fun _ _ _=>rfl) (fun t e he=>nomatch he) (fun k e he=>.inr ⟨he,rfl,fun _=>zb.ext pV⟩) hX.inj hX.pos
   have h0:JS (F.sys F.x.sys) al gs os s.L s.M s.n can [] { s with L:=[] } (fun _=>false) a w1 X:=by
    refine⟨hX0,rfl,zLT _,hX.ln,fun k e he _=>he,fun it hm=>(nomatch hm),fun t e he _ hf=>?_,fun it hm=>(nomatch hm),fun _ _=>.inl rfl,fun it hm=>(nomatch hm),fun it hm=>(nomatch hm),fun i o ho=>.inl (CV fF i (zLX.1 ho).1),fun it hm=>(nomatch hm),fun it hm=>(nomatch hm),fun it hm=>(nomatch hm)⟩
    exact e.2.ext pV (hX.l t e he (by rw[hX.ep];exact hf))
   exact JS.adv fE hE sA sR h0 (.inl ⟨rfl,fun _=>rfl⟩) h
  ·unfold ZB
   rw[zLw];intro o ho;rcases uv hng o ho with h1|⟨g,p,h1,_,h3,_⟩
   ·rw[h1]
   ·have hl:=(zLX.1 h3).1
    have hm:vf (0+g) gs=true:=by rw[Nat.zero_add,<-m9];exact kX.2 (uq ho h1)
    have e1:=mN (gs:=gs) (os:=os) (i:=0) (j:=g) hl;rw[hm]at e1;rw[h1];simp only;rw[zLk,e1];rfl
  ·obtain⟨rest,C,s',X',q,tR,c8,fI,cO⟩:=hJ
   cases rest with
   |cons i l =>
    exfalso;have g1:Nat.blt i os.length=false:=(cO i l rfl).2
    rw[zX]at g1;have g2:os.length<=i:=by simpa using g1
    simp only[Jy]at fI;split at fI
    ·rename_i o _ ho
     have:=(zLX.1 ho).1;omega
    ·cases fI
   |nil =>
    obtain rfl:=c8.no fun hm=>nomatch hm
    have gF:∀it∈C,Nat.blt it.i os.length=true:=fun it hm=>by
     obtain⟨o,g1,_⟩:=tR.dst it hm;rw[zX];exact zLu (zLX.1 g1).1
    have aR:∀t e,look (He C++s.L) t=some e->(∃it∈C,it.d=t/\(it.n,it.φ)=e)\/(look s.L t=some e/\∀(j:Nat) (o:Oper),os[j]?=some o->o.dst≠some t):=fun t e he=>by
     rcases Zx he with g|⟨g1,g2⟩
     ·exact .inl (rz g)
     ·refine .inr ⟨g2,fun j o hj hd=>?_⟩
      rcases tR.cov j o hj with g|⟨g,_⟩|⟨it,g3,g4⟩
      ·cases g
      ·rw[hd]at g;cases g
      ·obtain⟨o',g5,g6⟩:=tR.dst it g3
       rw[g4,hj]at g5;cases g5;rw[hd]at g6;cases g6;exact rv g1 it g3 rfl
    let X1:Cx:={ X' with n:=s'.n+1 }
    have to1:∀ {φ:AV} {v:Value},φ.holds X' w' v->φ.holds X1 w' v:=fun {φ v} hv=>(φ.mono (X:=X') (X':=X1) (w:=w') (w':=w') ⟨rfl,zb.refl _ _ _,fun _ _=>rfl,by rw[tR.rel.n];exact zLc _,rfl⟩ fun _=>Ext.refl _).1 v hv
    refine hK _ a' w' ⟨X1,tR.rel.go (X':=X1) (s':={ s' with L:=He C++s.L,n:=s'.n+1 }) tR.rel.fit rfl rfl rfl (fun _ _=>zb.refl _ _ _) (fun _ _=>rfl) rfl tR.rel.ep (zLc _) (Nat.le_succ_of_le tR.rel.epn) tR.rel.base (fun hf=>⟨hf,Ext.refl _⟩) (fun _ _ _=>rfl) (fun t e he=>.inl ?_) (fun k e he=>.inr ⟨he,rfl,fun _=>zb.refl _ _ _⟩) tR.rel.inj tR.rel.pos⟩ (hi.trans ⟨?_,fun t e he hlt'=>?_,tR.im⟩) fI
    ·rcases aR t e he with ⟨it,g1,g2,g3⟩|⟨g1,g2⟩
     ·subst g3
      refine⟨Nat.lt_succ_of_le (tR.st it g1).2,fun hf=>?_⟩
      rw[<-g2];exact to1 (tR.c it g1 (gF it g1) hf)
     ·refine⟨?_,fun hf=>to1 (tR.l t e g1 (fun j o hj hd=>zLh hd (g2 j o hj)) hf)⟩
      have:=tR.l0 t e g1;have:=tR.hn;show e.1<s'.n+1;omega
    ·exact Nat.le_succ_of_le tR.hn
    ·rcases aR t e he with ⟨it,g1,g2,g3⟩|⟨g1,g2⟩
     ·rw[<-g3]at hlt'
      have:=(tR.st it g1).1
      change it.n<s.n at hlt'
      omega
     ·exact g1
 ·cases h
def exG:AV->Option (Option Bool)
 |.ex (.bool b)=>some (some b)
 |.ex (.tuple vs)=>match vs.toList with
  | []=>some none
  |_=>none
 |_=>none
theorem B6{φ:AV}{b:Bool}(h:exG φ=some (some b)):φ=.ex (.bool b):=by
 unfold exG at h;split at h
 ·cases h;rfl
 ·split at h<;>cases h
 ·cases h
theorem B7{φ:AV}(h:exG φ=some none):φ=.ex undef:=by
 unfold exG at h;split at h
 ·cases h
 ·rename_i vs
  split at h
  ·rename_i e
   have:vs=#[]:=Array.ext' (by simpa using e)
   rw[this];rfl
  ·cases h
 ·cases h
def nT(all:List Oper)(i:Nat):Option Tmp:=match all[i]? with
 |some o=>o.dst
 |none=>none
def p8(b:Option Bool)(w:Bool):Bool:=match b,w with
 |some true,true=>true
 |some false,false=>true
 |_,_=>false
def Zv(E:VE)(wr:List Nat)(all:List Oper)(k:S->Comp β):List Oper->S->Comp β
 | [],s=>k s
 |o::os,s=>match o.guard with
  |none=>step E wr s o (Zv E wr all k os)
  |some g=>match nT all g.1 with
   |none=>Comp.fail
   |some t=>match rdO s.ep s.L [] [] (.tmp t) with
    |none=>Comp.fail
    |some φ=>match exG φ with
     |some b=>match p8 b g.2 with
      |true=>step E wr s o (Zv E wr all k os)
      |false=>Zv E wr all k os (s.put o.dst (.ex undef))
     |none=>match φ.bool? with
      |none=>Comp.fail
      |some b=>if gB b g.2=true then step E wr (s.put (some t) (.ex (.bool g.2))) o (Zv E wr all k os) else Zv E wr all k os ((s.put (some t) (.ex (.bool (ntB g.2)))).put o.dst (.ex undef))
section
variable {F:Frm} {E:VE} {k:S->Comp β}
theorem Rel.Xp{s:S}{a:Act}{w:World}{X:Cx}(h:RelX F s a w X){t:Nat}{φ:AV}(hφ:∀X':Cx,X'.P=X.P->φ.holds X' w (a.get t)):Rel F (s.put (some t) φ) a w:=by
 refine⟨{ X with n:=s.n+1 },h.go h.fit rfl rfl rfl (fun _ _=>zb.refl _ _ _) (fun _ _=>rfl) rfl h.ep (zLc _) (Nat.le_succ_of_le h.epn) h.base (fun hf=>⟨hf,Ext.refl _⟩) (fun _ _ _=>rfl) (fun u e he=>?_) (fun k e he=>.inr ⟨he,rfl,fun _=>zb.refl _ _ _⟩) h.inj h.pos⟩
 rcases zD he with ⟨h1,h2⟩|⟨h1,h2⟩
 ·subst h1 h2;exact .inl ⟨zLd _,fun _=>hφ _ rfl⟩
 ·exact .inr ⟨h2,rfl,fun fY hf=>⟨hf,Ext.refl _⟩⟩
theorem Rel.skip{s:S}{a:Act}{w:World}(h:Rel F s a w){d:Option Tmp}(hd:F.dst d):Rel F (s.put d (.ex undef)) (a.put d undef) w:=by
 obtain⟨X,hX⟩:=h;exact⟨_,hX.val (Ext.refl w) hd (show (AV.ex undef).holds X w undef from rfl)⟩
theorem YD{all:List Oper}{a:Act}{g t:Nat}(hd:nT all g=some t){b:Bool}(h:a.get t=.bool b):yielded all.toArray a.tmps g=some b:=by
 unfold nT at hd;split at hd
 ·rename_i o ho
  have h1:all.toArray[g]?=some o:=by simpa using ho
  unfold yielded;simp only[h1,zLP,hd];have h2:a.tmps.getD t undef=.bool b:=h
  rw[zLn]at h2
  cases h3:a.tmps[t]? with
  |none=>rw[h3]at h2;simp[undef]at h2
  |some v=>rw[h3]at h2;simp only[Option.getD_some]at h2;subst h2;rfl
 ·cases hd
theorem Ji{all:List Oper}{a:Act}{g t:Nat}(hd:nT all g=some t)(h:a.get t=undef):yielded all.toArray a.tmps g=none:=by
 unfold nT at hd;split at hd
 ·rename_i o ho
  have h1:all.toArray[g]?=some o:=by simpa using ho
  unfold yielded;simp only[h1,zLP,hd];have h2:a.tmps.getD t undef=undef:=h
  rw[zLn]at h2
  cases h3:a.tmps[t]? with
  |none=>rfl
  |some v=>rw[h3]at h2;simp only[Option.getD_some]at h2;subst h2;rfl
 ·cases hd
theorem Ri{b w:Bool}:gB b w=true↔b=w:=by cases b<;>cases w<;>decide
theorem RW{b w:Bool}(h:¬gB b w=true):b=ntB w:=by cases b<;>cases w<;>first|rfl|exact zLh rfl h
theorem XM(hE:E.ok F.P)(wr:List Nat){all:List Oper}{nf:Nat}{y:β}{Q:Exit->Act->World->Prop}{q:Act->World->Prop}{s0:S}:∀ {os:List Oper} {s:S} {a:Act} {w:World},Rel F s a w->Inv s0 s->(Zv E wr all k os s).run nf=some y->(∀o∈os,(∀c,o.op≠.defer c)/\F.dst o.dst) ->
  (∀s' a' w',Rel F s' a' w'->Inv s0 s'->(k s').run nf=some y->q a' w')->vp (F.W Q) all.toArray q os a w
 | [],s,a,w,h,hi,hr,_,hK=>hK s a w h hi hr
 |o::os,s,a,w,h,hi,hr,ho,hK=>by
  have h1:=ho o (by simp)
  have ho':∀o∈os,(∀c,o.op≠.defer c)/\F.dst o.dst:=fun o' ho'=>ho o' (by simp[ho'])
  have act:∀ {s:S},Rel F s a w->Inv s0 s->(step E wr s o (Zv E wr all k os)).run nf=some y->Region.wanted o (yielded all.toArray a.tmps)=true->vp (F.W Q) all.toArray q (o::os) a w:=fun {s} h hi hr hw=>by
   simp only[vp,hw,if_true];refine jo h1.1 (Ki (k:=Zv E wr all k os) hE h wr o h1.2 nf y hr _ _ fun s' v w' hR hi' hr'=>?_)
   exact XM hE wr hR (hi.trans hi') hr' ho' hK
  have off:∀ {s:S},Rel F s a w->Inv s0 s->(Zv E wr all k os (s.put o.dst (.ex undef))).run nf=some y->Region.wanted o (yielded all.toArray a.tmps)=false->vp (F.W Q) all.toArray q (o::os) a w:=fun {s} h hi hr hw=>by
   simp only[vp,hw,Bool.false_eq_true,if_false];exact XM hE wr (h.skip h1.2) (hi.trans (Inv.put _ _ _)) hr ho' hK
  simp only[Zv]at hr;split at hr
  ·rename_i hg
   exact act h hi hr (by simp[Region.wanted,hg])
  ·rename_i g hg
   have sI:Region.wanted o (yielded all.toArray a.tmps)=(yielded all.toArray a.tmps g.1 == some g.2):=by simp[Region.wanted,hg]
   split at hr
   ·cases hr
   ·rename_i t ht
    split at hr
    ·cases hr
    ·rename_i φ hφ
     obtain⟨X,hX⟩:=h;rw[<-hX.ep]at hφ;have hv:φ.holds X w (a.get t):=hX.rd #[.tmp t] (.tmp t) φ (by simp) hφ
     split at hr
     ·rename_i b hb
      have hy:yielded all.toArray a.tmps g.1=b:=by
       cases b with
       |none=>rw[B7 hb]at hv;exact Ji ht hv
       |some b=>rw[B6 hb]at hv;exact YD ht hv
      rw[hy]at sI;split at hr
      ·rename_i hw
       refine act ⟨X,hX⟩ hi hr ?_;rw[sI];unfold p8 at hw;split at hw<;>first|simp_all|cases hw
      ·rename_i hw
       refine off ⟨X,hX⟩ hi hr ?_;rw[sI]
       cases b with
       |none=>rfl
       |some b =>
        generalize g.2=v at hw;cases b<;>cases v<;>first|rfl|(simp[p8]at hw)
     ·split at hr
      ·cases hr
      ·rename_i b hb
       have nB:a.get t=.bool b:=by rw[AV.ZV hb]at hv;exact j6.1 hv
       have hy:=YD ht nB;rw[hy]at sI;split at hr
       ·rename_i dJ
        have e:=Ri.1 dJ;refine act (Rel.Xp hX (φ:=.ex (.bool g.2)) fun X' _=>(by rw[nB,e];exact rfl)) (hi.trans (Inv.put _ _ _)) hr ?_
        rw[sI,e];simp
       ·rename_i dJ
        have e:=RW dJ;refine off (Rel.Xp hX (φ:=.ex (.bool (ntB g.2))) fun X' _=>(by rw[nB,e];exact rfl)) (hi.trans (Inv.put _ _ _)) hr ?_
        rw[sI,e];cases g.2<;>rfl
theorem WB(fE:∀t φ,¬F.Lh t φ)(hE:E.ok F.P){s0 s:S}{a:Act}{w:World}(hR:Rel F s a w)(hi:Inv s0 s){os:List Oper}{id nf:Nat}{y:β}{Q:Exit->Act->World->Prop}
  (fA:Xb F.N os=true) (h:(Zv E (wrS os) os k os s).run nf=some y) (hK:∀s' a' w',Rel F s' a' w'->Inv s0 s'->(k s').run nf=some y->Q .normal a' w'):F.wp (Code.region id os.toArray false) Q a w:=by
 have key:vp (F.W Q) os.toArray (Q .normal) os a w:=XM hE (wrS os) hR hi h (fun o ho=>⟨Kn fA o ho,fun t ht=>?_⟩) hK
 ·refine Jd (fun h=>nomatch h) ?_
  show Y2 (F.W Q) os.toArray (Q .normal) (List.range os.toArray.size) a w
  rw[List.range_eq_range',List.size_toArray,kF os 0 (by simp)];exact key
 obtain⟨j,hj⟩:=List.mem_iff_getElem?.1 ho;exact⟨((zV (Xm fA) hj).2.1 t ht).1,fun φ=>fE t φ⟩
end
end Go.Den
end
section
namespace Go.Den
open Go Go.RowKit Go.Eng Go.Lift
variable {α β γ δ σ ε:Type}
def K1(body:σ->α->Comp (Comp.Step σ ε)):List α->σ->Comp (Comp.Step σ ε)
 | [],s=>Comp.pure (.next s)
 |x::xs,s=>(body s x).bind fun r=>match r with
  |.next s'=>K1 body xs s'
  |.done e=>Comp.pure (.done e)
def S.tick(s:S):S:={ s with n:=s.n+1,ep:=s.n }
def JV(n:Nat):LS->LS
 | []=>[]
 |e::L=>(match e.2.2.zg with
  |true=>(e.1,n,.top)
  |false=>e)::JV n L
def S.ZL(s:S):S:={ s with L:=JV s.n s.L,n:=s.n+1 }
def S.back(s:S)(L:LS):S:={ s with L:=L }
theorem Inv.tick(s:S):Inv s s.tick:=⟨zLc _,fun _ _ h _=>h,fun _ _ h _=>h⟩
theorem gP{n:Nat}:∀ {L:LS} {t:Nat} {e:Nat×AV},look (JV n L) t=some e->e.2.zg=false/\(look L t=some e\/e=(n,.top))
 | [],t,e,h=>by cases h
 |f::L,t,e,h=>by
  obtain⟨t0,n0,φ⟩:=f;simp only[JV]at h
  cases hf:φ.zg with
  |true =>
   rw[hf]at h;rcases zD h with ⟨h1,h2⟩|⟨h1,h2⟩
   ·exact⟨by rw[<-h2];rfl,.inr h2.symm⟩
   ·obtain⟨g1,g2⟩:=gP h2
    exact⟨g1,g2.imp (fun g=>by simp only[look];rw[show Nat.beq t0 t=false by rw[zU];simpa using h1];exact g) id⟩
  |false =>
   rw[hf]at h;rcases zD h with ⟨h1,h2⟩|⟨h1,h2⟩
   ·refine⟨by rw[<-h2];exact hf,.inl ?_⟩
    simp only[look];rw[show Nat.beq t0 t=true by rw[zU];simpa using h1];exact zLi some h2
   ·obtain⟨g1,g2⟩:=gP h2
    exact⟨g1,g2.imp (fun g=>by simp only[look];rw[show Nat.beq t0 t=false by rw[zU];simpa using h1];exact g) id⟩
theorem Inv.ZL(s:S):Inv s s.ZL:=⟨zLc _,fun t e h hl=>by
 rcases(gP h).2 with h1|h1
 ·exact h1
 ·rw[h1]at hl;exact zLh hl (Nat.lt_irrefl _),fun _ _ h _=>h⟩
section
variable {F:Frm} {s:S} {a:Act} {w w':World} {X:Cx}
theorem RelX.conv(h:RelX F s a w X){F':Frm}{L':LS}{a':Act}(hP:F'.P=F.P)(hA:F'.A=F.A)(hO:F'.O0=F.O0)(hw:F'.w0=F.w0)(fE:∀t φ,¬F'.Lh t φ)(aQ:F'.fe=F.fe)(hbl:F'.bl=F.bl)(f9:F'.x.st=F.x.st)
  (fW:a'.fitD F'.N F'.D) (hL:Xi L' X w a') (hln:∀t e,look L' t=some e->e.1<s.n) (hex:Exx F'.x X w):RelX F' { s with L:=L' } a' w X :=
 ⟨h.P.trans hP.symm,h.A.trans hA.symm,by rw[hw];exact h.Fn,h.n,h.ep,by rw[hO,hw];exact h.ok0,fW,by rw[hA,hO,hw];exact h.base,hL,h.m,hln,h.mn,h.inj,by rw[f9];exact h.pos,h.epn,by rw[aQ];exact h.fe,fun t φ hp=>zLh hp (fE t φ),by rw[hbl];exact h.bl,hex⟩
theorem RelX.ZL(h:RelX F s a w X)(fE:∀t φ,¬F.Lh t φ):RelX F s.ZL a w { X with n:=s.n+1 }:=by
 have fT:X.le w { X with n:=s.n+1 } w:=⟨rfl,zb.refl _ _ _,fun _ _=>rfl,by rw[h.n];exact zLc _,rfl⟩
 refine h.go h.fit rfl rfl rfl (fun _ _=>zb.refl _ _ _) (fun _ _=>rfl) rfl h.ep (zLc _) (Nat.le_succ_of_le h.epn) h.base (fun hf=>⟨hf,Ext.refl _⟩) (fun _ _ _=>rfl) (fun t e he=>?_) (fun k e he=>.inr ⟨he,rfl,fun _=>zb.refl _ _ _⟩) h.inj h.pos
 rcases gP he with ⟨h1,h2|h2⟩
 ·exact .inr ⟨h2,rfl,fun hf=>by rw[h1]at hf;cases hf⟩
 ·subst h2;exact .inl ⟨zLd _,fun _=>trivial⟩
theorem RelX.Qs(h:RelX F s a w X)(sB:F.x.sb=F.w0.heap.size)(o0:Obj):RelX (F.sys fun c o=>F.x.sys c o\/(c=w.heap.size/\o=o0)) s a (w.alloc o0) { X with O:=tag X.O (some w.heap.size) F.x.st }:=by
 have hE:=Ext.alloc w o0;have hk:KX none X.O w (tag X.O (some w.heap.size) F.x.st) (w.alloc o0):=KX.tag hE fun g hg=>by cases hg;exact zLT _
 have hB:Base F.A F.O0 F.w0 (tag X.O (some w.heap.size) F.x.st) (w.alloc o0):=(h.base.step hE h.ok0).tag h.ex.st (fun g hg=>by cases hg;exact⟨h.base.new _ h.base.size,by simp⟩)
 have h1:RelX F s a (w.alloc o0) { X with O:=tag X.O (some w.heap.size) F.x.st }:=h.go h.fit rfl rfl rfl (fun _ _=>hk.keep (by simp)) (fun _ _=>rfl) h.n h.ep (zLT _) h.epn hB (fun hf=>⟨hf,hE⟩) (fun _ _ _=>rfl) (fun t e he=>.inr ⟨he,rfl,fun _ hf=>⟨hf,hE⟩⟩) (fun k e he=>.inr ⟨he,rfl,fun _=>hk.keep (by simp)⟩) h.inj h.pos
 refine⟨h1.P,h1.A,h1.Fn,h1.n,h1.ep,h1.ok0,h1.fit,h1.base,h1.l,h1.m,h1.ln,h1.mn,h1.inj,h1.pos,h1.epn,h1.fe,h1.lh,h1.bl,h1.ex.st,fun c o hc=>?_,h1.ex.kv,h1.ex.since,h1.ex.L⟩
 rcases hc with hc|⟨rfl,rfl⟩
 ·exact h1.ex.sys c o hc
 ·exact⟨⟨World.alloc_heap_new w _,yg _ _ _⟩,show F.x.sb<=w.heap.size by rw[sB];exact h.base.size⟩
theorem RelX.ext(h:RelX F s a w X)(hE:Ext w w'):RelX F s a w' X :=
 h.go h.fit rfl rfl rfl (fun _ _=>zb.ext hE) (fun _ _=>rfl) h.n h.ep (zLT _) h.epn (h.base.step hE h.ok0) (fun hf=>⟨hf,hE⟩) (fun _ _ _=>rfl) (fun t e he=>.inr ⟨he,rfl,fun _ hf=>⟨hf,hE⟩⟩) (fun k e he=>.inr ⟨he,rfl,fun _=>zb.ext hE⟩) h.inj h.pos
end
theorem Frm.To.sys{F F':Frm}(h:F.To F'){b:Nat}{o:Obj}(hs:F.x.sys b o):F'.x.sys b o:=by
 induction h with
 |refl=>exact hs
 |mark _ _ _ _ ih=>exact .inl ih
theorem Frm.Same.M4{A B C:Frm}{q:Nat->Obj->Prop}(h1:A.Same B)(h2:(B.sys q).Same C):A.Same C :=
 ⟨h2.P.trans h1.P,h2.N.trans h1.N,h2.A.trans h1.A,h2.O0.trans h1.O0,h2.w0.trans h1.w0,h2.Lh.trans h1.Lh,h2.fe.trans h1.fe,h2.bl.trans h1.bl,h2.st.trans h1.st,h2.kv.trans h1.kv,h2.sO.trans h1.sO,h2.sw.trans h1.sw,h2.rd.trans h1.rd,h2.Lp.trans h1.Lp,h2.sb.trans h1.sb,h2.nr.trans h1.nr⟩
def zBL{β:Type}(a:Ty)(x:a.D)(k:AV->Comp β):Comp β:=match a,x with
 |.slo e,x=>match (x:Option (List e.D)) with
  |none=>k (.ex (.slice none 0 0))
  |some xs=>k (.rd (.sl e) xs)
 |a,x=>k (.rd a x)
def Cy{β:Type}:List Nat->(t:Ty)->t.D->S->(S->Comp β)->Comp β
 |p::ps,.cons a b,x,s,k=>zBL a x.1 fun φ=>Cy ps b x.2 (s.put (some p) φ) k
 | [],.nil,_,s,k=>k s
 |_,_,_,_,_=>Comp.fail
theorem Qc{β:Type}{X:Cx}{w:World}{v:Value}{a:Ty}{x:a.D}(h:(a.gr X.P).v X.O w v x){k:AV->Comp β}{nf:Nat}{y:β}(hr:(zBL a x k).run nf=some y):∃φ,(k φ).run nf=some y/\∀X':Cx,X'.P=X.P->X'.O=X.O->φ.holds X' w v:=by
 have gen:∀ {a:Ty} {x:a.D},(a.gr X.P).v X.O w v x->(k (.rd a x)).run nf=some y->∃φ,(k φ).run nf=some y/\∀X':Cx,X'.P=X.P->X'.O=X.O->φ.holds X' w v:=fun {a x} h hr=>⟨_,hr,fun X' e1 e2=>by show (a.gr X'.P).v X'.O w v x;rw[e1,e2];exact h⟩
 cases a<;>try exact gen h hr
 rename_i e
 cases x with
 |none =>
  refine⟨_,hr,fun X' _ _=>?_⟩
  obtain⟨cs,h1,h2⟩:=h;rw[show cs=_ from h1]at h2
  exact h2
 |some xs =>
  refine⟨_,hr,fun X' e1 e2=>?_⟩
  obtain⟨cs,h1,h2⟩:=h;show ((Ty.sl e).gr X'.P).v X'.O w v xs
  rw[e1,e2];exact⟨cs,h1,h2⟩
def Yn:List Nat->List Value->Act->Act
 |p::ps,v::vs,a=>Yn ps vs (a.put (some p) v)
 |_,_,a=>a
theorem GZ:∀(ps:List Nat) (vs:List Value) (a:Act),Yn ps vs a={ tmps:=(ps.zip vs).foldl (fun t p=>t.setIfInBounds p.1 p.2) a.tmps,defers:=a.defers }
 | [],_,_=>rfl
 |_::_,[],_=>rfl
 |p::ps,v::vs,a=>by rw[Yn,GZ ps vs];rfl
def Wu(N:Nat):List Nat->Bool
 | []=>true
 |p::ps=>Nat.blt p N && Wu N ps
theorem Qd{β:Type}{F:Frm}(fE:∀t φ,¬F.Lh t φ){w:World}{k:S->Comp β}{nf:Nat}{y:β}:∀ {ps:List Nat} {t:Ty} {x:t.D} {vs:List Value} {s:S} {a:Act} {X:Cx},RelX F s a w X->t.args X.P X.O w vs x->Wu F.N ps=true->(Cy ps t x s k).run nf=some y ->
  ∃s2 X2,RelX F s2 (Yn ps vs a) w X2/\X2.O=X.O/\Inv s s2/\(k s2).run nf=some y/\ps.length=vs.length:=by
 intro ps
 induction ps with
 |nil =>
  intro t x vs s a X h ha _ hr;cases t<;>first|(rw[show vs=[] from ha];exact⟨s,X,h,rfl,Inv.refl s,hr,rfl⟩)|cases hr
 |cons p ps ih =>
  intro t x vs s a X h ha bS hr;cases t<;>first|cases hr|skip
  rename_i p1 q1;obtain⟨v,vs',rfl,h1,h2⟩:=ha;simp only[Cy]at hr;simp only[Wu,zLR]at bS;obtain⟨φ,hr,hφ⟩:=Qc h1 hr;have h3:=h.val (Ext.refl w) (d:=some p) (fun t e=>by cases e;exact⟨by have:=bS.1;rw[zX]at this;simpa using this,fun φ=>fE _ φ⟩) (hφ X rfl rfl)
  obtain⟨s2,X2,g1,g2,g3,g4,g5⟩:=ih h3 (X:={ X with n:=s.n+1 }) h2 bS.2 hr;exact⟨s2,X2,g1,g2,(Inv.put _ _ _).trans g3,g4,by simp[g5]⟩
def zEo:Option AV->Option ((t:Ty)×Comp (List t.D))
 |some (.rd (.seq t) C)=>some ⟨t,C⟩
 |_=>none
theorem U3{o:Option AV}{q:(t:Ty)×Comp (List t.D)}(h:zEo o=some q):o=some (.rd (.seq q.1) q.2):=by
 unfold zEo at h;split at h
 ·cases h;rfl
 ·cases h
def kg:Code->Bool
 |.seq a b=>kg a && kg b
 |.cond _ a b=>kg a && kg b
 |.block _ a|.loop a|.scope a=>kg a
 |.rangeFunc ..=>false
 |_=>true
end Go.Den
end
