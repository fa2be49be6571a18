/- For every list of lists, array of three numbers, number, bytes and nodes, PlanProves returns true, and its arguments read afterwards as before; no condition. -/
import Derived.Test.YtknbpncolbmoaaaGreatKPpG
import Derived.Test.YtknbpncolbmoaaaGreatRows
import Derived.WalkKit
import Derived.ProofKit
import Derived.OpenShut
import Derived.ShutString
import Derived.ChangeOld
import Derived.Below
import Derived.SliceStrings
import Derived.Lib.SmallJoins
set_option linter.unusedSimpArgs false
set_option linter.unusedVariables false
open Go.Lift.Comp (vL)
section
namespace Go.Proofs.YtknbpncolbmoaaaGreat.planProvesDone
open Go Go.ChangeShapes Go.WideShapes Go.ChangeAt Go.RowKit Go.Eng Go.Lift Go.Joins Go.Den Go.Dn
open Go.ChangeMaps (open_string shut_string)
set_option maxRecDepth 100000
theorem Wy{H:Type}{enc:TypeId×Value->H}{w:World}{base:Nat}{sp:Nat->Bool}{held:Bool}:Opens enc Tryz.prog w base sp held 3 (Ty.gr Tryz.prog t3) (fun (z:Int)=>(Lit.int .i64 z).wf=true):=pF Tryz.underlying3 (by kernel_rfl)
theorem zFg{H:Type}{enc:TypeId×Value->H}{w:World}{base:Nat}{sp:Nat->Bool}{held:Bool}:Opens enc Tryz.prog w base sp held 23 (Ty.gr Tryz.prog t23) (fun (z:List Int)=>(∀y∈(z:List Int),(fun (z:Int)=>(Lit.int .i64 z).wf=true) y)/\(z:List Int).length<=maxLen):=wq Tryz.underlying23 (by kernel_rfl) Wy (of_decide_eq_true (by kernel_rfl))
theorem zFf{H:Type}{enc:TypeId×Value->H}{w:World}{base:Nat}{sp:Nat->Bool}{held:Bool}:Opens enc Tryz.prog w base sp held 26 (Ty.gr Tryz.prog t26) (fun (z:List Int)=>(z:List Int).length=3/\∀y∈(z:List Int),(fun (z:Int)=>(Lit.int .i64 z).wf=true) y):=Iv Tryz.underlying26 (by kernel_rfl) Wy
theorem zKc{H:Type}{enc:TypeId×Value->H}{w:World}{base:Nat}{sp:Nat->Bool}{held:Bool}:Opens enc Tryz.prog w base sp held 5 (Ty.gr Tryz.prog t5) (fun (z:Int)=>(Lit.int .u8 z).wf=true):=pF Tryz.underlying5 (by kernel_rfl)
def zLQ(x:Int×Int×Unit):Prop:=((Lit.int .i64 x.1).wf=true)/\((Lit.int .i64 x.2.1).wf=true)/\True
theorem zFe{H:Type}{enc:TypeId×Value->H}{w:World}{base:Nat}{sp:Nat->Bool}{held:Bool}:Opens enc Tryz.prog w base sp held 81 (Ty.gr Tryz.prog t81) zLQ:=by
 refine⟨by kernel_rfl,Ty.fits _ _,fun fuel cs x h=>?_⟩
 obtain⟨xs,n,rfl,rfl,hl,fA,hf⟩:=DataW.trod_struct Tryz.underlying81 h;have hl':cs.length=2:=hl.trans (by kernel_rfl)
 obtain⟨y0,cP⟩:∃y,xs[0]?=some y:=⟨_,zMD (by rw[fA];decide)⟩
 obtain⟨a0,k0,q0⟩:=Opens.at_ (off:=0) (n:=n) (cs:=cs) (Wy (enc:=enc) (w:=w) (base:=base) (sp:=sp) (held:=held)) ((hf 0 _ rfl).trans cP);obtain⟨y1,bM⟩:∃y,xs[1]?=some y:=⟨_,zMD (by rw[fA];decide)⟩
 obtain⟨a1,k1,q1⟩:=Opens.at_ (off:=1) (n:=n) (cs:=cs) (Wy (enc:=enc) (w:=w) (base:=base) (sp:=sp) (held:=held)) ((hf 1 _ rfl).trans bM);exact⟨⟨a0,a1,()⟩,⟨_,_,zHw cs 0 1,k0,⟨_,_,zHw cs 1 1,k1,List.drop_of_length_le (by rw[hl'];decide)⟩⟩,⟨q0,q1,trivial⟩⟩
theorem own:ownKnob Tryz.prog.godebug=none:=by kernel_rfl
theorem laidOut:laidOutB Tryz.prog=true:=by kernel_rfl
theorem lifted(os:Os)(started:os.Started)(H:Type)(enc:TypeId×Value->H) :
  ReturnsInHanded {} Tryz.checked os 9 .any (Rows.planProvesSpec.pre6 enc Tryz.prog Tryz.f9 Rows.planProvesRow.domain false) (Rows.planProvesSpec.post enc Tryz.prog Tryz.f9 false true false false):=by
 refine returnsInHanded_of_change (C:=Tryz.checked) own started (by kernel_rfl) Tryz.func9
  (ChangeSpec.witness6 (enc:=enc) (C:=Tryz.checked) false ⟨#[],#[.slice none 0 0,.agg #[.int .i64 0,.int .i64 0,.int .i64 0],.int .i64 0,.slice none 0 0,.slice none 0 0],[]⟩ 8 (by kernel_rfl) (by kernel_rfl) (by kernel_rfl) (by kernel_rfl)) ?_
 intro W base args ds gs before eR hW hcnd _;have xF:∀(j:Nat) t v,Tryz.f9.params[j]?=some t->args[j]?=some v->Value.okWide Tryz.prog W .any base t v:=eR
 have hW':=hW;obtain⟨p,q,hA0,hV,rfl,hfz,sA⟩:=hW;have hA:DataW.TrodAll enc Tryz.prog W 0 (fun _=>true) true Tryz.f9.params.toList args.toList ds p:=hA0
 rw[Tryz.params9]at hA xF;obtain⟨v0,vs0,d0,ds0,p0,q0_,fU,rfl,rfl,h0,r0⟩:=trodAll_cons hA;obtain⟨v1,aZ,d1,ds1,p1,q1_,rfl,rfl,rfl,h1,r1⟩:=trodAll_cons r0;obtain⟨v2,oQ,d2,ds2,p2,q2_,rfl,rfl,rfl,h2,r2⟩:=trodAll_cons r1;obtain⟨v3,vs3,d3,ds3,p3,q3_,rfl,rfl,rfl,h3,r3⟩:=trodAll_cons r2;obtain⟨v4,vs4,d4,ds4,p4,q4_,rfl,rfl,rfl,h4,r4⟩:=trodAll_cons r3;obtain⟨rfl,rfl,rfl⟩:=trodAll_nil r4
 obtain rfl:args=#[v0,v1,v2,v3,v4]:=by cases args;simp_all
 obtain⟨rfl,rfl⟩:=trodVars_none hV;have k0:=h0
 have lt0:∀x∈p0,x.block<W.heap.size:=by obtain⟨m,hm⟩:=k0;exact DataW.trod_lt m _ _ _ hm
 have k1:=h1;have lt1:∀x∈p1,x.block<W.heap.size:=by obtain⟨m,hm⟩:=k1;exact DataW.trod_lt m _ _ _ hm
 have k2:=h2;have lt2:∀x∈p2,x.block<W.heap.size:=by obtain⟨m,hm⟩:=k2;exact DataW.trod_lt m _ _ _ hm
 have k3:=h3;have lt3:∀x∈p3,x.block<W.heap.size:=by obtain⟨m,hm⟩:=k3;exact DataW.trod_lt m _ _ _ hm
 have k4:=h4;have lt4:∀x∈p4,x.block<W.heap.size:=by obtain⟨m,hm⟩:=k4;exact DataW.trod_lt m _ _ _ hm
 obtain⟨x0,iD,q0⟩:=qV Tryz.underlying22 (by kernel_rfl) zFg (of_decide_eq_true (by kernel_rfl)) (xF 0 22 v0 rfl rfl) h0
 obtain⟨x1,n8,q1⟩:=Dh Tryz.underlying26 zFf rfl (xF 1 26 v1 rfl rfl) h1;obtain⟨x2,e2,_,_,q2⟩:=open_int Tryz.underlying3 (xF 2 3 v2 rfl rfl) h2;have d9:(Ty.gr Tryz.prog t3).v O0 W v2 x2:=⟨_,rfl,e2⟩
 obtain⟨x3,cN,q3⟩:=qV Tryz.underlying78 (by kernel_rfl) zKc (of_decide_eq_true (by kernel_rfl)) (xF 3 78 v3 rfl rfl) h3
 obtain⟨x4,hr4,q4⟩:=qV Tryz.underlying73 (by kernel_rfl) zFe (of_decide_eq_true (by kernel_rfl)) (xF 4 73 v4 rfl rfl) h4
 clear hA0 eR;obtain⟨⟨b_,u_⟩,hv_,hb_⟩:=(Go.Geo.Dt x0 q1.1 x2 (fun y hy=>wf_u8 (q3.1 y hy)) x4)
 obtain⟨n_,hn_⟩:=vL.1 hv_;have walk:=zKd.2 O0 W zDY [v0,v1,v2,v3,v4] (x0,x1,x2,x3,x4,()) ⟨_,_,rfl,iD,_,_,rfl,n8,_,_,rfl,d9,_,_,rfl,cN,_,_,rfl,hr4,rfl⟩ n_ _ hn_
 refine Calls.mono (R:=fun e W'=>e=.returned (.bool true)/\Below W.heap.size W W') ?_ fun e W' ⟨he,bel⟩=>?_
 ·exact Calls.mono walk fun e W' ⟨v,h1,h2,rs,h3,v1,aZ,h4,⟨cs,h5,h6⟩,h7,_⟩=>⟨by rw[h1,Dj h3 h4 h7,h6,show cs=[Value.bool b_] from h5,show b_=true from hb_];rfl,h2⟩
 ·subst he
  exact⟨_,rfl,_,_,_,[],_,[],hW',trodAll_mk1 (shut_bool Tryz.underlying4 _),(trodAll_cons_mk (Below.trod laidOut (by kernel_rfl) (of_decide_eq_true (by kernel_rfl)) k0 bel lt0) (trodAll_cons_mk (Below.trod laidOut (by kernel_rfl) (of_decide_eq_true (by kernel_rfl)) k1 bel lt1) (trodAll_cons_mk (Below.trod laidOut (by kernel_rfl) (of_decide_eq_true (by kernel_rfl)) k2 bel lt2) (trodAll_cons_mk (Below.trod laidOut (by kernel_rfl) (of_decide_eq_true (by kernel_rfl)) k3 bel lt3) (trodAll_cons_mk (Below.trod laidOut (by kernel_rfl) (of_decide_eq_true (by kernel_rfl)) k4 bel lt4) trodAll_mk0))))),rfl,bel.frame _,fun h=>by cases h⟩
theorem proved:Rows.PlanProvesSaid :=
 OpenClaim.holds_of_wide 9 Tryz.f9 rfl rfl rfl rfl rfl rfl rfl ⟨rfl,rfl,rfl,rfl,rfl⟩ rfl rfl rfl rfl rfl (by kernel_rfl) Tryz.func9 (by kernel_rfl)
  (of_decide_eq_true (by kernel_rfl)) (by unfold Func.isWrapper;first|(rw[zLz (by decide +kernel)];kernel_rfl)|(rw[zMA (by decide +kernel)];exact⟨rfl,rfl⟩))
  (fun os started H enc _=>lifted os started H enc)
#print axioms proved
end Go.Proofs.YtknbpncolbmoaaaGreat.planProvesDone
end
