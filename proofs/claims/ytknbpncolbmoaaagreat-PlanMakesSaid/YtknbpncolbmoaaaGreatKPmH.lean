/- For every list of lists and two bytes, PlanMakes returns true, and its arguments read afterwards as before; no condition. -/
import Derived.Test.YtknbpncolbmoaaaGreatKPmG
import Derived.Test.YtknbpncolbmoaaaGreatRows
import Derived.WalkKit
import Derived.ProofKit
import Derived.OpenShut
import Derived.ShutString
import Derived.ChangeOld
import Derived.Below
import Derived.SliceStrings
import Derived.Lib.SmallJoins
set_option linter.unusedSimpArgs false
set_option linter.unusedVariables false
open Go.Lift.Comp (vN)
section
namespace Go.Proofs.YtknbpncolbmoaaaGreat.planMakesDone
open Go Go.ChangeShapes Go.WideShapes Go.ChangeAt Go.RowKit Go.Eng Go.Lift Go.Joins Go.Den Go.Dn
open Go.ChangeMaps (open_string shut_string)
set_option maxRecDepth 100000
theorem zLT{H:Type}{enc:TypeId×Value->H}{w:World}{base:Nat}{sp:Nat->Bool}{held:Bool}:Opens enc Tryz.prog w base sp held 3 (Ty.gr Tryz.prog t3) (fun (z:Int)=>(Lit.int .i64 z).wf=true):=MC Tryz.underlying3 (by kernel_rfl)
theorem zGb{H:Type}{enc:TypeId×Value->H}{w:World}{base:Nat}{sp:Nat->Bool}{held:Bool}:Opens enc Tryz.prog w base sp held 23 (Ty.gr Tryz.prog t23) (fun (z:List Int)=>(∀y∈(z:List Int),(fun (z:Int)=>(Lit.int .i64 z).wf=true) y)/\(z:List Int).length<=maxLen):=wx Tryz.underlying23 (by kernel_rfl) zLT (of_decide_eq_true (by kernel_rfl))
theorem own:ownKnob Tryz.prog.godebug=none:=by kernel_rfl
theorem laidOut:laidOutB Tryz.prog=true:=by kernel_rfl
theorem lifted(os:Os)(started:os.Started)(H:Type)(enc:TypeId×Value->H) :
  ReturnsInHanded {} Tryz.checked os 12 .any (Rows.planMakesSpec.pre6 enc Tryz.prog Tryz.f12 Rows.planMakesRow.domain false) (Rows.planMakesSpec.post enc Tryz.prog Tryz.f12 false true false false):=by
 refine returnsInHanded_of_change (C:=Tryz.checked) own started (by kernel_rfl) Tryz.func12
  (ChangeSpec.witness6 (enc:=enc) (C:=Tryz.checked) false ⟨#[],#[.slice none 0 0,.int .u8 0,.int .u8 0],[]⟩ 8 (by kernel_rfl) (by kernel_rfl) (by kernel_rfl) (by kernel_rfl)) ?_
 intro W base args ds gs before eU hW hcnd _;have bF:∀(j:Nat) t v,Tryz.f12.params[j]?=some t->args[j]?=some v->Value.okWide Tryz.prog W .any base t v:=eU
 have hW':=hW;obtain⟨p,q,hA0,hV,rfl,hfz,sC⟩:=hW;have hA:DataW.TrodAll enc Tryz.prog W 0 (fun _=>true) true Tryz.f12.params.toList args.toList ds p:=hA0
 rw[Tryz.params12]at hA bF;obtain⟨v0,vs0,d0,ds0,p0,q0_,fU,rfl,rfl,h0,r0⟩:=trodAll_cons hA;obtain⟨v1,aU,d1,ds1,p1,q1_,rfl,rfl,rfl,h1,r1⟩:=trodAll_cons r0;obtain⟨v2,oV,d2,ds2,p2,q2_,rfl,rfl,rfl,h2,r2⟩:=trodAll_cons r1;obtain⟨rfl,rfl,rfl⟩:=trodAll_nil r2;obtain rfl:args=#[v0,v1,v2]:=by cases args;simp_all
 obtain⟨rfl,rfl⟩:=trodVars_none hV;have k0:=h0
 have lt0:∀x∈p0,x.block<W.heap.size:=by obtain⟨m,hm⟩:=k0;exact DataW.trod_lt m _ _ _ hm
 have k1:=h1;have lt1:∀x∈p1,x.block<W.heap.size:=by obtain⟨m,hm⟩:=k1;exact DataW.trod_lt m _ _ _ hm
 have k2:=h2;have lt2:∀x∈p2,x.block<W.heap.size:=by obtain⟨m,hm⟩:=k2;exact DataW.trod_lt m _ _ _ hm
 obtain⟨x0,iG,q0⟩:=N7 Tryz.underlying22 (by kernel_rfl) zGb (of_decide_eq_true (by kernel_rfl)) (bF 0 22 v0 rfl rfl) h0
 obtain⟨x1,e1,_,_,q1⟩:=open_int Tryz.underlying5 (bF 1 5 v1 rfl rfl) h1;have oG:(Ty.gr Tryz.prog t5).v O0 W v1 x1:=⟨_,rfl,e1⟩
 obtain⟨x2,e2,_,_,q2⟩:=open_int Tryz.underlying5 (bF 2 5 v2 rfl rfl) h2;have cN:(Ty.gr Tryz.prog t5).v O0 W v2 x2:=⟨_,rfl,e2⟩
 clear hA0 eU;obtain⟨⟨b_,u_⟩,hv_,hb_⟩:=(Go.Geo.Mb x0 (wf_u8 q1) (wf_u8 q2));obtain⟨n_,hn_⟩:=vN.1 hv_;have walk:=zGy.2 O0 W zEU [v0,v1,v2] (x0,x1,x2,()) ⟨_,_,rfl,iG,_,_,rfl,oG,_,_,rfl,cN,rfl⟩ n_ _ hn_
 refine Calls.mono (R:=fun e W'=>e=.returned (.bool true)/\Below W.heap.size W W') ?_ fun e W' ⟨he,bel⟩=>?_
 ·exact Calls.mono walk fun e W' ⟨v,h1,h2,rs,h3,v1,aU,h4,⟨cs,h5,h6⟩,h7,_⟩=>⟨by rw[h1,Dt h3 h4 h7,h6,show cs=[Value.bool b_] from h5,show b_=true from hb_];rfl,h2⟩
 ·subst he
  exact⟨_,rfl,_,_,_,[],_,[],hW',trodAll_mk1 (shut_bool Tryz.underlying4 _),(trodAll_cons_mk (Below.trod laidOut (by kernel_rfl) (of_decide_eq_true (by kernel_rfl)) k0 bel lt0) (trodAll_cons_mk (Below.trod laidOut (by kernel_rfl) (of_decide_eq_true (by kernel_rfl)) k1 bel lt1) (trodAll_cons_mk (Below.trod laidOut (by kernel_rfl) (of_decide_eq_true (by kernel_rfl)) k2 bel lt2) trodAll_mk0))),rfl,bel.frame _,fun h=>by cases h⟩
theorem proved:Rows.PlanMakesSaid :=
 OpenClaim.holds_of_wide 12 Tryz.f12 rfl rfl rfl rfl rfl rfl rfl ⟨rfl,rfl,rfl,rfl,rfl⟩ rfl rfl rfl rfl rfl (by kernel_rfl) Tryz.func12 (by kernel_rfl)
  (of_decide_eq_true (by kernel_rfl)) (by unfold Func.isWrapper;first|(rw[zMq (by decide +kernel)];kernel_rfl)|(rw[zMr (by decide +kernel)];exact⟨rfl,rfl⟩))
  (fun os started H enc _=>lifted os started H enc)
#print axioms proved
end Go.Proofs.YtknbpncolbmoaaaGreat.planMakesDone
end
