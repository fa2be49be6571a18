/- For every list of lists, bytes and a byte, PlanSound returns true, and its arguments read afterwards as before; no condition. -/
import Derived.Test.YtknbpncolbmoaaaGreatKPsG
import Derived.Test.YtknbpncolbmoaaaGreatRows
import Derived.WalkKit
import Derived.ProofKit
import Derived.OpenShut
import Derived.ShutString
import Derived.ChangeOld
import Derived.Below
import Derived.SliceStrings
import Derived.Lib.SmallJoins
set_option linter.unusedSimpArgs false
set_option linter.unusedVariables false
open Go.Lift.Comp (vK)
section
namespace Go.Proofs.YtknbpncolbmoaaaGreat.planSoundDone
open Go Go.ChangeShapes Go.WideShapes Go.ChangeAt Go.RowKit Go.Eng Go.Lift Go.Joins Go.Den Go.Dn
open Go.ChangeMaps (open_string shut_string)
set_option maxRecDepth 100000
theorem zKV{H:Type}{enc:TypeId×Value->H}{w:World}{base:Nat}{sp:Nat->Bool}{held:Bool}:Opens enc Tryz.prog w base sp held 3 (Ty.gr Tryz.prog t3) (fun (z:Int)=>(Lit.int .i64 z).wf=true):=r9 Tryz.underlying3 (by kernel_rfl)
theorem zFj{H:Type}{enc:TypeId×Value->H}{w:World}{base:Nat}{sp:Nat->Bool}{held:Bool}:Opens enc Tryz.prog w base sp held 23 (Ty.gr Tryz.prog t23) (fun (z:List Int)=>(∀y∈(z:List Int),(fun (z:Int)=>(Lit.int .i64 z).wf=true) y)/\(z:List Int).length<=maxLen):=wX Tryz.underlying23 (by kernel_rfl) zKV (of_decide_eq_true (by kernel_rfl))
theorem zKU{H:Type}{enc:TypeId×Value->H}{w:World}{base:Nat}{sp:Nat->Bool}{held:Bool}:Opens enc Tryz.prog w base sp held 5 (Ty.gr Tryz.prog t5) (fun (z:Int)=>(Lit.int .u8 z).wf=true):=r9 Tryz.underlying5 (by kernel_rfl)
theorem own:ownKnob Tryz.prog.godebug=none:=by kernel_rfl
theorem laidOut:laidOutB Tryz.prog=true:=by kernel_rfl
theorem lifted(os:Os)(started:os.Started)(H:Type)(enc:TypeId×Value->H) :
  ReturnsInHanded {} Tryz.checked os 10 .any (Rows.planSoundSpec.pre6 enc Tryz.prog Tryz.f10 Rows.planSoundRow.domain false) (Rows.planSoundSpec.post enc Tryz.prog Tryz.f10 false true false false):=by
 refine returnsInHanded_of_change (C:=Tryz.checked) own started (by kernel_rfl) Tryz.func10
  (ChangeSpec.witness6 (enc:=enc) (C:=Tryz.checked) false ⟨#[],#[.slice none 0 0,.slice none 0 0,.int .u8 0],[]⟩ 8 (by kernel_rfl) (by kernel_rfl) (by kernel_rfl) (by kernel_rfl)) ?_
 intro W base args ds gs before iQ hW hcnd _;have cE:∀(j:Nat) t v,Tryz.f10.params[j]?=some t->args[j]?=some v->Value.okWide Tryz.prog W .any base t v:=iQ
 have hW':=hW;obtain⟨p,q,hA0,hV,rfl,hfz,sA⟩:=hW;have hA:DataW.TrodAll enc Tryz.prog W 0 (fun _=>true) true Tryz.f10.params.toList args.toList ds p:=hA0
 rw[Tryz.params10]at hA cE;obtain⟨v0,vs0,d0,ds0,p0,q0_,fU,rfl,rfl,h0,r0⟩:=trodAll_cons hA;obtain⟨v1,bI,d1,ds1,p1,q1_,rfl,rfl,rfl,h1,r1⟩:=trodAll_cons r0;obtain⟨v2,vs2,d2,ds2,p2,q2_,rfl,rfl,rfl,h2,r2⟩:=trodAll_cons r1;obtain⟨rfl,rfl,rfl⟩:=trodAll_nil r2;obtain rfl:args=#[v0,v1,v2]:=by cases args;simp_all
 obtain⟨rfl,rfl⟩:=trodVars_none hV;have k0:=h0
 have lt0:∀x∈p0,x.block<W.heap.size:=by obtain⟨m,hm⟩:=k0;exact DataW.trod_lt m _ _ _ hm
 have k1:=h1;have lt1:∀x∈p1,x.block<W.heap.size:=by obtain⟨m,hm⟩:=k1;exact DataW.trod_lt m _ _ _ hm
 have k2:=h2;have lt2:∀x∈p2,x.block<W.heap.size:=by obtain⟨m,hm⟩:=k2;exact DataW.trod_lt m _ _ _ hm
 obtain⟨x0,lC,q0⟩:=BV Tryz.underlying22 (by kernel_rfl) zFj (of_decide_eq_true (by kernel_rfl)) (cE 0 22 v0 rfl rfl) h0
 obtain⟨x1,oQ,q1⟩:=BV Tryz.underlying78 (by kernel_rfl) zKU (of_decide_eq_true (by kernel_rfl)) (cE 1 78 v1 rfl rfl) h1
 obtain⟨x2,e2,_,_,q2⟩:=open_int Tryz.underlying5 (cE 2 5 v2 rfl rfl) h2;have bW:(Ty.gr Tryz.prog t5).v O0 W v2 x2:=⟨_,rfl,e2⟩
 clear hA0 iQ;obtain⟨⟨b_,u_⟩,hv_,hb_⟩:=(Go.Geo.MD x0 (fun y hy=>wf_u8 (q1.1 y hy)) (wf_u8 q2))
 obtain⟨n_,hn_⟩:=vK.1 hv_;have walk:=zGF.2 O0 W zDb [v0,v1,v2] (x0,x1,x2,()) ⟨_,_,rfl,lC,_,_,rfl,oQ,_,_,rfl,bW,rfl⟩ n_ _ hn_
 refine Calls.mono (R:=fun e W'=>e=.returned (.bool true)/\Below W.heap.size W W') ?_ fun e W' ⟨he,bel⟩=>?_
 ·exact Calls.mono walk fun e W' ⟨v,h1,h2,rs,h3,v1,bI,h4,⟨cs,h5,h6⟩,h7,_⟩=>⟨by rw[h1,DZ h3 h4 h7,h6,show cs=[Value.bool b_] from h5,show b_=true from hb_];rfl,h2⟩
 ·subst he
  exact⟨_,rfl,_,_,_,[],_,[],hW',trodAll_mk1 (shut_bool Tryz.underlying4 _),(trodAll_cons_mk (Below.trod laidOut (by kernel_rfl) (of_decide_eq_true (by kernel_rfl)) k0 bel lt0) (trodAll_cons_mk (Below.trod laidOut (by kernel_rfl) (of_decide_eq_true (by kernel_rfl)) k1 bel lt1) (trodAll_cons_mk (Below.trod laidOut (by kernel_rfl) (of_decide_eq_true (by kernel_rfl)) k2 bel lt2) trodAll_mk0))),rfl,bel.frame _,fun h=>by cases h⟩
theorem proved:Rows.PlanSoundSaid :=
 OpenClaim.holds_of_wide 10 Tryz.f10 rfl rfl rfl rfl rfl rfl rfl ⟨rfl,rfl,rfl,rfl,rfl⟩ rfl rfl rfl rfl rfl (by kernel_rfl) Tryz.func10 (by kernel_rfl)
  (of_decide_eq_true (by kernel_rfl)) (by unfold Func.isWrapper;first|(rw[zLr (by decide +kernel)];kernel_rfl)|(rw[zLs (by decide +kernel)];exact⟨rfl,rfl⟩))
  (fun os started H enc _=>lifted os started H enc)
#print axioms proved
end Go.Proofs.YtknbpncolbmoaaaGreat.planSoundDone
end
