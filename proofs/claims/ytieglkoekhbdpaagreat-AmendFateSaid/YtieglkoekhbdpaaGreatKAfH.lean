/- For every case, AmendFate returns true, and its argument read afterwards as before; no condition. -/
import Derived.Test.YtieglkoekhbdpaaGreatKAfG
import Derived.Test.YtieglkoekhbdpaaGreatRows
import Derived.WalkKit
import Derived.ProofKit
import Derived.OpenShut
import Derived.ShutString
import Derived.ChangeOld
import Derived.Below
import Derived.SliceStrings
import Derived.Lib.SmallJoins
set_option linter.unusedSimpArgs false
set_option linter.unusedVariables false
open Go.Lift.Comp (vM)
section
namespace Go.Proofs.YtieglkoekhbdpaaGreat.amendFateDone
open Go Go.ChangeShapes Go.WideShapes Go.ChangeAt Go.RowKit Go.Eng Go.Lift Go.Joins Go.Den Go.Dn
open Go.ChangeMaps (open_string shut_string)
set_option maxRecDepth 100000
theorem zKP{H:Type}{enc:TypeId×Value→H}{w:World}{base:Nat}{sp:Nat→Bool}{held:Bool}:Opens enc Tryz.prog w base sp held 3 (Ty.gr Tryz.prog t3) (fun (z:Int)=>(Lit.int .i64 z).wf=true):=Ia Tryz.underlying3 (by kernel_rfl)
theorem Wy{H:Type}{enc:TypeId×Value→H}{w:World}{base:Nat}{sp:Nat→Bool}{held:Bool}:Opens enc Tryz.prog w base sp held 23 (Ty.gr Tryz.prog t23) (fun (z:List Int)=>(∀y∈(z:List Int),(fun (z:Int)=>(Lit.int .i64 z).wf=true) y)∧(z:List Int).length≤maxLen):=wg Tryz.underlying23 (by kernel_rfl) zKP (of_decide_eq_true (by kernel_rfl))
theorem zEv{H:Type}{enc:TypeId×Value→H}{w:World}{base:Nat}{sp:Nat→Bool}{held:Bool}:Opens enc Tryz.prog w base sp held 22 (Ty.gr Tryz.prog t22) (fun (z:List (List Int))=>(∀y∈(z:List (List Int)),(fun (z:List Int)=>(∀y∈(z:List Int),(fun (z:Int)=>(Lit.int .i64 z).wf=true) y)∧(z:List Int).length≤maxLen) y)∧(z:List (List Int)).length≤maxLen):=wg Tryz.underlying22 (by kernel_rfl) Wy (of_decide_eq_true (by kernel_rfl))
def zKu(x:List (List Int)×List Int×Unit):Prop:=((∀y∈(x.1:List (List Int)),(fun (z:List Int)=>(∀y∈(z:List Int),(fun (z:Int)=>(Lit.int .i64 z).wf=true) y)∧(z:List Int).length≤maxLen) y)∧(x.1:List (List Int)).length≤maxLen)∧((∀y∈(x.2.1:List Int),(fun (z:Int)=>(Lit.int .i64 z).wf=true) y)∧(x.2.1:List Int).length≤maxLen)∧True
theorem zEu{H:Type}{enc:TypeId×Value→H}{w:World}{base:Nat}{sp:Nat→Bool}{held:Bool}:Opens enc Tryz.prog w base sp held 25 (Ty.gr Tryz.prog t25) zKu:=by
 refine⟨by kernel_rfl,Ty.fits _ _,fun fuel cs x h=>?_⟩
 obtain⟨xs,n,rfl,rfl,hl,hlen,hf⟩:=DataW.trod_struct Tryz.underlying25 h;have hl':cs.length=2:=hl.trans (by kernel_rfl)
 obtain⟨y0,hy0⟩:∃y,xs[0]?=some y:=⟨_,zLT (by rw[hlen];decide)⟩
 obtain⟨a0,k0,q0⟩:=Opens.at_ (off:=0) (n:=n) (cs:=cs) (zEv (enc:=enc) (w:=w) (base:=base) (sp:=sp) (held:=held)) ((hf 0 _ rfl).trans hy0);obtain⟨y1,hy1⟩:∃y,xs[1]?=some y:=⟨_,zLT (by rw[hlen];decide)⟩
 obtain⟨a1,k1,q1⟩:=Opens.at_ (off:=1) (n:=n) (cs:=cs) (Wy (enc:=enc) (w:=w) (base:=base) (sp:=sp) (held:=held)) ((hf 1 _ rfl).trans hy1);exact⟨⟨a0,a1,()⟩,⟨_,_,zHb cs 0 1,k0,⟨_,_,zHb cs 1 1,k1,List.drop_of_length_le (by rw[hl'];decide)⟩⟩,⟨q0,q1,trivial⟩⟩
theorem own:ownKnob Tryz.prog.godebug=none:=by kernel_rfl
theorem laidOut:laidOutB Tryz.prog=true:=by kernel_rfl
theorem lifted(os:Os)(started:os.Started)(H:Type)(enc:TypeId×Value→H) :
  ReturnsInHanded {} Tryz.checked os 6 .any (Rows.amendFateSpec.pre6 enc Tryz.prog Tryz.f6 Rows.amendFateRow.domain false) (Rows.amendFateSpec.post enc Tryz.prog Tryz.f6 false true false false):=by
 refine returnsInHanded_of_change (C:=Tryz.checked) own started (by kernel_rfl) Tryz.func6
  (ChangeSpec.witness6 (enc:=enc) (C:=Tryz.checked) false ⟨#[],#[.agg #[.slice none 0 0,.slice none 0 0]],[]⟩ 8 (by kernel_rfl) (by kernel_rfl) (by kernel_rfl) (by kernel_rfl)) ?_
 intro W base args ds gs before hval0 hW hcnd _;have hval:∀(j:Nat) t v,Tryz.f6.params[j]?=some t→args[j]?=some v→Value.okWide Tryz.prog W .any base t v:=hval0
 have hW':=hW;obtain⟨p,q,hA0,hV,rfl,hfz,hnd⟩:=hW;have hA:DataW.TrodAll enc Tryz.prog W 0 (fun _=>true) true Tryz.f6.params.toList args.toList ds p:=hA0
 rw[Tryz.params6]at hA hval;obtain⟨v0,vs0,d0,ds0,p0,q0_,hargs,rfl,rfl,h0,r0⟩:=trodAll_cons hA;obtain⟨rfl,rfl,rfl⟩:=trodAll_nil r0;obtain rfl:args=#[v0]:=by cases args;simp_all
 obtain⟨rfl,rfl⟩:=trodVars_none hV;have k0:=h0
 have lt0:∀x∈p0,x.block<W.heap.size:=by obtain⟨m,hm⟩:=k0;exact DataW.trod_lt m _ _ _ hm
 obtain⟨x0,hr0,q0⟩:=AA Tryz.underlying25 zEu rfl (hval 0 25 v0 rfl rfl) h0;clear hA0 hval0;obtain⟨⟨b_,u_⟩,hv_,hb_⟩:=(Go.Geo.Nr x0);obtain⟨n_,hn_⟩:=vM.1 hv_;have walk:=zKQ.2 O0 W zCs [v0] (x0,()) ⟨_,_,rfl,hr0,rfl⟩ n_ _ hn_
 refine Calls.mono (R:=fun e W'=>e=.returned (.bool true)∧Below W.heap.size W W') ?_ fun e W' ⟨he,bel⟩=>?_
 ·exact Calls.mono walk fun e W' ⟨v,h1,h2,rs,h3,v1,vs1,h4,⟨cs,h5,h6⟩,h7,_⟩=>⟨by rw[h1,DP h3 h4 h7,h6,show cs=[Value.bool b_] from h5,show b_=true from hb_];rfl,h2⟩
 ·subst he
  exact⟨_,rfl,_,_,_,[],_,[],hW',trodAll_mk1 (shut_bool Tryz.underlying4 _),(trodAll_cons_mk (Below.trod laidOut (by kernel_rfl) (of_decide_eq_true (by kernel_rfl)) k0 bel lt0) trodAll_mk0),rfl,bel.frame _,fun h=>by cases h⟩
theorem proved:Rows.AmendFateSaid :=
 OpenClaim.holds_of_wide 6 Tryz.f6 rfl rfl rfl rfl rfl rfl rfl ⟨rfl,rfl,rfl,rfl,rfl⟩ rfl rfl rfl rfl rfl (by kernel_rfl) Tryz.func6 (by kernel_rfl)
  (of_decide_eq_true (by kernel_rfl)) (by unfold Func.isWrapper;first|(rw[if_pos (by decide +kernel)];kernel_rfl)|(rw[if_neg (by decide +kernel)];exact⟨rfl,rfl⟩))
  (fun os started H enc _=>lifted os started H enc)
#print axioms proved
end Go.Proofs.YtieglkoekhbdpaaGreat.amendFateDone
end
