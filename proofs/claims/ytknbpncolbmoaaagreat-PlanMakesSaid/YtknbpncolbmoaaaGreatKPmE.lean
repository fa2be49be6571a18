/- Lemmas behind a claim. -/
import Derived.Test.YtknbpncolbmoaaaGreatKPmD
set_option linter.unusedSimpArgs false
set_option linter.unusedVariables false
open Go.Lift.Comp (XX YY zA RD Xk zJ vN)
noncomputable section
set_option maxRecDepth 20000
namespace Go.F
open Go Go.Lift Go.Den
abbrev A1:=Int×Int×Int×Unit
abbrev A2:=A1×Int×Unit
abbrev A3:=List A2
abbrev A4:=List A3×List A3×Int×List Int×Unit
abbrev A5:=List Bool×List Bool×List A3×Unit
abbrev A6:=List UInt8×List A3×List Int×Unit
abbrev A7:=y8×List A3×List Int×Unit
abbrev A8:=Int×Int×Int×Int×Unit
abbrev A9:=Bool×Unit
abbrev A10:=Int×Int×Unit
abbrev A11:=Int×Unit
abbrev A12:=List A2×Unit
abbrev A13:=A6×A5×List A4×Unit
abbrev A14:=List Int
abbrev A15:=List Int×Int×Unit
abbrev A16:=A7×A5×List A4×Unit
abbrev A17:=List Int×Int×List A10×Int×Unit
abbrev A18:=List A3
abbrev A19:=List A3×Unit
abbrev A20:=Bool×Int×Unit
abbrev A21:=List A3×Int
abbrev A22:=Unit⊕Bool
abbrev A23:=List A10×Unit
abbrev A24:=List A3×Int×Unit
abbrev A25:=A15×Unit
abbrev A26:=A25×Int×Unit
abbrev A27:=List Int×Unit
abbrev A28:=List Bool
abbrev A29:=Unit⊕Int
abbrev A30:=List A10
abbrev A31:=A2×Unit->Comp A9
abbrev A32:=A10×Unit
abbrev A33:=A1×Unit
abbrev A34:=Int×Int
abbrev A35:=List A2×Int
abbrev A36:=List Int×Int×List A10×Int->Comp A17
abbrev A37:=List A14×Unit
abbrev A38:=List A2×Unit->Comp A9
abbrev A39:=List Bool×Unit
abbrev A40:=List A3⊕List A3×Int
abbrev A41:=Bool×List Int×Int×Unit
abbrev A42:=List A8×Unit
abbrev A44:=A5×List Bool×List Bool×List A3×Unit⊕Int×List Bool×List Bool×List A3×Unit
abbrev A45:=List Int×Int×List A10×Int
abbrev A46:=Option A3×Unit
abbrev A47:=List Int×Int
def zw:Int×Int×Int×Unit->Int×Int×Int×Unit->Comp A12:=fun x0 x1=>.pure ([((1,0,0,()),x1.1,()),((-1,0,0,()),Yp .i64 x0.1,()),((0,1,0,()),x1.2.1,()),((0, -1,0,()),Yp .i64 x0.2.1,()),((0,0,1,()),x1.2.2.1,()),((0,0, -1,()),Yp .i64 x0.2.2.1,())],())
def yb:Int->Int->Comp A12:=fun x0 x1=>(zw (x0,0,0,()) (x1,2,2,())).bind fun y=>.pure (y.1,())
def jL:y8×List A3×List Int×Unit->Comp (A5×Unit):=fun x0=>(mk (zD x0.2.1) false).bind fun x=>(mk (zD x0.2.1) false).bind fun ys=>.pure ((ys,x,[],()),())
def y6:Comp (A16×Unit):=(yb 0 2).bind fun y=>(yb 2 4).bind fun y_1=>(yb 4 6).bind fun xJ=>(jL ([],[y.1,y_1.1,xJ.1],[1,2,2],())).bind fun x=>(yb 2 4).bind fun a=>(yb 4 6).bind fun b=>(yb 2 4).bind fun c=>(yb 4 6).bind fun d=>(yb 1 6).bind fun e=>.pure ((([],[y.1,y_1.1,xJ.1],[1,2,2],()),x.1,[([a.1],[],3,[],()),([b.1],[],4,[],()),([c.1,d.1],[],9,[],()),([e.1],[],1,[],())],()),())
def gD:Int->Comp A9:=fun x0=>.pure (sel (ltI x0 1) true (gtI x0 3),())
def kC:List Int->(Int×Unit->Comp A9)->Comp A11:=fun x0 x1=>(Comp.loop (fun (x:Int)=>if ltI x (zD x0)=true then (idx x0 x).bind fun a=>(x1 (a,())).bind fun b=>if b.1=true then .pure (.done (Sum.inr x)) else .pure (.next (zH .i64 x 1)) else .pure (.done (Sum.inl ()))) 0).bind fun (x:A29)=>match x with
   |.inl x=>.pure (-1,())
   |.inr x=>.pure (x,())
def zl:List Int->(Int×Unit->Comp A9)->Comp A9:=fun x0 x1=>(kC x0 x1).bind fun x=>.pure (geI x.1 0,())
def yL:List A3->A38->Comp A11:=fun x0 x1=>(Comp.loop (fun (x:Int)=>if ltI x (zD x0)=true then (idx x0 x).bind fun a=>(x1 (a,())).bind fun b=>if b.1=true then .pure (.done (Sum.inr x)) else .pure (.next (zH .i64 x 1)) else .pure (.done (Sum.inl ()))) 0).bind fun (x:A29)=>match x with
   |.inl x=>.pure (-1,())
   |.inr x=>.pure (x,())
def zG:List A3->A38->Comp A9:=fun x0 x1=>(yL x0 x1).bind fun x=>.pure (geI x.1 0,())
def yK:List A2->A31->Comp A11:=fun x0 x1=>(Comp.loop (fun (x:Int)=>if ltI x (zD x0)=true then (idx x0 x).bind fun a=>(x1 (a,())).bind fun b=>if b.1=true then .pure (.done (Sum.inr x)) else .pure (.next (zH .i64 x 1)) else .pure (.done (Sum.inl ()))) 0).bind fun (x:A29)=>match x with
   |.inl x=>.pure (-1,())
   |.inr x=>.pure (x,())
def zY:List A2->A31->Comp A9:=fun x0 x1=>(yK x0 x1).bind fun x=>.pure (geI x.1 0,())
def jK:Int->List Int->Comp A9:=fun x0 x1=>(Comp.loop (fun (x:Int)=>if ltI x (zD x1)=true then (idx x1 x).bind fun a=>if sel (ltI a (Yp .i64 x0)) true (gtI a x0)=true then .pure (.done (Sum.inr false)) else .pure (.next (zH .i64 x 1)) else .pure (.done (Sum.inl ()))) 0).bind fun (x:A22)=>match x with
   |.inl x=>.pure (true,())
   |.inr x=>.pure (x,())
def jj:Int->Comp A11:=fun x0=>.pure (rv x0 (Yp .i64 x0),())
def Zf:List Int->Comp A11:=fun x0=>(Comp.loop (fun (x:A34)=>if ltI x.2 (zD x0)=true then (idx x0 x.2).bind fun a=>if eqI a (-9223372036854775808)=true then .pure (.done (Sum.inr 0)) else (jj a).bind fun b=>(Comp.loop (fun (x:A34)=>if gtI x.2 0=true then (rem x.1 x.2).bind fun c=>.pure (.next (x.2,c)) else .pure (.done x.1)) (x.1,b.1)).bind fun c=>.pure (.next (c,zH .i64 x.2 1)) else .pure (.done (Sum.inl x.1))) (0,0)).bind fun (x:Int⊕Int)=>match x with
   |.inl x=>.pure (x,())
   |.inr x=>.pure (x,())
def Yw:A1×Int×Unit->Comp A9:=fun x0=>jn (fun (x:Bool)=>.pure (x,())) fun (j:Bool->Comp A9)=>(jK (Int.ofNat 4608) [x0.1.1,x0.1.2.1,x0.1.2.2.1]).bind fun x=>if x.1=true then (Zf [x0.1.1,x0.1.2.1,x0.1.2.2.1]).bind fun x=>if eqI x.1 1=true then (jK (Int.ofNat 2097152) [x0.2.1]).bind fun x=>j x.1 else j false else j false
def kJ:A1×Int×Unit->Comp A9:=fun x0=>(Yw x0).bind fun x=>.pure (ntB x.1,())
def vn:List A2->Comp A11:=fun x0=>if gtI (zD x0) 48=true then .pure (2,()) else (zY x0 fun (z:A2×Unit)=>kJ z.1).bind fun x=>if x.1=true then .pure (12,()) else .pure (0,())
def jR:List A2->Comp A9:=fun x0=>(vn x0).bind fun x=>.pure (neI x.1 0,())
def ZY:List A3->Comp A9:=fun x0=>(zG x0 fun (z:A12)=>jR z.1).bind fun x=>.pure (ntB x.1,())
def vt:Int->Comp A12:=fun x0=>jn (fun (x:Unit)=>jn (fun (x:A3)=>.pure (x,())) fun (j:List A2->Comp A12)=>if gtI (gZ .i64 x0 0) 0=true then jn (fun (x:A3)=>j x) fun (j:List A2->Comp A12)=>((sub [] 0 0).bind fun (x:List Unit)=>.pure ()).bind fun x=>(mk (gZ .i64 x0 0) ((0,0,0,()),0,())).bind fun zs=>(sub zs 0 0).bind fun ys=>j ys else j []) fun (j:Unit->Comp A12)=>if ltI x0 0=true then Comp.fail else j ()
def zM:List A3->Comp A12:=fun x0=>(Comp.loop (fun (x:A34)=>if ltI x.2 (zD x0)=true then (idx x0 x.2).bind fun a=>jn (fun (b:Unit)=>.pure (.next (zH .i64 x.1 (zD a),zH .i64 x.2 1))) fun (j:Unit->Comp (Comp.Step A34 Int))=>if ltI (zH .i64 x.1 (zD a)) 0=true then Comp.fail else j () else .pure (.done x.1)) (0,0)).bind fun x=>(vt x).bind fun y=>(Comp.loop (fun (x:A35)=>if ltI x.2 (zD x0)=true then (idx x0 x.2).bind fun a=>(app x.1 a).bind fun zs=>.pure (.next (zs,zH .i64 x.2 1)) else .pure (.done x.1)) (y.1,0)).bind fun x=>.pure (x,())
def cell_of:List A3->Comp A12:=fun x0=>(zM x0).bind fun y=>(Comp.loop (fun (x:A35)=>if ltI x.2 (zD [(1,0,0,()),(-1,0,0,()),(0,1,0,()),(0, -1,0,()),(0,0,1,()),(0,0, -1,())])=true then (idx [(1,0,0,()),(-1,0,0,()),(0,1,0,()),(0, -1,0,()),(0,0,1,()),(0,0, -1,())] x.2).bind fun a=>(app x.1 [(a,24,())]).bind fun zs=>.pure (.next (zs,zH .i64 x.2 1)) else .pure (.done x.1)) (y.1,0)).bind fun x=>.pure (x,())
def vr:List A2->Comp (List A12):=fun x0=>((YA (fun (x:Int)=>if ltI x (zD x0)=true then (idx x0 x).bind fun a=>(sub x0 (zH .i64 x 1) (zD x0)).bind fun b=>(YA (fun (c:Int)=>if ltI c (zD b)=true then (idx b c).bind fun d=>(sub x0 (zH .i64 (zH .i64 x c) 2) (zD x0)).bind fun x=>(YA (fun (e:Int)=>if ltI e (zD x)=true then (idx x e).bind fun x=>tell [([a,d,x],())] (Comp.pure ([],.next (zH .i64 e 1))) else .pure ([],.done (Sum.inl ()))) 0).bind fun (p:List A12×(Unit⊕Unit))=>tell p.1 (match p.2 with
              |.inl x=>.pure ([],.next (zH .i64 c 1))
              |.inr x=>.pure ([],.done (Sum.inr ()))) else .pure ([],.done (Sum.inl ()))) 0).bind fun (p:List A12×(Unit⊕Unit))=>tell p.1 (match p.2 with
         |.inl c=>.pure ([],.next (zH .i64 x 1))
         |.inr x=>.pure ([],.done (Sum.inr ()))) else .pure ([],.done (Sum.inl ()))) 0).bind fun (p:List A12×(Unit⊕Unit))=>tell p.1 (match p.2 with
    |.inl x=>.pure ([],())
    |.inr x=>.pure ([],()))).bind fun (p:List A12×Unit)=>.pure p.1
def j8:List A2->Comp (Comp (List A12)×Unit):=fun x0=>.pure (vr x0,())
def Zk:Int×Int×Int×Unit->Int×Int×Int×Unit->Comp A33:=fun x0 x1=>.pure ((gZ .i64 (kY .i64 x0.2.1 x1.2.2.1) (kY .i64 x0.2.2.1 x1.2.1),gZ .i64 (kY .i64 x0.2.2.1 x1.1) (kY .i64 x0.1 x1.2.2.1),gZ .i64 (kY .i64 x0.1 x1.2.1) (kY .i64 x0.2.1 x1.1),()),())
def Zb:Int×Int×Int×Unit->Int×Int×Int×Unit->Comp A11:=fun x0 x1=>.pure (zH .i64 (zH .i64 (kY .i64 x0.1 x1.1) (kY .i64 x0.2.1 x1.2.1)) (kY .i64 x0.2.2.1 x1.2.2.1),())
def Yc:Int×Int×Int×Unit->Int->Comp A33:=fun x0 x1=>.pure ((kY .i64 x0.1 x1,kY .i64 x0.2.1 x1,kY .i64 x0.2.2.1 x1,()),())
def XM:Int×Int×Int×Unit->Int×Int×Int×Unit->Comp A33:=fun x0 x1=>.pure ((zH .i64 x0.1 x1.1,zH .i64 x0.2.1 x1.2.1,zH .i64 x0.2.2.1 x1.2.2.1,()),())
def Ki:List Int->Comp A11:=fun x0=>(Comp.loop (fun (x:A34)=>if ltI x.2 (zD x0)=true then (idx x0 x.2).bind fun a=>(Comp.loop (fun (x:A34)=>if neI x.2 0=true then (rem x.1 x.2).bind fun b=>.pure (.next (x.2,b)) else .pure (.done x.1)) (x.1,a)).bind fun b=>.pure (.next (b,zH .i64 x.2 1)) else .pure (.done x.1)) (0,0)).bind fun x=>.pure (rv x (Yp .i64 x),())
def XO:List A2->Comp (A8×Bool×Unit):=fun x0=>(Comp.loop (fun (x:Int×Int×Int×Int×Int×Unit)=>if ltI x.2.1 3=true then (idx x0 x.2.1).bind fun a=>(rem (zH .i64 x.2.1 1) 3).bind fun b=>(idx x0 b).bind fun c=>(rem (zH .i64 x.2.1 2) 3).bind fun d=>(idx x0 d).bind fun e=>(Zk c.1 e.1).bind fun f=>(Zb a.1 f.1).bind fun g=>(Yc f.1 a.2.1).bind fun h=>(XM x.2.2 h.1).bind fun i=>.pure (.next (g.1,zH .i64 x.2.1 1,i.1)) else .pure (.done (x.1,x.2.2))) (0,0,0,0,0,())).bind fun x=>if eqI x.1 0=true then .pure ((0,0,0,0,()),false,()) else (Ki [x.2.1,x.2.2.1,x.2.2.2.1,x.1]).bind fun a=>jn (fun (b:Int)=>(quo .i64 x.2.1 b).bind fun c=>(quo .i64 x.2.2.1 b).bind fun d=>(quo .i64 x.2.2.2.1 b).bind fun e=>(quo .i64 x.1 b).bind fun x=>.pure ((c,d,e,x,()),true,())) fun (j:Int->Comp (A8×Bool×Unit))=>if ltI x.1 0=true then j (Yp .i64 a.1) else j a.1
def Ze:A1×Int×Unit->Int×Int×Int×Int×Unit->Comp A11:=fun x0 x1=>(Zb x0.1 (x1.1,x1.2.1,x1.2.2.1,())).bind fun x=>.pure (gZ .i64 (kY .i64 x0.2.1 x1.2.2.2.1) x.1,())
def jo:A1×Int×Unit->Int×Int×Int×Int×Unit->Comp A9:=fun x0 x1=>(Ze x0 x1).bind fun x=>.pure (ltI x.1 0,())
def Zo:List A2->Int×Int×Int×Int×Unit->Comp A9:=fun x0 x1=>(zY x0 fun (z:A2×Unit)=>jo z.1 x1).bind fun x=>.pure (ntB x.1,())
def vk:List A2->Comp A42:=fun x0=>(j8 x0).bind fun (x:Comp (List A12)×Unit)=>x.1.bind fun xs=>(wC (fun (x:List A8×List (A8×Bool)) (d:A12)=>(XO d.1).bind fun a=>(Comp.gd (sel a.2.1 (ntB (match mgB (fun (x b:A8)=>adB (eqI x.1 b.1) (adB (eqI x.2.1 b.2.1) (adB (eqI x.2.2.1 b.2.2.1) (eqI x.2.2.2.1 b.2.2.2.1)))) x.2 a.1 with
          |some x=>x
          |none=>false)) false) (Zo x0 a.1) (false,())).bind fun b=>jn (fun (x:List A8×List (A8×Bool))=>.pure (.next (x.1,x.2))) fun (j:List A8×List (A8×Bool)->Comp (Comp.Step (List A8×List (A8×Bool)) Empty))=>if sel (sel a.2.1 (ntB (match mgB (fun (x c:A8)=>adB (eqI x.1 c.1) (adB (eqI x.2.1 c.2.1) (adB (eqI x.2.2.1 c.2.2.1) (eqI x.2.2.2.1 c.2.2.2.1)))) x.2 a.1 with
             |some x=>x
             |none=>false)) false) b.1 false=true then (app x.1 [a.1]).bind fun zs=>j (zs,mpB (fun (x c:A8)=>adB (eqI x.1 c.1) (adB (eqI x.2.1 c.2.1) (adB (eqI x.2.2.1 c.2.2.1) (eqI x.2.2.2.1 c.2.2.2.1)))) x.2 a.1 true) else j (x.1,x.2)) xs ([],[])).bind fun (r:Comp.Step (List A8×List (A8×Bool)) Empty)=>match r with
     |.next x=>.pure (x.1,())
     |.done e=>nomatch e
def yq:Int×Int×Int×Int×Unit->A1×Int×Unit->Comp A9:=fun x0 x1=>(Ze x1 x0).bind fun x=>.pure (gtI x.1 0,())
def vh:List A8->(A8×Unit->Comp A9)->Comp A11:=fun x0 x1=>(Comp.loop (fun (x:Int)=>if ltI x (zD x0)=true then (idx x0 x).bind fun a=>(x1 (a,())).bind fun b=>if b.1=true then .pure (.done (Sum.inr x)) else .pure (.next (zH .i64 x 1)) else .pure (.done (Sum.inl ()))) 0).bind fun (x:A29)=>match x with
   |.inl x=>.pure (-1,())
   |.inr x=>.pure (x,())
def yP:List A8->(A8×Unit->Comp A9)->Comp A9:=fun x0 x1=>(vh x0 x1).bind fun x=>.pure (geI x.1 0,())
def y7:A1×Int×Unit->List A8->Comp A9:=fun x0 x1=>(yP x1 fun (z:A8×Unit)=>yq z.1 x0).bind fun x=>.pure (ntB x.1,())
def vR:List A2->A31->Comp A11:=fun x0 x1=>(Comp.loop (fun (x:Int)=>if ltI x (zD x0)=true then (idx x0 x).bind fun a=>(x1 (a,())).bind fun b=>if b.1=true then .pure (.done (Sum.inr x)) else .pure (.next (zH .i64 x 1)) else .pure (.done (Sum.inl ()))) 0).bind fun (x:A29)=>match x with
   |.inl x=>.pure (-1,())
   |.inr x=>.pure (x,())
def yH:List A2->A31->Comp A9:=fun x0 x1=>(vR x0 x1).bind fun x=>.pure (geI x.1 0,())
def gw:List A2->Comp A9:=fun x0=>(vk x0).bind fun y=>(yH x0 fun (z:A2×Unit)=>y7 z.1 y.1).bind fun x=>.pure (ntB x.1,())
def j5:List A2->Comp A9:=fun x0=>jn (fun (x:Bool)=>.pure (x,())) fun (j:Bool->Comp A9)=>(ZY [x0]).bind fun x=>if x.1=true then (cell_of [x0]).bind fun y=>(gw y.1).bind fun x=>j x.1 else j false
def jv:List A2->List A2->Comp A9:=fun x0 x1=>jn (fun (x:Bool)=>.pure (x,())) fun (j:Bool->Comp A9)=>(ZY [x0,x1]).bind fun x=>if ntB (ntB x.1)=true then (cell_of [x0,x1]).bind fun y=>(gw y.1).bind fun x=>j (ntB x.1) else j true
def ji:List A2->List A2->Comp A9:=fun x0 x1=>(jv x1 x0).bind fun x=>.pure (ntB x.1,())
def vD:List A2->List A3->Comp A9:=fun x0 x1=>(zG x1 fun (z:A12)=>ji z.1 x0).bind fun x=>.pure (ntB x.1,())
def Zh:y8×List A3×List Int×Unit->Comp A11:=fun x0=>if sel (eqI (zD x0.2.1) 0) true (gtI (zD x0.2.1) 16)=true then .pure (2,()) else (Comp.gd (ntB (neI (zD x0.2.2.1) (zD x0.2.1))) (zl x0.2.2.1 fun (z:A11)=>gD z.1) (false,())).bind fun x=>if sel (neI (zD x0.2.2.1) (zD x0.2.1)) true x.1=true then .pure (1,()) else (Comp.loop (fun (x:Int)=>if ltI x (zD x0.2.1)=true then (idx x0.2.1 x).bind fun a=>(j5 a).bind fun b=>(Comp.gd (ntB (ntB b.1)) (sub x0.2.1 0 x) []).bind fun c=>(Comp.gd (ntB (ntB b.1)) (vD a c) (false,())).bind fun d=>if sel (ntB b.1) true (ntB d.1)=true then .pure (.done (Sum.inr 13)) else .pure (.next (zH .i64 x 1)) else .pure (.done (Sum.inl ()))) 0).bind fun (x:A29)=>match x with
      |.inl x=>.pure (0,())
      |.inr x=>.pure (x,())
def j3:List A2->Comp A9:=fun x0=>(vn x0).bind fun x=>.pure (neI x.1 0,())
def JO:y8×List A3×List Int×Unit->List Bool×List Bool×List A3×Unit->Comp A9:=fun x0 x1=>(Comp.gd (sel (sel (eqI (zD x1.1) (zD x0.2.1)) (eqI (zD x1.2.1) (zD x0.2.1)) false) (leI (zD x1.2.2.1) 24) false) (zG x1.2.2.1 fun (z:A12)=>j3 z.1) (false,())).bind fun x=>.pure (sel (sel (sel (eqI (zD x1.1) (zD x0.2.1)) (eqI (zD x1.2.1) (zD x0.2.1)) false) (leI (zD x1.2.2.1) 24) false) (ntB x.1) false,())
def vu:Int->Comp A19:=fun x0=>jn (fun (x:Unit)=>jn (fun (x:A18)=>.pure (x,())) fun (j:List A3->Comp A19)=>if gtI (gZ .i64 x0 0) 0=true then jn (fun (x:A18)=>j x) fun (j:List A3->Comp A19)=>((sub [] 0 0).bind fun (x:List Unit)=>.pure ()).bind fun x=>(mk (gZ .i64 x0 0) []).bind fun zs=>(sub zs 0 0).bind fun ys=>j ys else j []) fun (j:Unit->Comp A19)=>if ltI x0 0=true then Comp.fail else j ()
def zW:List A18->Comp A19:=fun x0=>(Comp.loop (fun (x:A34)=>if ltI x.2 (zD x0)=true then (idx x0 x.2).bind fun a=>jn (fun (b:Unit)=>.pure (.next (zH .i64 x.1 (zD a),zH .i64 x.2 1))) fun (j:Unit->Comp (Comp.Step A34 Int))=>if ltI (zH .i64 x.1 (zD a)) 0=true then Comp.fail else j () else .pure (.done x.1)) (0,0)).bind fun x=>(vu x).bind fun y=>(Comp.loop (fun (x:A21)=>if ltI x.2 (zD x0)=true then (idx x0 x.2).bind fun a=>(app x.1 a).bind fun zs=>.pure (.next (zs,zH .i64 x.2 1)) else .pure (.done x.1)) (y.1,0)).bind fun x=>.pure (x,())
def jm:List Int->Comp A9:=fun x0=>(Comp.loop (fun (x:Int)=>if ltI x (zD x0)=true then (idx x0 x).bind fun a=>(idx x0 (gZ .i64 x 1)).bind fun b=>if leI a b=true then .pure (.done (Sum.inr false)) else .pure (.next (zH .i64 x 1)) else .pure (.done (Sum.inl ()))) 1).bind fun (x:A22)=>match x with
   |.inl x=>.pure (true,())
   |.inr x=>.pure (x,())
def Zl:List A4->Int->Comp A11:=fun x0 x1=>(idx x0 x1).bind fun x=>(zW [x.1,x.2.1]).bind fun y=>(Comp.loop (fun (a:Int)=>if ltI a (zD y.1)=true then (idx y.1 a).bind fun x=>(vn x).bind fun x=>if neI x.1 0=true then .pure (.done (Sum.inr x.1)) else .pure (.next (zH .i64 a 1)) else .pure (.done (Sum.inl ()))) 0).bind fun (a:A29)=>match a with
     |.inl b=>if sel (ltI x.2.2.1 1) true (gtI x.2.2.1 1048576)=true then .pure (3,()) else (Comp.loop (fun (c:Int)=>if ltI c (zD x.2.2.2.1)=true then (idx x.2.2.2.1 c).bind fun d=>if sel (sel (ltI d 0) true (geI d (zD x0))) true (eqI d x1)=true then .pure (.done (Sum.inr 3)) else .pure (.next (zH .i64 c 1)) else .pure (.done (Sum.inl ()))) 0).bind fun (c:A29)=>match c with
        |.inl d=>(jm x.2.2.2.1).bind fun x=>if ntB x.1=true then .pure (7,()) else .pure (0,())
        |.inr x=>.pure (x,())
     |.inr x=>.pure (x,())
def kW:A7×A5×List A4×Unit->Comp A11:=fun x0=>(Zh x0.1).bind fun x=>if neI x.1 0=true then .pure (x.1,()) else (JO x0.1 x0.2.1).bind fun x=>if ntB x.1=true then .pure (4,()) else if gtI (zD x0.2.2.1) 8=true then .pure (2,()) else (Comp.loop (fun (x:A34)=>if ltI x.2 (zD x0.2.2.1)=true then (idx x0.2.2.1 x.2).bind fun a=>(Zl x0.2.2.1 x.2).bind fun b=>if neI b.1 0=true then .pure (.done (Sum.inr b.1)) else .pure (.next (zH .i64 x.1 (zD a.1),zH .i64 x.2 1)) else .pure (.done (Sum.inl x.1))) (zD x0.2.1.2.2.1,0)).bind fun (x:Int⊕Int)=>match x with
        |.inl x=>if gtI x 24=true then .pure (2,()) else .pure (0,())
        |.inr x=>.pure (x,())
def YN:A7×A5×List A4×Unit->List Int->Comp (List Bool×Bool×Unit):=fun x0 x1=>(Comp.loop (fun (x:Int×List Bool)=>if ltI x.1 (zD x1)=true then (idx x1 x.1).bind fun a=>if sel (ltI a 0) true (geI a (zD x0.2.2.1))=true then .pure (.done (Sum.inr (false,[false,false,false,false,false,false,false,false]))) else (inb 8 a).bind fun b=>.pure (.next (zH .i64 x.1 1,gz x.2 a true)) else .pure (.done (Sum.inl x.2))) (0,[false,false,false,false,false,false,false,false])).bind fun (x:List Bool⊕Bool×List Bool)=>match x with
   |.inl x=>(jm x1).bind fun a=>.pure (x,a.1,())
   |.inr x=>.pure (x.2,x.1,())
def vy:List A2->List A3->Comp A9:=fun x0 x1=>(vD x0 x1).bind fun x=>.pure (ntB x.1,())
def kV:A7×A5×List A4×Unit->Comp ((A16×List Bool×Unit)×Unit):=fun x0=>(Comp.loop (fun (x:Int×List A3)=>if ltI x.1 (zD x0.1.2.1)=true then (idx x0.1.2.1 x.1).bind fun a=>(idx x0.1.2.2.1 x.1).bind fun b=>jn (fun (c:A18)=>.pure (.next (zH .i64 x.1 1,c))) fun (j:List A3->Comp (Comp.Step (Int×List A3) A18))=>if eqI b 1=true then (app x.2 [a]).bind fun zs=>j zs else j x.2 else .pure (.done x.2)) (0,[])).bind fun x=>(Comp.loop (fun (a:Int×A13×List Bool×Unit)=>if ltI a.1 (zD x0.2.2.1)=true then (idx x0.2.2.1 a.1).bind fun b=>(zG b.1 fun (z:A12)=>vy z.1 x).bind fun c=>(Comp.gd (ntB c.1) (zG b.2.1 fun (z:A12)=>vy z.1 x) (false,())).bind fun x=>(inb 8 a.1).bind fun d=>.pure (.next (zH .i64 a.1 1,a.2.1,gz a.2.2.1 a.1 (sel c.1 true x.1),())) else .pure (.done a.2)) (0,x0,[false,false,false,false,false,false,false,false],())).bind fun x=>.pure (x,())
def vw:List Bool->Comp A27:=fun x0=>(Comp.loop (fun (x:A47)=>if ltI x.2 8=true then (idx x0 x.2).bind fun a=>jn (fun (b:A14)=>.pure (.next (b,zH .i64 x.2 1))) fun (j:List Int->Comp (Comp.Step A47 A14))=>if a=true then (app x.1 [x.2]).bind fun zs=>j zs else j x.1 else .pure (.done x.1)) ([],0)).bind fun x=>.pure (x,())
def yr:Int->List Bool->Comp A9:=fun x0 x1=>(idx x1 x0).bind fun x=>.pure (ntB x,())
def jl:A16×List Bool×Unit->List Bool->Comp A39:=fun x0 x1=>(Comp.loop (fun (x:Int×List Bool)=>if ltI x.1 (zD x0.1.2.2.1)=true then (idx x1 x.1).bind fun a=>(Comp.gd (ntB a) (idx x0.2.1 x.1) false).bind fun b=>(inb 8 x.1).bind fun c=>.pure (.next (zH .i64 x.1 1,gz x.2 x.1 (sel (ntB a) (ntB b) false))) else .pure (.done x.2)) (0,[false,false,false,false,false,false,false,false])).bind fun x=>(Comp.loop (fun (a:List Bool×List Bool)=>if ntB (eqA (fun (x b:Bool)=>eqB x b) a.1 a.2)=true then (vw a.2).bind fun y=>(Comp.loop (fun (b:Int×List Bool)=>if ltI b.1 (zD y.1)=true then (idx y.1 b.1).bind fun x=>(idx x0.1.2.2.1 x).bind fun c=>(zl c.2.2.2.1 fun (z:A11)=>yr z.1 b.2).bind fun d=>(inb 8 x).bind fun e=>.pure (.next (zH .i64 b.1 1,gz b.2 x (ntB d.1))) else .pure (.done b.2)) (0,a.2)).bind fun x=>.pure (.next (a.2,x)) else .pure (.done a.2)) ([false,false,false,false,false,false,false,false],x)).bind fun x=>.pure (x,())
def vZ:A16×List Bool×Unit->List Bool->Comp A9:=fun x0 x1=>(Comp.loop (fun (x:Int×List Bool)=>if ltI x.1 (zD x0.1.2.2.1)=true then (idx x1 x.1).bind fun a=>(inb 8 x.1).bind fun b=>.pure (.next (zH .i64 x.1 1,gz x.2 x.1 (ntB a))) else .pure (.done x.2)) (0,[false,false,false,false,false,false,false,false])).bind fun x=>(jl x0 x).bind fun x=>.pure (eqA (fun (x a:Bool)=>eqB x a) x.1 x1,())
def zU:A7×A5×List A4×Unit->List Int->Comp A9:=fun x0 x1=>(kW x0).bind fun x=>if neI x.1 0=true then .pure (false,()) else (YN x0 x1).bind fun x=>(Comp.gd x.2.1 (kV x0) (((([],[],[],()),([],[],[],()),[],()),[],()),())).bind fun (a:(A13×List Bool×Unit)×Unit)=>(Comp.gd x.2.1 (vZ a.1 x.1) (false,())).bind fun b=>.pure (sel x.2.1 b.1 false,())
def gU:Comp (A16×Unit):=y6.bind fun y=>(inb y.1.2.2.1.length 1).bind fun x=>(idx y.1.2.2.1 1).bind fun (z:A4)=>.pure ((y.1.1,y.1.2.1,gz y.1.2.2.1 1 (z.1,z.2.1,z.2.2.1,[2],z.2.2.2.2),()),())
def zh:List A3->Comp A19:=fun x0=>amb (uN x0) (Comp.pure ([],())) ((app [] x0).bind fun zs=>.pure (zs,()))
def yy:List A2->List A2->Comp A9:=fun x0 x1=>(jv x0 x1).bind fun x=>.pure (x.1,())
def zn:List A3->A38->Comp A18:=fun xs x0=>(yL xs x0).bind fun x=>if eqI x.1 (-1)=true then .pure xs else (Comp.loop (fun (x:List A3×Int×Int)=>if ltI x.2.2 (zD x.1)=true then (idx x.1 x.2.2).bind fun a=>(x0 (a,())).bind fun b=>jn (fun (c:A21)=>.pure (.next (c.1,c.2,zH .i64 x.2.2 1))) fun (j:List A3×Int->Comp (Comp.Step (List A3×Int×Int) A21))=>if ntB b.1=true then (inb x.1.length x.2.1).bind fun c=>j (gz x.1 x.2.1 a,zH .i64 x.2.1 1) else j (x.1,x.2.1) else .pure (.done (x.1,x.2.1))) (xs,x.1,zH .i64 x.1 1)).bind fun x=>((sub x.1 x.2 (zD x.1)).bind fun x=>.pure ()).bind fun a=>(sub x.1 (Int.ofNat x.2.toNat) (zD x.1)).bind fun b=>jn (fun (x:A18)=>.pure x) fun (j:List A3->Comp A18)=>(sub (List.take x.2.toNat x.1++List.replicate (x.1.length.sub x.2.toNat) []) 0 x.2).bind fun ys=>j ys
def Yu:List A3->Comp A11:=fun x0=>if gtI (zD x0) 16=true then .pure (2,()) else (Comp.loop (fun (x:Int)=>if ltI x (zD x0)=true then (idx x0 x).bind fun a=>(vn a).bind fun b=>if neI b.1 0=true then .pure (.done (Sum.inr b.1)) else .pure (.next (zH .i64 x 1)) else .pure (.done (Sum.inl ()))) 0).bind fun (x:A29)=>match x with
    |.inl x=>.pure (0,())
    |.inr x=>.pure (x,())
def Yz:List A2->Comp A42:=fun x0=>(ZY [x0]).bind fun x=>if ntB x.1=true then .pure ([],()) else (cell_of [x0]).bind fun y=>(vk y.1).bind fun y=>.pure (y.1,())
def zZ:List A2->Comp A12:=fun x0=>amb (uN x0) (Comp.pure ([],())) ((app [] x0).bind fun zs=>.pure (zs,()))
def j4:A1×Int×Unit->List A8->Comp A9:=fun x0 x1=>(Comp.loop (fun (x:A34)=>if ltI x.2 (zD x1)=true then (idx x1 x.2).bind fun a=>(Ze x0 a).bind fun b=>jn (fun (c:Int)=>.pure (.next (c,zH .i64 x.2 1))) fun (j:Int->Comp (Comp.Step A34 Int))=>if eqI b.1 0=true then j (zH .i64 x.1 1) else j x.1 else .pure (.done x.1)) (0,0)).bind fun x=>.pure (ltI x 3,())
def yG:List A2->A31->Comp A3:=fun xs x0=>(yK xs x0).bind fun x=>if eqI x.1 (-1)=true then .pure xs else (Comp.loop (fun (x:List A2×Int×Int)=>if ltI x.2.2 (zD x.1)=true then (idx x.1 x.2.2).bind fun a=>(x0 (a,())).bind fun b=>jn (fun (c:A35)=>.pure (.next (c.1,c.2,zH .i64 x.2.2 1))) fun (j:List A2×Int->Comp (Comp.Step (List A2×Int×Int) A35))=>if ntB b.1=true then (inb x.1.length x.2.1).bind fun c=>j (gz x.1 x.2.1 a,zH .i64 x.2.1 1) else j (x.1,x.2.1) else .pure (.done (x.1,x.2.1))) (xs,x.1,zH .i64 x.1 1)).bind fun x=>((sub x.1 x.2 (zD x.1)).bind fun x=>.pure ()).bind fun a=>(sub x.1 (Int.ofNat x.2.toNat) (zD x.1)).bind fun b=>jn (fun (x:A3)=>.pure x) fun (j:List A2->Comp A3)=>(sub (List.take x.2.toNat x.1++List.replicate (x.1.length.sub x.2.toNat) ((0,0,0,()),0,())) 0 x.2).bind fun ys=>j ys
def yA:List A2->(A2×A2×Unit->Comp A11)->Comp A3:=Ct
def Zj:Int->Int->Comp A11:=fun x0 x1=>if ltI x0 x1=true then .pure (-1,()) else if gtI x0 x1=true then .pure (1,()) else .pure (0,())
def kG:A1×Int×Unit->A1×Int×Unit->Comp A11:=fun x0 x1=>(Comp.loop (fun (x:A34)=>if ltI x.2 (zD [[x0.1.1,x1.1.1],[x0.1.2.1,x1.1.2.1],[x0.1.2.2.1,x1.1.2.2.1],[x0.2.1,x1.2.1]])=true then (idx [[x0.1.1,x1.1.1],[x0.1.2.1,x1.1.2.1],[x0.1.2.2.1,x1.1.2.2.1],[x0.2.1,x1.2.1]] x.2).bind fun a=>(idx a 0).bind fun b=>(idx a 1).bind fun c=>(Zj b c).bind fun d=>if eqI d.1 0=true then .pure (.next (d.1,zH .i64 x.2 1)) else .pure (.done d.1) else .pure (.done x.1)) (0,0)).bind fun x=>.pure (x,())
def yB:List A2->Comp A3:=fun xs=>if ltI (zD xs) 2=true then .pure xs else (Comp.loop (fun (x:A35)=>if ltI x.2 (zD x.1)=true then (idx x.1 x.2).bind fun a=>(idx x.1 (gZ .i64 x.2 1)).bind fun b=>if adB (adB (eqI a.1.1 b.1.1) (adB (eqI a.1.2.1 b.1.2.1) (eqI a.1.2.2.1 b.1.2.2.1))) (eqI a.2.1 b.2.1)=true then ((sub x.1 x.2 (zD x.1)).bind fun x=>.pure ()).bind fun c=>(Comp.loop (fun (d:List A2×Int×Int)=>if ltI d.2.2 (zD (List.drop x.2.toNat d.1))=true then (idx (List.drop x.2.toNat d.1) d.2.2).bind fun e=>(idx (List.drop x.2.toNat d.1) (gZ .i64 d.2.2 1)).bind fun f=>jn (fun (x:A35)=>.pure (.next (x.1,x.2,zH .i64 d.2.2 1))) fun (j:List A2×Int->Comp (Comp.Step (List A2×Int×Int) A35))=>if ntB (adB (adB (eqI e.1.1 f.1.1) (adB (eqI e.1.2.1 f.1.2.1) (eqI e.1.2.2.1 f.1.2.2.1))) (eqI e.2.1 f.2.1))=true then (idx (List.drop x.2.toNat d.1) d.2.2).bind fun x=>(inb d.1.length d.2.1).bind fun g=>j (gz d.1 d.2.1 x,zH .i64 d.2.1 1) else j (d.1,d.2.1) else .pure (.done (d.1,d.2.1))) (x.1,x.2,1)).bind fun x=>((sub x.1 x.2 (zD x.1)).bind fun x=>.pure ()).bind fun d=>(sub x.1 (Int.ofNat x.2.toNat) (zD x.1)).bind fun e=>jn (fun (x:A3)=>.pure (.done (Sum.inr x))) fun (j:List A2->Comp (Comp.Step A35 (List A2⊕List A2)))=>(sub (List.take x.2.toNat x.1++List.replicate (x.1.length.sub x.2.toNat) ((0,0,0,()),0,())) 0 x.2).bind fun ys=>j ys else .pure (.next (x.1,zH .i64 x.2 1)) else .pure (.done (Sum.inl x.1))) (xs,1)).bind fun (x:List A2⊕List A2)=>match x with
    |.inl x=>.pure x
    |.inr x=>.pure x
def gX:List A2->Comp A12:=fun x0=>(j5 x0).bind fun x=>if ntB x.1=true then .pure ([],()) else (Yz x0).bind fun y=>(zZ x0).bind fun y_1=>(yG y_1.1 fun (z:A2×Unit)=>j4 z.1 y.1).bind fun ys=>(yA ys fun (z:A2×A2×Unit)=>kG z.1 z.2.1).bind fun ys=>(yB ys).bind fun ys=>.pure (ys,())
def wP:Int×Int×Int×Unit->Int×Int×Int×Unit->Comp A33:=fun x0 x1=>.pure ((gZ .i64 x0.1 x1.1,gZ .i64 x0.2.1 x1.2.1,gZ .i64 x0.2.2.1 x1.2.2.1,()),())
def YX:A1×Int×Unit->Comp (A2×Unit):=fun x0=>(wP (0,0,0,()) x0.1).bind fun x=>.pure ((x.1,Yp .i64 x0.2.1,()),())
def jh:List A2->List A2->Comp (List A46):=fun x0 x1=>((YA (fun (x:A35)=>if ltI x.2 (zD x1)=true then (idx x1 x.2).bind fun a=>if geI (zD x.1) 48=true then tell [(none,())] (Comp.pure ([],.done (Sum.inr ()))) else (YX a).bind fun b=>(zM [x.1,[b.1]]).bind fun y=>(gX y.1).bind fun y_1=>if gtI (zD y_1.1) 0=true then tell [(some y_1.1,())] ((zM [x.1,[a]]).bind fun y=>(gX y.1).bind fun y=>.pure ([],.next (y.1,zH .i64 x.2 1))) else (zM [x.1,[a]]).bind fun y=>(gX y.1).bind fun y=>.pure ([],.next (y.1,zH .i64 x.2 1)) else .pure ([],.done (Sum.inl ()))) (x0,0)).bind fun (p:List A46×(Unit⊕Unit))=>tell p.1 (match p.2 with
    |.inl x=>.pure ([],())
    |.inr x=>.pure ([],()))).bind fun (p:List A46×Unit)=>.pure p.1
def Zi:List A2->List A2->Comp (Comp (List A46)×Unit):=fun x0 x1=>.pure (jh x0 x1,())
def kF:List A3->List A2->Comp A24:=fun x0 x1=>(j5 x1).bind fun x=>if ntB x.1=true then .pure (x0,0,()) else (gX x1).bind fun y=>(Comp.loop (fun (x:Int×List A3×Int×List A3)=>if ltI x.1 (zD x0)=true then jn (fun (a:List A3×Int×List A3)=>.pure (.next (zH .i64 x.1 1,a.1,a.2.1,a.2.2))) fun (j:List A3×Int×List A3->Comp (Comp.Step (Int×List A3×Int×List A3) (List A3×Int×List A3⊕List A3×Int)))=>(idx x0 x.1).bind fun a=>(jv a x1).bind fun b=>if b.1=true then (app x.2.2.2 [a]).bind fun zs=>j (x.2.1,x.2.2.1,zs) else (Zi a y.1).bind fun (c:Comp (List A46)×Unit)=>c.1.bind fun xs=>(wC (fun (x:List A3×Int×List A3) (d:A46)=>match d.1 with
                |none=>.pure (.done ([],Int.ofNat 9))
                |some xs=>amb (uN xs) (Comp.pure (.done ([],Int.ofNat 9))) ((app x.2.2 [xs]).bind fun zs=>.pure (.next (x.1,x.2.1,zs)))) xs (x.2.1,x.2.2.1,x.2.2.2)).bind fun (r:Comp.Step (List A3×Int×List A3) A21)=>match r with
               |.next x=>j (x.1,x.2.1,x.2.2)
               |.done e=>.pure (.done (Sum.inr (e.1,e.2))) else .pure (.done (Sum.inl (x.2.1,x.2.2.1,x.2.2.2)))) (0,[],0,[])).bind fun (a:List A3×Int×List A3⊕List A3×Int)=>match a with
      |.inl b=>if gtI (zD b.2.2) 200=true then .pure ([],9,()) else .pure (b.2.2,0,())
      |.inr x=>.pure (x.1,x.2,())
def Ys:List A2->List A3->Comp A24:=fun x0 x1=>(vn x0).bind fun x=>if neI x.1 0=true then .pure ([],x.1,()) else (Yu x1).bind fun x=>if neI x.1 0=true then .pure ([],x.1,()) else (j5 x0).bind fun x=>if ntB x.1=true then .pure ([],0,()) else (gX x0).bind fun y=>(Comp.loop (fun (x:A21)=>if ltI x.2 (zD x1)=true then (idx x1 x.2).bind fun a=>(kF x.1 a).bind fun b=>if neI b.2.1 0=true then .pure (.done (Sum.inr ([],b.2.1))) else .pure (.next (b.1,zH .i64 x.2 1)) else .pure (.done (Sum.inl x.1))) ([y.1],0)).bind fun (x:A40)=>match x with
          |.inl x=>.pure (x,0,())
          |.inr x=>.pure (x.1,x.2,())
def gV:List A3->List A2->Comp A20:=fun x0 x1=>(Ys x1 x0).bind fun x=>.pure (sel (eqI x.2.1 0) (eqI (zD x.1) 0) false,x.2.1,())
def vJ:A16×List Bool×Unit->List Bool->Comp A20:=fun x0 x1=>(zh x0.1.2.1.2.2.1).bind fun y=>(vw x1).bind fun y_1=>(Comp.loop (fun (x:A21)=>if ltI x.2 (zD y_1.1)=true then (idx y_1.1 x.2).bind fun a=>(idx x0.1.2.2.1 a).bind fun b=>(app x.1 b.1).bind fun zs=>.pure (.next (zs,zH .i64 x.2 1)) else .pure (.done x.1)) (y.1,0)).bind fun x=>(Comp.loop (fun (a:Int)=>if ltI a (zD x0.1.1.2.1)=true then jn (fun (x:Unit)=>.pure (.next (zH .i64 a 1))) fun (j:Unit->Comp (Comp.Step Int (Unit⊕Bool×Int)))=>(idx x0.1.1.2.1 a).bind fun b=>(idx x0.1.1.2.2.1 a).bind fun c=>(Comp.gd (ntB (neI c 2)) (idx x0.1.2.1.1 a) false).bind fun d=>if sel (neI c 2) true d=true then j () else (zh x).bind fun y=>(zn y.1 fun (z:A12)=>yy z.1 b).bind fun ys=>(gV ys b).bind fun x=>if ntB x.1=true then .pure (.done (Sum.inr (false,x.2.1))) else j () else .pure (.done (Sum.inl ()))) 0).bind fun (x:Unit⊕Bool×Int)=>match x with
      |.inl x=>.pure (true,0,())
      |.inr x=>.pure (x.1,x.2,())
def yF:A7×A5×List A4×Unit->List Int->Comp A20:=fun x0 x1=>(kW x0).bind fun x=>if neI x.1 0=true then .pure (false,x.1,()) else (YN x0 x1).bind fun x=>if ntB x.2.1=true then .pure (false,1,()) else (vJ (x0,[false,false,false,false,false,false,false,false],()) x.1).bind fun x=>.pure (x.1,x.2.1,())
def yD:A7×A5×List A4×Unit->Bool->List Int->Comp A9:=fun x0 x1 x2=>(yF x0 x2).bind fun x=>.pure (sel (eqI x.2.1 0) (eqB x.1 x1) false,())
def vX:A16×List Bool×Unit->List Bool->Comp A11:=fun x0 x1=>(vw x1).bind fun y=>(Comp.loop (fun (x:A34)=>if ltI x.2 (zD y.1)=true then (idx y.1 x.2).bind fun a=>(idx x0.1.2.2.1 a).bind fun b=>.pure (.next (zH .i64 x.1 b.2.2.1,zH .i64 x.2 1)) else .pure (.done x.1)) (0,0)).bind fun x=>.pure (x,())
def YV(recF:Int->List Bool->A16×List Bool×Unit->Int->List Bool->Comp (Sum Int (Int×List Bool×Unit))):Int->List Bool->A16×List Bool×Unit->Int->List Bool->Comp (Sum Int (Int×List Bool×Unit)):=fun x0 x1 c0 y0 y1=>(vZ c0 x1).bind fun x=>jn (fun (x:Int×List Bool)=>(Comp.loop (fun (x:Int×Int×List Bool)=>if ltI x.1 (zD c0.1.2.2.1)=true then (inb 8 x.1).bind fun a=>(recF (zH .i64 x.1 1) (gz x1 x.1 true) c0 x.2.1 x.2.2).bind fun (r:Int⊕Int×List Bool×Unit)=>match r with
          |.inl z=>.pure (.done (Sum.inr z))
          |.inr y=>.pure (.next (zH .i64 x.1 1,y.1,y.2.1)) else .pure (.done (Sum.inl (x.2.1,x.2.2)))) (x0,x.1,x.2)).bind fun (x:Int×List Bool⊕Int)=>match x with
      |.inl x=>.pure (Sum.inr (x.1,x.2,()))
      |.inr x=>.pure (Sum.inl x)) fun (j:Int×List Bool->Comp (Int⊕Int×List Bool×Unit))=>if x.1=true then (vJ c0 x1).bind fun x=>if neI x.2.1 0=true then .pure (Sum.inl x.2.1) else (vX c0 x1).bind fun a=>jn (fun (x:Int×List Bool)=>j (x.1,x.2)) fun (j:Int×List Bool->Comp (Int⊕Int×List Bool×Unit))=>if sel x.1 (sel (ltI y0 0) true (ltI a.1 y0)) false=true then j (a.1,x1) else j (y0,y1) else j (y0,y1)
def YF:Nat->Int->List Bool->A16×List Bool×Unit->Int->List Bool->Comp (Sum Int (Int×List Bool×Unit)):=UW (fun _ _ _ _ _=>Comp.fail) YV
def gK:A16×List Bool×Unit->List Bool->List Bool->Comp A9:=fun x0 x1 x2=>(jl x0 x2).bind fun x=>(vw x1).bind fun y=>(Comp.loop (fun (a:Int)=>if ltI a (zD y.1)=true then (idx y.1 a).bind fun b=>(idx x.1 b).bind fun c=>if ntB c=true then .pure (.done (Sum.inr true)) else .pure (.next (zH .i64 a 1)) else .pure (.done (Sum.inl ()))) 0).bind fun (a:A22)=>match a with
     |.inl b=>(vJ x0 x.1).bind fun x=>.pure (sel (eqI x.2.1 0) (ntB x.1) false,())
     |.inr x=>.pure (x,())
def j7(recF:Int->List Bool->List Bool->Int->A16×List Bool×Unit->List A10->Comp (Sum Unit A23)):Int->List Bool->List Bool->Int->A16×List Bool×Unit->List A10->Comp (Sum Unit A23):=fun x0 x1 x2 c0 c1 y0=>(Comp.gd (gtI c0 0) (vX c1 x1) (0,())).bind fun x=>jn (fun (x:A30)=>.pure (Sum.inr (x,()))) fun (j:List A10->Comp (Unit⊕List A10×Unit))=>if sel (gtI c0 0) (geI x.1 c0) false=true then (app y0 [(2,0,())]).bind fun zs=>j zs else (Comp.gd (ntB (geI x0 (zD c1.1.2.2.1))) (gK c1 x1 x2) (false,())).bind fun x=>jn (fun (x:A30)=>j x) fun (j:List A10->Comp (Unit⊕List A10×Unit))=>if sel (geI x0 (zD c1.1.2.2.1)) true x.1=true then (app y0 [(3,0,())]).bind fun zs=>j zs else (app y0 [(1,x0,())]).bind fun zs=>(inb 8 x0).bind fun x=>(inb 8 x0).bind fun x=>(recF (zH .i64 x0 1) (gz x1 x0 true) x2 c0 c1 zs).bind fun (r:Unit⊕List A10×Unit)=>match r with
            |.inl z=>.pure (Sum.inl z)
            |.inr y=>(recF (zH .i64 x0 1) x1 (gz x2 x0 true) c0 c1 y.1).bind fun (r:Unit⊕List A10×Unit)=>match r with
              |.inl z=>.pure (Sum.inl z)
              |.inr y=>j y.1
def jX:Nat->Int->List Bool->List Bool->Int->A16×List Bool×Unit->List A10->Comp (Sum Unit A23):=UW (fun _ _ _ _ _ _=>Comp.fail) j7
def jk:A16×List Bool×Unit->Int->Comp A23:=fun x0 x1=>(jX 40 0 [false,false,false,false,false,false,false,false] [false,false,false,false,false,false,false,false] x1 x0 []).bind fun (r:Unit⊕List A10×Unit)=>match r with
   |.inl z=>Comp.fail
   |.inr y=>.pure (y.1,())
def Zc:A7×A5×List A4×Unit->Comp A17:=fun x0=>(kW x0).bind fun x=>if neI x.1 0=true then .pure ([],0,[],x.1,()) else (kV x0).bind fun (x:(A13×List Bool×Unit)×Unit)=>(YF 40 0 [false,false,false,false,false,false,false,false] x.1 (Int.negSucc 0) [false,false,false,false,false,false,false,false]).bind fun (r:Int⊕Int×List Bool×Unit)=>match r with
      |.inl z=>jn (fun (x:A45)=>.pure (x.1,x.2.1,x.2.2.1,x.2.2.2,())) fun (j:A36)=>j ([],0,[],z)
      |.inr y=>if eqI y.1 (-1)=true then (jk x.1 (Int.ofNat 0)).bind fun y=>jn (fun (x:A45)=>.pure (x.1,x.2.1,x.2.2.1,x.2.2.2,())) fun (j:A36)=>j ([],0,y.1,Int.ofNat 60) else if eqI y.1 0=true then jn (fun (x:A45)=>.pure (x.1,x.2.1,x.2.2.1,x.2.2.2,())) fun (j:A36)=>j ([],0,[],Int.ofNat 0) else (vw y.2.1).bind fun y_1=>(jk x.1 y.1).bind fun xJ=>jn (fun (x:A45)=>.pure (x.1,x.2.1,x.2.2.1,x.2.2.2,())) fun (j:A36)=>j (y_1.1,y.1,xJ.1,Int.ofNat 0)
def ye:List Int->List Int->Comp A9:=fun x0 x1=>if neI (zD x0) (zD x1)=true then .pure (false,()) else (Comp.loop (fun (x:Int)=>if ltI x (zD x0)=true then (idx x0 x).bind fun a=>(idx x1 x).bind fun b=>if neI a b=true then .pure (.done (Sum.inr false)) else .pure (.next (zH .i64 x 1)) else .pure (.done (Sum.inl ()))) 0).bind fun (x:A22)=>match x with
    |.inl x=>.pure (true,())
    |.inr x=>.pure (x,())
def Z6(recF:List Bool->List Bool->List A10->A16×List Bool×Unit->Int->Int->Comp (Sum Unit A11)):List Bool->List Bool->List A10->A16×List Bool×Unit->Int->Int->Comp (Sum Unit A11):=fun x0 x1 c0 c1 c2 y0=>if geI y0 (zD c0)=true then .pure (Sum.inl ()) else (idx c0 y0).bind fun x=>(Comp.gd (sel (sel (eqI x.1 1) (geI x.2.1 0) false) (ltI x.2.1 (zD c1.1.2.2.1)) false) (idx x0 x.2.1) false).bind fun a=>(Comp.gd (sel (sel (sel (eqI x.1 1) (geI x.2.1 0) false) (ltI x.2.1 (zD c1.1.2.2.1)) false) (ntB a) false) (idx x1 x.2.1) false).bind fun b=>jn (fun (x:Int)=>.pure (Sum.inr (x,()))) fun (j:Int->Comp (Unit⊕Int×Unit))=>if sel (sel (sel (sel (eqI x.1 1) (geI x.2.1 0) false) (ltI x.2.1 (zD c1.1.2.2.1)) false) (ntB a) false) (ntB b) false=true then (inb 8 x.2.1).bind fun c=>(inb 8 x.2.1).bind fun d=>(recF (gz x0 x.2.1 true) x1 c0 c1 c2 (zH .i64 y0 1)).bind fun (r:Unit⊕Int×Unit)=>match r with
           |.inl z=>.pure (Sum.inl z)
           |.inr y=>(recF x0 (gz x1 x.2.1 true) c0 c1 c2 y.1).bind fun (r:Unit⊕Int×Unit)=>match r with
             |.inl z=>.pure (Sum.inl z)
             |.inr y=>j y.1 else (Comp.gd (sel (sel (eqI x.1 2) (eqI x.2.1 0) false) (gtI c2 0) false) (vX c1 x0) (0,())).bind fun c=>jn (fun (x:Unit)=>j (zH .i64 y0 1)) fun (j:Unit->Comp (Unit⊕Int×Unit))=>if sel (sel (sel (eqI x.1 2) (eqI x.2.1 0) false) (gtI c2 0) false) (geI c.1 c2) false=true then j () else (Comp.gd (sel (eqI x.1 3) (eqI x.2.1 0) false) (gK c1 x0 x1) (false,())).bind fun d=>if sel (sel (eqI x.1 3) (eqI x.2.1 0) false) d.1 false=true then j () else .pure (Sum.inl ())
def kH:Nat->List Bool->List Bool->List A10->A16×List Bool×Unit->Int->Int->Comp (Sum Unit A11):=UW (fun _ _ _ _ _ _=>Comp.fail) Z6
def zr:A7×A5×List A4×Unit->Int->List A10->Comp A9:=fun x0 x1 x2=>(kW x0).bind fun x=>if sel (neI x.1 0) true (ltI x1 0)=true then .pure (false,()) else (kV x0).bind fun (x:(A13×List Bool×Unit)×Unit)=>(kH 40 [false,false,false,false,false,false,false,false] [false,false,false,false,false,false,false,false] x2 x.1 x1 (Int.ofNat 0)).bind fun (r:Unit⊕Int×Unit)=>match r with
      |.inl z=>jn (fun (x:Bool)=>.pure (x,())) fun (j:Bool->Comp A9)=>j false
      |.inr y=>jn (fun (x:Bool)=>.pure (x,())) fun (j:Bool->Comp A9)=>j (eqI y.1 (zD x2))
def yU:A7×A5×List A4×Unit->Int->List Int->Comp A9:=fun x0 x1 x2=>(Zc x0).bind fun x=>(Comp.gd (sel (eqI x.2.2.2.1 0) (eqI x.2.1 x1) false) (ye x.1 x2) (false,())).bind fun a=>(Comp.gd (sel (sel (eqI x.2.2.2.1 0) (eqI x.2.1 x1) false) a.1 false) (zr x0 x1 x.2.2.1) (false,())).bind fun b=>.pure (sel (sel (sel (eqI x.2.2.2.1 0) (eqI x.2.1 x1) false) a.1 false) b.1 false,())
def zp:Comp A32:=.pure ((3,0,()),())
def yO:Int->Comp A32:=fun x0=>.pure ((1,x0,()),())
def yw:Comp A32:=.pure ((2,0,()),())
def jF:Comp A9:=y6.bind fun y=>jn (fun (x:Bool)=>(yF (y.1.1,y.1.2.1,y.1.2.2.1,()) [4]).bind fun a=>jn (fun (b:Bool)=>y6.bind fun y_1=>(idx y_1.1.2.2.1 0).bind fun c=>(idx y_1.1.2.2.1 3).bind fun d=>(Zc (y_1.1.1,y_1.1.2.1,[c,d],())).bind fun e=>(Comp.gd (eqI e.2.2.2.1 60) (zr (y_1.1.1,y_1.1.2.1,[c,d],()) (Int.ofNat 0) e.2.2.1) (false,())).bind fun f=>(Comp.gd (sel (eqI e.2.2.2.1 60) f.1 false) zp ((0,0,()),())).bind fun g=>(Comp.gd (sel (eqI e.2.2.2.1 60) f.1 false) (zr (y_1.1.1,y_1.1.2.1,[c,d],()) (Int.ofNat 0) [g.1]) (false,())).bind fun h=>(Comp.gd (sel (sel (eqI e.2.2.2.1 60) f.1 false) h.1 false) zp ((0,0,()),())).bind fun i=>(Comp.gd (sel (sel (eqI e.2.2.2.1 60) f.1 false) h.1 false) (zr (y.1.1,y.1.2.1,y.1.2.2.1,()) (Int.ofNat 0) [i.1]) (false,())).bind fun k=>(yO 2).bind fun l=>yw.bind fun m=>(yO 0).bind fun n=>(yO 1).bind fun o=>yw.bind fun p=>zp.bind fun q=>zp.bind fun r=>(yO 0).bind fun s=>(yO 1).bind fun u=>yw.bind fun v=>zp.bind fun w=>(yO 2).bind fun B=>yw.bind fun C=>zp.bind fun D=>match x with
                              |true=>match sel x b false with
                               |true=>match sel (sel x b false) (sel (sel (sel (eqI e.2.2.2.1 60) f.1 false) h.1 false) (ntB k.1) false) false with
                                |true=>(zr (y.1.1,y.1.2.1,y.1.2.2.1,()) (Int.ofNat 7) [l.1,m.1,n.1,o.1,p.1,q.1,r.1]).bind fun E=>match sel (sel (sel x b false) (sel (sel (sel (eqI e.2.2.2.1 60) f.1 false) h.1 false) (ntB k.1) false) false) E.1 false with
                                  |true=>(zr (y.1.1,y.1.2.1,y.1.2.2.1,()) (Int.ofNat 7) [s.1,u.1,v.1,w.1,B.1,C.1,D.1]).bind fun F=>match sel (sel (sel (sel x b false) (sel (sel (sel (eqI e.2.2.2.1 60) f.1 false) h.1 false) (ntB k.1) false) false) E.1 false) (ntB F.1) false with
                                    |true=>(zr (y.1.1,y.1.2.1,y.1.2.2.1,()) (Int.ofNat 8) [l.1,m.1,n.1,o.1,p.1,q.1,r.1]).bind fun G=>match sel (sel (sel (sel (sel x b false) (sel (sel (sel (eqI e.2.2.2.1 60) f.1 false) h.1 false) (ntB k.1) false) false) E.1 false) (ntB F.1) false) (ntB G.1) false with
                                      |true=>(sub [l.1,m.1,n.1,o.1,p.1,q.1,r.1] 0 6).bind fun H=>(zr (y.1.1,y.1.2.1,y.1.2.2.1,()) (Int.ofNat 7) H).bind fun I=>match sel (sel (sel (sel (sel (sel x b false) (sel (sel (sel (eqI e.2.2.2.1 60) f.1 false) h.1 false) (ntB k.1) false) false) E.1 false) (ntB F.1) false) (ntB G.1) false) (ntB I.1) false with
                                         |true=>(app [] [l.1,m.1,n.1,o.1,p.1,q.1,r.1]).bind fun zs=>zp.bind fun K=>(app zs [K.1]).bind fun zs=>(zr (y.1.1,y.1.2.1,y.1.2.2.1,()) (Int.ofNat 7) zs).bind fun L=>.pure (sel (sel (sel (sel (sel (sel (sel x b false) (sel (sel (sel (eqI e.2.2.2.1 60) f.1 false) h.1 false) (ntB k.1) false) false) E.1 false) (ntB F.1) false) (ntB G.1) false) (ntB I.1) false) (ntB L.1) false,())
                                         |false=>Comp.fail
                                      |false=>Comp.fail
                                    |false=>Comp.fail
                                  |false=>Comp.fail
                                |false=>Comp.fail
                               |false=>Comp.fail
                              |false=>Comp.fail) fun (j:Bool->Comp A9)=>(yD (y.1.1,y.1.2.1,y.1.2.2.1,()) false [0]).bind fun x=>if x.1=true then (yD (y.1.1,y.1.2.1,y.1.2.2.1,()) true [0,1]).bind fun x=>if x.1=true then (yD (y.1.1,y.1.2.1,y.1.2.2.1,()) true [3]).bind fun x=>if x.1=true then if eqI a.2.1 1=true then (yU (y.1.1,y.1.2.1,y.1.2.2.1,()) (Int.ofNat 7) [0,1]).bind fun x=>if x.1=true then gU.bind fun y=>(yU (y.1.1,y.1.2.1,y.1.2.2.1,()) (Int.ofNat 9) [2]).bind fun x=>j x.1 else j false else j false else j false else j false else j false) fun (j:Bool->Comp A9)=>(zU (y.1.1,y.1.2.1,y.1.2.2.1,()) [0,1]).bind fun x=>if x.1=true then (zU (y.1.1,y.1.2.1,y.1.2.2.1,()) [3]).bind fun x=>if ntB x.1=true then (zU (y.1.1,y.1.2.1,y.1.2.2.1,()) [1,0]).bind fun x=>if ntB x.1=true then gU.bind fun y=>(zU (y.1.1,y.1.2.1,y.1.2.2.1,()) [0,1]).bind fun x=>j (ntB x.1) else j false else j false else j false
def kO:List A14->Comp A37:=fun x0=>(Comp.loop (fun (x:List A14×Int)=>if sel (ltI x.2 (zD x0)) (ltI x.2 7) false=true then (idx x0 x.2).bind fun a=>(idx x0 x.2).bind fun b=>(sub a 0 (H0 (zD b) 40)).bind fun c=>(app x.1 [c]).bind fun zs=>.pure (.next (zs,zH .i64 x.2 1)) else .pure (.done x.1)) ([],0)).bind fun x=>.pure (x,())
def kN:Int->Int->Comp A11:=fun x0 x1=>if ltI x1 1=true then .pure (0,()) else (rem x0 x1).bind fun x=>(rem (zH .i64 x x1) x1).bind fun x=>.pure (x,())
def zF:List Int×Int×Unit->Int->Comp A26:=fun x0 x1=>if geI x0.2.1 (zD x0.1)=true then .pure ((x0,()),0,()) else (idx x0.1 (gZ .i64 (zH .i64 x0.2.1 1) 1)).bind fun x=>(kN x x1).bind fun x=>.pure (((x0.1,zH .i64 x0.2.1 1,()),()),x.1,())
def Z7:Int×Int×Int×Unit->Int×Int×Int×Unit->Comp A33:=fun x0 x1=>.pure ((gZ .i64 x0.1 x1.1,gZ .i64 x0.2.1 x1.2.1,gZ .i64 x0.2.2.1 x1.2.2.1,()),())
def vM:A1×Int×Unit->Comp (A2×Unit):=fun x0=>(Z7 (0,0,0,()) x0.1).bind fun x=>.pure ((x.1,Yp .i64 x0.2.1,()),())
def yC:Int×Int×Int×Unit->Comp A27:=fun x0=>.pure ([x0.1,x0.2.1,x0.2.2.1],())
def vU:Int->Comp A11:=fun x0=>if ltI x0 0=true then .pure (Yp .i64 x0,()) else .pure (x0,())
def gm:Int×Int×Int×Unit->Comp A2:=fun x0=>(yC x0).bind fun x=>(Comp.loop (fun (a:Int×Int×Int×Int×Int×Unit)=>if ltI a.2.1 3=true then (idx x.1 a.2.1).bind fun b=>if eqI b (-9223372036854775808)=true then .pure (.done (Sum.inr (0,0,0,0,()))) else (idx x.1 a.2.1).bind fun x=>(vU x).bind fun x=>(Comp.loop (fun (x:A34)=>if gtI x.2 0=true then (rem x.1 x.2).bind fun c=>.pure (.next (x.2,c)) else .pure (.done x.1)) (a.1,x.1)).bind fun x=>.pure (.next (x,zH .i64 a.2.1 1,a.2.2)) else .pure (.done (Sum.inl (a.1,a.2.2)))) (0,0,0,0,0,())).bind fun (x:Int×Int×Int×Int×Unit⊕Int×Int×Int×Int×Unit)=>match x with
    |.inl x=>if eqI x.1 0=true then .pure ((0,0,0,()),0,()) else (quo .i64 x0.1 x.1).bind fun a=>(quo .i64 x0.2.1 x.1).bind fun b=>(quo .i64 x0.2.2.1 x.1).bind fun c=>.pure ((a,b,c,()),x.1,())
    |.inr x=>.pure (x.2,x.1,())
def gR:A1×Int×Unit->Comp A9:=fun x0=>(yC x0.1).bind fun x=>(Comp.loop (fun (a:Int)=>if ltI a 3=true then (idx x.1 a).bind fun b=>(Comp.gd (ntB (ltI b (-4608))) (idx x.1 a) (Int.ofNat 0)).bind fun c=>if sel (ltI b (-4608)) true (gtI c 4608)=true then .pure (.done (Sum.inr false)) else .pure (.next (zH .i64 a 1)) else .pure (.done (Sum.inl ()))) 0).bind fun (x:A22)=>match x with
    |.inl x=>(gm x0.1).bind fun x=>.pure (sel (sel (eqI x.2.1 1) (geI x0.2.1 (-2097152)) false) (leI x0.2.1 2097152) false,())
    |.inr x=>.pure (x,())
def za:List A2->Comp A11:=fun x0=>if gtI (zD x0) 48=true then .pure (2,()) else (Comp.loop (fun (x:Int)=>if ltI x (zD x0)=true then (idx x0 x).bind fun a=>(gR a).bind fun b=>if ntB b.1=true then .pure (.done (Sum.inr 12)) else .pure (.next (zH .i64 x 1)) else .pure (.done (Sum.inl ()))) 0).bind fun (x:A29)=>match x with
    |.inl x=>.pure (0,())
    |.inr x=>.pure (x,())
def gL:List A2->Comp A12:=fun x0=>(app [] x0).bind fun zs=>(zw (-24, -24, -24,()) (24,24,24,())).bind fun x=>(app zs x.1).bind fun zs=>.pure (zs,())
def vd:Int×Int×Int×Unit->Int×Int×Int×Unit->Comp A33:=fun x0 x1=>.pure ((gZ .i64 (kY .i64 x0.2.1 x1.2.2.1) (kY .i64 x0.2.2.1 x1.2.1),gZ .i64 (kY .i64 x0.2.2.1 x1.1) (kY .i64 x0.1 x1.2.2.1),gZ .i64 (kY .i64 x0.1 x1.2.1) (kY .i64 x0.2.1 x1.1),()),())
def Z8:Int×Int×Int×Unit->Int×Int×Int×Unit->Comp A11:=fun x0 x1=>.pure (zH .i64 (zH .i64 (kY .i64 x0.1 x1.1) (kY .i64 x0.2.1 x1.2.1)) (kY .i64 x0.2.2.1 x1.2.2.1),())
def yc:Int×Int×Int×Unit->Int->Comp A33:=fun x0 x1=>.pure ((kY .i64 x0.1 x1,kY .i64 x0.2.1 x1,kY .i64 x0.2.2.1 x1,()),())
def kM:Int×Int×Int×Unit->Int×Int×Int×Unit->Comp A33:=fun x0 x1=>.pure ((zH .i64 x0.1 x1.1,zH .i64 x0.2.1 x1.2.1,zH .i64 x0.2.2.1 x1.2.2.1,()),())
def zy:Int->Int->Comp A11:=fun x0 x1=>(Comp.loop (fun (x:A34)=>if neI x.2 0=true then (rem x.1 x.2).bind fun a=>.pure (.next (x.2,a)) else .pure (.done x.1)) (x0,x1)).bind fun x=>.pure (x,())
def vL:A1×Int×Unit->A1×Int×Unit->A1×Int×Unit->Comp (A8×Bool×Unit):=fun x0 x1 x2=>(vd x1.1 x2.1).bind fun x=>(Z8 x0.1 x.1).bind fun x=>if eqI x.1 0=true then .pure ((0,0,0,0,()),false,()) else (vd x1.1 x2.1).bind fun a=>(yc a.1 x0.2.1).bind fun b=>(vd x2.1 x0.1).bind fun c=>(yc c.1 x1.2.1).bind fun d=>(kM b.1 d.1).bind fun e=>(vd x0.1 x1.1).bind fun f=>(yc f.1 x2.2.1).bind fun g=>(kM e.1 g.1).bind fun h=>jn (fun (x:A8)=>(zy (rv x.2.1 (Yp .i64 x.2.1)) (rv x.2.2.1 (Yp .i64 x.2.2.1))).bind fun i=>(zy (rv x.2.2.2.1 (Yp .i64 x.2.2.2.1)) x.1).bind fun k=>(zy i.1 k.1).bind fun l=>(quo .i64 x.2.1 l.1).bind fun m=>(quo .i64 x.2.2.1 l.1).bind fun n=>(quo .i64 x.2.2.2.1 l.1).bind fun o=>(quo .i64 x.1 l.1).bind fun x=>.pure ((m,n,o,x,()),true,())) fun (j:Int×Int×Int×Int×Unit->Comp (A8×Bool×Unit))=>if ltI x.1 0=true then (yc h.1 (Int.negSucc 0)).bind fun i=>j (Yp .i64 x.1,i.1) else j (x.1,h.1)
def zf:A1×Int×Unit->Int×Int×Int×Int×Unit->Comp A11:=fun x0 x1=>.pure (gZ .i64 (gZ .i64 (gZ .i64 (kY .i64 x0.2.1 x1.2.2.2.1) (kY .i64 x0.1.1 x1.1)) (kY .i64 x0.1.2.1 x1.2.1)) (kY .i64 x0.1.2.2.1 x1.2.2.1),())
def gE:List A2->Int×Int×Int×Int×Unit->Comp A9:=fun x0 x1=>(Comp.loop (fun (x:Int)=>if ltI x (zD x0)=true then (idx x0 x).bind fun a=>(zf a x1).bind fun b=>if ltI b.1 0=true then .pure (.done (Sum.inr false)) else .pure (.next (zH .i64 x 1)) else .pure (.done (Sum.inl ()))) 0).bind fun (x:A22)=>match x with
   |.inl x=>.pure (true,())
   |.inr x=>.pure (x,())
def yv:List A8->Int×Int×Int×Int×Unit->Comp A9:=fun x0 x1=>(Comp.loop (fun (x:Int)=>if ltI x (zD x0)=true then (idx x0 x).bind fun a=>if adB (eqI a.1 x1.1) (adB (eqI a.2.1 x1.2.1) (adB (eqI a.2.2.1 x1.2.2.1) (eqI a.2.2.2.1 x1.2.2.2.1)))=true then .pure (.done (Sum.inr true)) else .pure (.next (zH .i64 x 1)) else .pure (.done (Sum.inl ()))) 0).bind fun (x:A22)=>match x with
   |.inl x=>.pure (false,())
   |.inr x=>.pure (x,())
def vj:List A2->Comp A42:=fun x0=>(Comp.loop (fun (x:List A8×Int)=>if ltI x.2 (zD x0)=true then (Comp.loop (fun (a:List A8×Int)=>if ltI a.2 (zD x0)=true then (Comp.loop (fun (b:List A8×Int)=>if ltI b.2 (zD x0)=true then (idx x0 x.2).bind fun x=>(idx x0 a.2).bind fun c=>(idx x0 b.2).bind fun d=>(vL x c d).bind fun x=>(Comp.gd x.2.1 (gE x0 x.1) (false,())).bind fun e=>(Comp.gd (sel x.2.1 e.1 false) (yv b.1 x.1) (false,())).bind fun f=>jn (fun (x:List A8)=>.pure (.next (x,zH .i64 b.2 1))) fun (j:List A8->Comp (Comp.Step (List A8×Int) (List A8)))=>if sel (sel x.2.1 e.1 false) (ntB f.1) false=true then (app b.1 [x.1]).bind fun zs=>j zs else j b.1 else .pure (.done b.1)) (a.1,zH .i64 a.2 1)).bind fun x=>.pure (.next (x,zH .i64 a.2 1)) else .pure (.done a.1)) (x.1,zH .i64 x.2 1)).bind fun a=>.pure (.next (a,zH .i64 x.2 1)) else .pure (.done x.1)) ([],0)).bind fun x=>.pure (x,())
def gl:List A2->Comp A9:=fun x0=>(vj x0).bind fun y=>(Comp.loop (fun (x:Int)=>if ltI x (zD x0)=true then (Comp.loop (fun (a:Bool×Int)=>if ltI a.2 (zD y.1)=true then (Comp.gd (ntB a.1) (idx x0 x) ((0,0,0,()),0,())).bind fun x=>(Comp.gd (ntB a.1) (idx y.1 a.2) (0,0,0,0,())).bind fun b=>(Comp.gd (ntB a.1) (zf x b) (0,())).bind fun x=>.pure (.next (sel a.1 true (gtI x.1 0),zH .i64 a.2 1)) else .pure (.done a.1)) (false,0)).bind fun a=>if ntB a=true then .pure (.done (Sum.inr false)) else .pure (.next (zH .i64 x 1)) else .pure (.done (Sum.inl ()))) 0).bind fun (x:A22)=>match x with
    |.inl x=>.pure (true,())
    |.inr x=>.pure (x,())
def z7:List A2->Comp A9:=fun x0=>jn (fun (x:Bool)=>.pure (x,())) fun (j:Bool->Comp A9)=>(za x0).bind fun x=>if eqI x.1 0=true then (gL x0).bind fun y=>(gl y.1).bind fun x=>j x.1 else j false
def jx:List A14->Comp (A7×Unit):=fun x0=>(Comp.loop (fun (x:Int×List A14)=>if sel (ltI x.1 (zD x0)) (ltI x.1 2) false=true then (idx x0 x.1).bind fun a=>(inb 2 x.1).bind fun b=>.pure (.next (zH .i64 x.1 1,gz x.2 x.1 a)) else .pure (.done x.2)) (0,[[],[]])).bind fun x=>(idx x 0).bind fun a=>(zF (a,0,()) (Int.ofNat 3)).bind fun y=>jn (fun (b:A41)=>(zF b.2 (Int.ofNat 3)).bind fun y_1=>(zF y_1.1.1 (Int.ofNat 3)).bind fun xJ=>(Comp.loop (fun (x:Int×Int×A6×List Int×Int×Unit)=>if ltI x.2.1 (zH .i64 2 y.2.1)=true then (zF x.2.2.2 (Int.ofNat 4)).bind fun y=>(zw (x.1,0,0,()) (zH .i64 x.1 (zH .i64 1 y.2.1),3,zH .i64 2 xJ.2.1,())).bind fun c=>(app x.2.2.1.2.1 [c.1]).bind fun zs=>jn (fun (d:A6)=>.pure (.next (zH .i64 x.1 (zH .i64 1 y.2.1),zH .i64 x.2.1 1,(d.1,d.2.1,d.2.2.1,()),y.1.1))) fun (j:List UInt8×List A3×List Int×Unit->Comp (Comp.Step (Int×Int×A6×List Int×Int×Unit) (A6×List Int×Int×Unit)))=>if b.1=true then (zw (x.1,3,0,()) (zH .i64 x.1 (zH .i64 1 y.2.1),6,zH .i64 2 xJ.2.1,())).bind fun d=>(app zs [d.1]).bind fun zs=>j (x.2.2.1.1,zs,x.2.2.1.2.2.1,()) else j (x.2.2.1.1,zs,x.2.2.1.2.2.1,()) else .pure (.done ((x.2.2.1.1,x.2.2.1.2.1,x.2.2.1.2.2.1,()),x.2.2.2))) (zH .i64 (-6) y_1.2.1,0,([112],[],[],()),xJ.1.1)).bind fun c=>jn (fun (d:A41)=>jn (fun (e:A6)=>(idx x 1).bind fun f=>(Comp.loop (fun (g:Int×A6×List Int×Int×Unit)=>if ltI g.1 (zD g.2.1.2.1)=true then (zF g.2.2 (Int.ofNat 4)).bind fun y=>(idx [2,1,3,2] y.2.1).bind fun x=>(app g.2.1.2.2.1 [x]).bind fun zs=>.pure (.next (zH .i64 g.1 1,(g.2.1.1,g.2.1.2.1,zs,()),y.1.1)) else .pure (.done (g.2.1.1,g.2.1.2.1,g.2.1.2.2.1,()))) (0,(e.1,e.2.1,e.2.2.1,()),f,0,())).bind fun x=>.pure ((x.1,x.2.1,x.2.2.1,()),())) fun (j:List UInt8×List A3×List Int×Unit->Comp (A6×Unit))=>if d.1=true then (zF d.2 (zD c.1.2.1)).bind fun y=>(zF y.1.1 (Int.ofNat 4)).bind fun cD=>(idx c.1.2.1 y.2.1).bind fun x=>(app [] x).bind fun zs=>(app zs [((0,1,1,()),zH .i64 2 cD.2.1,())]).bind fun zs=>(idx c.1.2.1 y.2.1).bind fun x=>(app [] x).bind fun zs_1=>(vM ((0,1,1,()),zH .i64 2 cD.2.1,())).bind fun x=>(app zs_1 [x.1]).bind fun zs_2=>(z7 zs).bind fun x=>(Comp.gd x.1 (z7 zs_2) (false,())).bind fun e=>jn (fun (x:A7)=>j (x.1,x.2.1,x.2.2.1,())) fun (j:List UInt8×List A3×List Int×Unit->Comp (A6×Unit))=>if sel x.1 e.1 false=true then (inb c.1.2.1.length y.2.1).bind fun x=>(app (gz c.1.2.1 y.2.1 zs) [zs_2]).bind fun zs=>j (c.1.1,zs,c.1.2.2.1,()) else j (c.1.1,c.1.2.1,c.1.2.2.1,()) else j (c.1.1,c.1.2.1,c.1.2.2.1,())) fun (j:Bool×List Int×Int×Unit->Comp (A6×Unit))=>(zF c.2 (Int.ofNat 4)).bind fun y=>if eqI y.2.1 3=true then j (ltI (zD c.1.2.1) 6,y.1.1) else j (false,y.1.1)) fun (j:Bool×List Int×Int×Unit->Comp (A6×Unit))=>(zF y.1.1 (Int.ofNat 3)).bind fun y_1=>if eqI y_1.2.1 2=true then j (ltI (zH .i64 2 y.2.1) 4,y_1.1.1) else j (false,y_1.1.1)
def vK:List A14->y8×List A3×List Int×Unit->Comp A19:=fun x0 x1=>(Comp.loop (fun (x:A21)=>if sel (ltI x.2 (zD x0)) (ltI x.2 4) false=true then (idx x0 x.2).bind fun a=>(zF (a,0,()) (Int.ofNat 4)).bind fun y=>(zF y.1.1 (zD x1.2.1)).bind fun y_1=>(idx x1.2.1 y_1.2.1).bind fun b=>(zAu [] b).bind fun zs=>jn (fun (c:List A2×List Int×Int×Unit)=>jn (fun (d:A3)=>(app x.1 [d]).bind fun zs=>.pure (.next (zs,zH .i64 x.2 1))) fun (j:List A2->Comp (Comp.Step A21 A18))=>if eqI y.2.1 2=true then (zF c.2 (Int.ofNat 14)).bind fun y=>(zF y.1.1 (Int.ofNat 3)).bind fun xJ=>(zF xJ.1.1 (Int.ofNat 2)).bind fun cD=>(zF cD.1.1 (Int.ofNat 6)).bind fun y_4=>(zF y_4.1.1 (Int.ofNat 6)).bind fun y_5=>(zF y_5.1.1 (Int.ofNat 6)).bind fun y_6=>(zw (gZ .i64 y.2.1 7,gZ .i64 xJ.2.1 1,gZ .i64 cD.2.1 1,()) (zH .i64 (zH .i64 (gZ .i64 y.2.1 7) 1) y_4.2.1,zH .i64 (zH .i64 (gZ .i64 xJ.2.1 1) 2) y_5.2.1,zH .i64 (zH .i64 (gZ .i64 cD.2.1 1) 2) y_6.2.1,())).bind fun y=>j y.1 else j c.1) fun (j:List A2×List Int×Int×Unit->Comp (Comp.Step A21 A18))=>if eqI y.2.1 1=true then (zF y_1.1.1 (Int.ofNat 2)).bind fun y=>(zF y.1.1 (Int.ofNat 2)).bind fun xJ=>(app zs [((0,0,gZ .i64 1 (kY .i64 2 y.2.1),()),kY .i64 (gZ .i64 1 (kY .i64 2 y.2.1)) (zH .i64 1 xJ.2.1),())]).bind fun zs=>j (zs,xJ.1.1) else j (zs,y_1.1.1) else .pure (.done x.1)) ([],0)).bind fun x=>.pure (x,())
def ze:List A2->List A2->Comp A9:=fun x0 x1=>(za x0).bind fun x=>(Comp.gd (ntB (neI x.1 0)) (za x1) (0,())).bind fun a=>if sel (neI x.1 0) true (neI a.1 0)=true then .pure (true,()) else (app [] x0).bind fun zs=>(app zs x1).bind fun zs=>(gL zs).bind fun y=>(gl y.1).bind fun x=>.pure (ntB x.1,())
def gP:y8×List A3×List Int×Unit->Comp A11:=fun x0=>if sel (ltI (zD x0.2.1) 1) true (gtI (zD x0.2.1) 16)=true then .pure (2,()) else if neI (zD x0.2.2.1) (zD x0.2.1)=true then .pure (1,()) else (Comp.loop (fun (x:Int)=>if ltI x (zD x0.2.2.1)=true then (idx x0.2.2.1 x).bind fun a=>(Comp.gd (ntB (ltI a 1)) (idx x0.2.2.1 x) (Int.ofNat 0)).bind fun b=>if sel (ltI a 1) true (gtI b 3)=true then .pure (.done (Sum.inr 1)) else .pure (.next (zH .i64 x 1)) else .pure (.done (Sum.inl ()))) 0).bind fun (x:A29)=>match x with
     |.inl x=>(Comp.loop (fun (x:Int)=>if ltI x (zD x0.2.1)=true then (idx x0.2.1 x).bind fun a=>(z7 a).bind fun b=>if ntB b.1=true then .pure (.done (Sum.inr 13)) else (Comp.loop (fun (c:Int)=>if ltI c x=true then (idx x0.2.1 c).bind fun d=>(idx x0.2.1 x).bind fun x=>(ze d x).bind fun x=>if ntB x.1=true then .pure (.done (Sum.inr 13)) else .pure (.next (zH .i64 c 1)) else .pure (.done (Sum.inl ()))) 0).bind fun (c:A29)=>match c with
             |.inl d=>.pure (.next (zH .i64 x 1))
             |.inr x=>.pure (.done (Sum.inr x)) else .pure (.done (Sum.inl ()))) 0).bind fun (x:A29)=>match x with
       |.inl x=>.pure (0,())
       |.inr x=>.pure (x,())
     |.inr x=>.pure (x,())
def yX:List A3->Comp A11:=fun x0=>(Comp.loop (fun (x:Int)=>if ltI x (zD x0)=true then (idx x0 x).bind fun a=>(za a).bind fun b=>if neI b.1 0=true then .pure (.done (Sum.inr b.1)) else .pure (.next (zH .i64 x 1)) else .pure (.done (Sum.inl ()))) 0).bind fun (x:A29)=>match x with
   |.inl x=>.pure (0,())
   |.inr x=>.pure (x,())
def gj:y8×List A3×List Int×Unit->List Bool×List Bool×List A3×Unit->Comp A9:=fun x0 x1=>(Comp.gd (sel (sel (eqI (zD x1.1) (zD x0.2.1)) (eqI (zD x1.2.1) (zD x0.2.1)) false) (leI (zD x1.2.2.1) 24) false) (yX x1.2.2.1) (0,())).bind fun x=>.pure (sel (sel (sel (eqI (zD x1.1) (zD x0.2.1)) (eqI (zD x1.2.1) (zD x0.2.1)) false) (leI (zD x1.2.2.1) 24) false) (eqI x.1 0) false,())
def gk:List A3->Comp A19:=fun x0=>(Comp.loop (fun (x:A21)=>if ltI x.2 (zD x0)=true then (idx x0 x.2).bind fun a=>(app [] a).bind fun zs=>(app x.1 [zs]).bind fun zs=>.pure (.next (zs,zH .i64 x.2 1)) else .pure (.done x.1)) ([],0)).bind fun x=>.pure (x,())
def yu:List A2->List A3->Comp A9:=fun x0 x1=>(Comp.loop (fun (x:Int)=>if ltI x (zD x1)=true then (idx x1 x).bind fun a=>(ze x0 a).bind fun b=>if ntB b.1=true then .pure (.done (Sum.inr false)) else .pure (.next (zH .i64 x 1)) else .pure (.done (Sum.inl ()))) 0).bind fun (x:A22)=>match x with
   |.inl x=>.pure (true,())
   |.inr x=>.pure (x,())
def vb:List A3->List A2->Comp A19:=fun x0 x1=>(Comp.loop (fun (x:A21)=>if ltI x.2 (zD x0)=true then (idx x0 x.2).bind fun a=>(ze a x1).bind fun b=>jn (fun (c:A18)=>.pure (.next (c,zH .i64 x.2 1))) fun (j:List A3->Comp (Comp.Step A21 A18))=>if ntB b.1=true then (idx x0 x.2).bind fun c=>(app x.1 [c]).bind fun zs=>j zs else j x.1 else .pure (.done x.1)) ([],0)).bind fun x=>.pure (x,())
def ja:List A3->Comp A11:=fun x0=>if gtI (zD x0) 16=true then .pure (2,()) else (Comp.loop (fun (x:Int)=>if ltI x (zD x0)=true then (idx x0 x).bind fun a=>(za a).bind fun b=>if neI b.1 0=true then .pure (.done (Sum.inr b.1)) else .pure (.next (zH .i64 x 1)) else .pure (.done (Sum.inl ()))) 0).bind fun (x:A29)=>match x with
    |.inl x=>.pure (0,())
    |.inr x=>.pure (x,())
def jE:List A2->Comp A42:=fun x0=>(za x0).bind fun x=>if neI x.1 0=true then .pure ([],()) else (gL x0).bind fun y=>(vj y.1).bind fun y=>.pure (y.1,())
def y5:A1×Int×Unit->A1×Int×Unit->Comp A11:=fun x0 x1=>(Comp.loop (fun (x:Int)=>if ltI x 4=true then (idx [x0.1.1,x0.1.2.1,x0.1.2.2.1,x0.2.1] x).bind fun a=>(idx [x1.1.1,x1.1.2.1,x1.1.2.2.1,x1.2.1] x).bind fun b=>if ltI a b=true then .pure (.done (Sum.inr (-1))) else (idx [x0.1.1,x0.1.2.1,x0.1.2.2.1,x0.2.1] x).bind fun c=>(idx [x1.1.1,x1.1.2.1,x1.1.2.2.1,x1.2.1] x).bind fun d=>if gtI c d=true then .pure (.done (Sum.inr 1)) else .pure (.next (zH .i64 x 1)) else .pure (.done (Sum.inl ()))) 0).bind fun (x:A29)=>match x with
   |.inl x=>.pure (0,())
   |.inr x=>.pure (x,())
def jM:List A2->A1×Int×Unit->Comp A12:=fun x0 x1=>(Comp.loop (fun (x:Int)=>(Comp.gd (ltI x (zD x0)) (idx x0 x) ((0,0,0,()),0,())).bind fun a=>(Comp.gd (ltI x (zD x0)) (y5 a x1) (0,())).bind fun b=>if sel (ltI x (zD x0)) (ltI b.1 0) false=true then .pure (.next (zH .i64 x 1)) else .pure (.done x)) 0).bind fun x=>(Comp.gd (ltI x (zD x0)) (idx x0 x) ((0,0,0,()),0,())).bind fun a=>if sel (ltI x (zD x0)) (adB (adB (eqI a.1.1 x1.1.1) (adB (eqI a.1.2.1 x1.1.2.1) (eqI a.1.2.2.1 x1.1.2.2.1))) (eqI a.2.1 x1.2.1)) false=true then .pure (x0,()) else (sub x0 0 x).bind fun b=>(app [] b).bind fun zs=>(app zs [x1]).bind fun zs=>(sub x0 x (zD x0)).bind fun x=>(app zs x).bind fun zs=>.pure (zs,())
def zo:List A2->Comp A12:=fun x0=>(z7 x0).bind fun x=>if ntB x.1=true then .pure ([],()) else (jE x0).bind fun y=>(Comp.loop (fun (a:A35)=>if ltI a.2 (zD x0)=true then (Comp.loop (fun (b:A34)=>if ltI b.2 (zD y.1)=true then (idx x0 a.2).bind fun x=>(idx y.1 b.2).bind fun c=>(zf x c).bind fun x=>jn (fun (x:Int)=>.pure (.next (x,zH .i64 b.2 1))) fun (j:Int->Comp (Comp.Step A34 Int))=>if eqI x.1 0=true then j (zH .i64 b.1 1) else j b.1 else .pure (.done b.1)) (0,0)).bind fun x=>jn (fun (x:A3)=>.pure (.next (x,zH .i64 a.2 1))) fun (j:List A2->Comp (Comp.Step A35 A3))=>if geI x 3=true then (idx x0 a.2).bind fun x=>(jM a.1 x).bind fun x=>j x.1 else j a.1 else .pure (.done a.1)) ([],0)).bind fun x=>.pure (x,())
def yM:List A2->A1×Int×Unit->Comp A12:=fun x0 x1=>(app [] x0).bind fun zs=>(app zs [x1]).bind fun zs=>.pure (zs,())
def gQ:List A2->List A2->Comp A24:=fun x0 x1=>(Comp.loop (fun (x:List A3×List A2×Int)=>if ltI x.2.2 (zD x1)=true then if geI (zD x.2.1) 48=true then .pure (.done (Sum.inr ([],9))) else (idx x1 x.2.2).bind fun a=>(vM a).bind fun b=>(yM x.2.1 b.1).bind fun y=>(zo y.1).bind fun c=>jn (fun (d:A18)=>(idx x1 x.2.2).bind fun e=>(yM x.2.1 e).bind fun y=>(zo y.1).bind fun f=>.pure (.next (d,f.1,zH .i64 x.2.2 1))) fun (j:List A3->Comp (Comp.Step (List A3×List A2×Int) A40))=>if gtI (zD c.1) 0=true then (app x.1 [c.1]).bind fun zs=>j zs else j x.1 else .pure (.done (Sum.inl x.1))) ([],x0,0)).bind fun (x:A40)=>match x with
   |.inl x=>.pure (x,0,())
   |.inr x=>.pure (x.1,x.2,())
def y4:List A3->List A2->Comp A24:=fun x0 x1=>(z7 x1).bind fun x=>if ntB x.1=true then .pure (x0,0,()) else (Comp.loop (fun (x:A21)=>if ltI x.2 (zD x0)=true then jn (fun (a:A18)=>.pure (.next (a,zH .i64 x.2 1))) fun (j:List A3->Comp (Comp.Step A21 A40))=>(idx x0 x.2).bind fun a=>(ze a x1).bind fun b=>if b.1=true then (idx x0 x.2).bind fun c=>(app x.1 [c]).bind fun zs=>j zs else (idx x0 x.2).bind fun c=>(zo x1).bind fun d=>(gQ c d.1).bind fun e=>if neI e.2.1 0=true then .pure (.done (Sum.inr ([],e.2.1))) else (app x.1 e.1).bind fun zs=>j zs else .pure (.done (Sum.inl x.1))) ([],0)).bind fun (a:A40)=>match a with
     |.inl b=>if gtI (zD b) 200=true then .pure ([],9,()) else .pure (b,0,())
     |.inr x=>.pure (x.1,x.2,())
def jZ:List A2->List A3->Comp A24:=fun x0 x1=>(za x0).bind fun x=>jn (fun (x:Int)=>if neI x 0=true then .pure ([],x,()) else (z7 x0).bind fun x=>jn (fun (x:A18)=>(Comp.loop (fun (x:A21)=>if ltI x.2 (zD x1)=true then (idx x1 x.2).bind fun a=>(y4 x.1 a).bind fun b=>if neI b.2.1 0=true then .pure (.done (Sum.inr ([],b.2.1))) else .pure (.next (b.1,zH .i64 x.2 1)) else .pure (.done (Sum.inl x.1))) (x,0)).bind fun (x:A40)=>match x with
          |.inl x=>.pure (x,0,())
          |.inr x=>.pure (x.1,x.2,())) fun (j:List A3->Comp A24)=>if x.1=true then (zo x0).bind fun x=>(app [] [x.1]).bind fun zs=>j zs else j []) fun (j:Int->Comp A24)=>if eqI x.1 0=true then (ja x1).bind fun x=>j x.1 else j x.1
def vG:List A3->List A2->Comp A20:=fun x0 x1=>(jZ x1 x0).bind fun x=>.pure (sel (eqI x.2.1 0) (eqI (zD x.1) 0) false,x.2.1,())
def jY:y8×List A3×List Int×Unit->List Bool×List Bool×List A3×Unit->List A3->List A3->Comp (A5×Int×Unit):=fun x0 x1 x2 x3=>(gP x0).bind fun x=>if neI x.1 0=true then .pure (([],[],[],()),x.1,()) else (gj x0 x1).bind fun x=>if ntB x.1=true then .pure (([],[],[],()),4,()) else (yX x2).bind fun x=>jn (fun (x:Int)=>if neI x 0=true then .pure (([],[],[],()),x,()) else if gtI (zH .i64 (zD x1.2.2.1) (zD x2)) 24=true then .pure (([],[],[],()),2,()) else (gk x1.2.2.1).bind fun y=>(gk x2).bind fun y_1=>(app y.1 y_1.1).bind fun zs=>(Comp.loop (fun (x:Int×A5×List Bool×List Bool×List A3×Unit)=>if ltI x.1 (zD x0.2.1)=true then (idx x0.2.1 x.1).bind fun a=>(idx x1.2.1 x.1).bind fun b=>(Comp.gd (ntB b) (yu a x2) (false,())).bind fun c=>(Comp.gd (ntB (sel b true (ntB c.1))) (yu a x3) (false,())).bind fun d=>(app x.2.2.2.1 [sel (sel b true (ntB c.1)) true (ntB d.1)]).bind fun zs=>(idx x1.1 x.1).bind fun e=>jn (fun (f:Bool×List Bool×List Bool×List A3×Unit)=>(app x.2.2.1 [f.1]).bind fun zs_1=>.pure (.next (zH .i64 x.1 1,f.2,zs_1,zs,x.2.2.2.2.1,()))) fun (j:Bool×List Bool×List Bool×List A3×Unit->Comp (Comp.Step (Int×A5×List Bool×List Bool×List A3×Unit) A44))=>if ntB e=true then (vb x.2.2.2.2.1 a).bind fun y=>(vG y.1 a).bind fun f=>if neI f.2.1 0=true then .pure (.done (Sum.inr (f.2.1,[],[],[],()))) else j (f.1,x.2.1) else j (e,x.2.1) else .pure (.done (Sum.inl (x.2.1,x.2.2.1,x.2.2.2.1,x.2.2.2.2.1,())))) (0,([],[],[],()),[],[],zs,())).bind fun (x:A5×List Bool×List Bool×List A3×Unit⊕Int×List Bool×List Bool×List A3×Unit)=>match x with
               |.inl x=>.pure ((x.2.1,x.2.2.1,x.2.2.2.1,()),0,())
               |.inr x=>.pure (x.2,x.1,())) fun (j:Int->Comp (A5×Int×Unit))=>if eqI x.1 0=true then (yX x3).bind fun x=>j x.1 else j x.1
def vF:y8×List A3×List Int×Unit->List Int->Int->Comp (A4×Unit):=fun x0 x1 x2=>(zF (x1,0,()) (Int.ofNat 6)).bind fun y=>jn (fun (x:A41)=>jn (fun (a:A4)=>(zF x.2 (Int.ofNat 5)).bind fun y=>(Comp.loop (fun (x:Int×A4×List Int×Int×Unit)=>if ltI x.1 (zD x0.2.1)=true then (zF x.2.2 (Int.ofNat 2)).bind fun y_1=>(idx x0.2.2.1 x.1).bind fun b=>jn (fun (c:A41)=>jn (fun (d:List A3×List A3×Int×List Int×Unit)=>.pure (.next (zH .i64 x.1 1,(d.1,d.2.1,d.2.2.1,d.2.2.2.1,()),c.2))) fun (j:List A3×List A3×Int×List Int×Unit->Comp (Comp.Step (Int×A4×List Int×Int×Unit) A4))=>if c.1=true then (idx x0.2.1 x.1).bind fun d=>(app [] d).bind fun zs=>(app x.2.1.1 [zs]).bind fun zs=>j (zs,x.2.1.2.1,x.2.1.2.2.1,x.2.1.2.2.2.1,()) else j (x.2.1.1,x.2.1.2.1,x.2.1.2.2.1,x.2.1.2.2.2.1,())) fun (j:Bool×List Int×Int×Unit->Comp (Comp.Step (Int×A4×List Int×Int×Unit) A4))=>if eqI b 1=true then jn (fun (x:A41)=>j (x.1,x.2)) fun (j:Bool×List Int×Int×Unit->Comp (Comp.Step (Int×A4×List Int×Int×Unit) A4))=>if eqI y.2.1 4=true then (zF y_1.1.1 (Int.ofNat 3)).bind fun y=>j (eqI y.2.1 2,y.1.1) else j (false,y_1.1.1) else j (eqI y_1.2.1 1,y_1.1.1) else .pure (.done (x.2.1.1,x.2.1.2.1,x.2.1.2.2.1,x.2.1.2.2.2.1,()))) (0,(a.1,a.2.1,a.2.2.1,a.2.2.2.1,()),y.1.1)).bind fun x=>jn (fun (x:List A3×List A3×Int×List Int×Unit)=>jn (fun (x:List A3×List A3×Int×List Int×Unit)=>.pure ((x.1,x.2.1,x.2.2.1,x.2.2.2.1,()),())) fun (j:List A3×List A3×Int×List Int×Unit->Comp (A4×Unit))=>if eqI y.2.1 2=true then (sub x1 (H0 (zD x1) 5) (zD x1)).bind fun b=>(vK [b] x0).bind fun y=>j (x.1,y.1,x.2.2.1,x.2.2.2.1,()) else j (x.1,x.2.1,x.2.2.1,x.2.2.2.1,())) fun (j:List A3×List A3×Int×List Int×Unit->Comp (A4×Unit))=>if eqI y.2.1 3=true then (sub x1 (H0 (zD x1) 4) (zD x1)).bind fun b=>(vK [b] x0).bind fun c=>(app x.1 c.1).bind fun zs=>j (zs,x.2.1,x.2.2.1,x.2.2.2.1,()) else j (x.1,x.2.1,x.2.2.1,x.2.2.2.1,())) fun (j:List A3×List A3×Int×List Int×Unit->Comp (A4×Unit))=>if x.1=true then j ([],[],zH .i64 1 y.2.1,[gZ .i64 x2 1],()) else j ([],[],zH .i64 1 y.2.1,[],())) fun (j:Bool×List Int×Int×Unit->Comp (A4×Unit))=>if gtI x2 0=true then (zF y.1.1 (Int.ofNat 5)).bind fun y=>j (eqI y.2.1 4,y.1.1) else j (false,y.1.1)
def jS:List Int->Comp A9:=fun x0=>(Comp.loop (fun (x:Int)=>if ltI x (zD x0)=true then (idx x0 x).bind fun a=>(idx x0 (gZ .i64 x 1)).bind fun b=>if leI a b=true then .pure (.done (Sum.inr false)) else .pure (.next (zH .i64 x 1)) else .pure (.done (Sum.inl ()))) 1).bind fun (x:A22)=>match x with
   |.inl x=>.pure (true,())
   |.inr x=>.pure (x,())
def vz:List A4->Int->Comp A11:=fun x0 x1=>(idx x0 x1).bind fun x=>(app [] x.1).bind fun zs=>(app zs x.2.1).bind fun zs_1=>(Comp.loop (fun (a:Int)=>if ltI a (zD zs_1)=true then (idx zs_1 a).bind fun x=>(za x).bind fun x=>if neI x.1 0=true then .pure (.done (Sum.inr x.1)) else .pure (.next (zH .i64 a 1)) else .pure (.done (Sum.inl ()))) 0).bind fun (a:A29)=>match a with
      |.inl b=>if sel (ltI x.2.2.1 1) true (gtI x.2.2.1 1048576)=true then .pure (3,()) else (Comp.loop (fun (c:Int)=>if ltI c (zD x.2.2.2.1)=true then (idx x.2.2.2.1 c).bind fun d=>(Comp.gd (ntB (ltI d 0)) (idx x.2.2.2.1 c) (Int.ofNat 0)).bind fun e=>(Comp.gd (ntB (sel (ltI d 0) true (geI e (zD x0)))) (idx x.2.2.2.1 c) (Int.ofNat 0)).bind fun f=>if sel (sel (ltI d 0) true (geI e (zD x0))) true (eqI f x1)=true then .pure (.done (Sum.inr 3)) else .pure (.next (zH .i64 c 1)) else .pure (.done (Sum.inl ()))) 0).bind fun (c:A29)=>match c with
         |.inl d=>(jS x.2.2.2.1).bind fun x=>if ntB x.1=true then .pure (7,()) else .pure (0,())
         |.inr x=>.pure (x,())
      |.inr x=>.pure (x,())
def gO:A7×A5×List A4×Unit->Comp A11:=fun x0=>(gP x0.1).bind fun x=>if neI x.1 0=true then .pure (x.1,()) else (gj x0.1 x0.2.1).bind fun x=>if ntB x.1=true then .pure (4,()) else if gtI (zD x0.2.2.1) 8=true then .pure (2,()) else (Comp.loop (fun (x:A34)=>if ltI x.2 (zD x0.2.2.1)=true then (vz x0.2.2.1 x.2).bind fun a=>if neI a.1 0=true then .pure (.done (Sum.inr a.1)) else (idx x0.2.2.1 x.2).bind fun b=>.pure (.next (zH .i64 x.1 (zD b.1),zH .i64 x.2 1)) else .pure (.done (Sum.inl x.1))) (zD x0.2.1.2.2.1,0)).bind fun (x:Int⊕Int)=>match x with
        |.inl x=>if gtI x 24=true then .pure (2,()) else .pure (0,())
        |.inr x=>.pure (x,())
def jw:List A14->Comp (A16×Unit):=fun x0=>(sub x0 0 (H0 (zD x0) 2)).bind fun x=>(jx x).bind fun a=>(jL a.1).bind fun b=>jn (fun (c:A6×A5×List A4×Unit)=>(Comp.loop (fun (x:Int×A6×A5×List A4×Unit)=>if sel (ltI x.1 (zD x0)) (ltI x.1 7) false=true then (idx x0 x.1).bind fun d=>(vF a.1 d (gZ .i64 x.1 3)).bind fun e=>(app x.2.2.2.1 [e.1]).bind fun zs=>.pure (.next (zH .i64 x.1 1,x.2.1,x.2.2.1,zs,())) else .pure (.done (x.2.1,x.2.2.1,x.2.2.2.1,()))) (3,c.1,c.2.1,c.2.2.1,())).bind fun d=>jn (fun (e:A6×A5×List A4×Unit)=>(Comp.loop (fun (f:A6×A5×List A4×Unit)=>(Comp.gd (gtI (zD f.2.2.1) 1) (gO (f.1,f.2.1,f.2.2.1,())) (0,())).bind fun g=>if sel (gtI (zD f.2.2.1) 1) (eqI g.1 2) false=true then jn (fun (x:A6×A5×List A4×Unit)=>.pure (.next (x.1,x.2.1,x.2.2.1,()))) fun (j:A6×A5×List A4×Unit->Comp (Comp.Step A13 A13))=>(sub f.2.2.1 0 (gZ .i64 (zD f.2.2.1) 1)).bind fun ys=>j (f.1,f.2.1,ys,()) else .pure (.done (f.1,f.2.1,f.2.2.1,()))) (e.1,e.2.1,e.2.2.1,())).bind fun x=>.pure ((x.1,x.2.1,x.2.2.1,()),())) fun (j:A6×A5×List A4×Unit->Comp (A13×Unit))=>if eqI (zD d.2.2.1) 0=true then (vF a.1 [] (Int.ofNat 0)).bind fun x=>(app d.2.2.1 [x.1]).bind fun zs=>j (d.1,d.2.1,zs,()) else j (d.1,d.2.1,d.2.2.1,())) fun (j:A6×A5×List A4×Unit->Comp (A13×Unit))=>if gtI (zD x0) 2=true then (idx x0 2).bind fun x=>(zF (x,0,()) (Int.ofNat 3)).bind fun y=>jn (fun (x:A6×A5×List A4×Unit)=>j (x.1,x.2.1,x.2.2.1,())) fun (j:A6×A5×List A4×Unit->Comp (A13×Unit))=>if eqI y.2.1 2=true then (idx x0 2).bind fun x=>(idx x0 2).bind fun c=>(sub x (H0 (zD c) 1) (zD x)).bind fun x=>(vK [x] a.1).bind fun x=>(jY a.1 b.1 x.1 []).bind fun x=>jn (fun (x:A6×A5×List A4×Unit)=>j (x.1,x.2.1,x.2.2.1,())) fun (j:A6×A5×List A4×Unit->Comp (A13×Unit))=>if eqI x.2.1 0=true then j (a.1,x.1,[],()) else j (a.1,b.1,[],()) else j (a.1,b.1,[],()) else j (a.1,b.1,[],())
def vH:Int->Int->Comp A27:=fun x0 x1=>(Comp.loop (fun (x:A47)=>if ltI x.2 x1=true then (Ur .i64 x0 x.2).bind fun a=>jn (fun (b:A14)=>.pure (.next (b,zH .i64 x.2 1))) fun (j:List Int->Comp (Comp.Step A47 A14))=>if eqI (U5 .i64 a 1) 1=true then (app x.1 [x.2]).bind fun zs=>j zs else j x.1 else .pure (.done x.1)) ([],0)).bind fun x=>.pure (x,())
def jP:List A3->Comp A11:=fun x0=>(Comp.loop (fun (x:Int)=>if ltI x (zD x0)=true then (idx x0 x).bind fun a=>(vn a).bind fun b=>if neI b.1 0=true then .pure (.done (Sum.inr b.1)) else .pure (.next (zH .i64 x 1)) else .pure (.done (Sum.inl ()))) 0).bind fun (x:A29)=>match x with
   |.inl x=>.pure (0,())
   |.inr x=>.pure (x,())
def YD:y8×List A3×List Int×Unit->List Bool×List Bool×List A3×Unit->Comp A11:=fun x0 x1=>(Zh x0).bind fun x=>if neI x.1 0=true then .pure (x.1,()) else (Comp.gd (ntB (sel (sel (neI (zD x1.1) (zD x0.2.1)) true (neI (zD x1.2.1) (zD x0.2.1))) true (gtI (zD x1.2.2.1) 24))) (jP x1.2.2.1) (0,())).bind fun x=>if sel (sel (sel (neI (zD x1.1) (zD x0.2.1)) true (neI (zD x1.2.1) (zD x0.2.1))) true (gtI (zD x1.2.2.1) 24)) true (neI x.1 0)=true then .pure (4,()) else .pure (0,())
def ym:List Bool->Comp A39:=fun x0=>amb (uN x0) (Comp.pure ([],())) ((app [] x0).bind fun zs=>.pure (zs,()))
def YE:List A3->Comp A19:=fun x0=>(Comp.loop (fun (x:A21)=>if ltI x.2 (zD x0)=true then (idx x0 x.2).bind fun a=>(zZ a).bind fun y=>(app x.1 [y.1]).bind fun zs=>.pure (.next (zs,zH .i64 x.2 1)) else .pure (.done x.1)) ([],0)).bind fun x=>.pure (x,())
def vW:Int->List A2->List A2->Comp A9:=fun x0 x1 x2=>(jv x1 x2).bind fun x=>.pure (ntB x.1,())
def yd:List A3->(Int×List A2×Unit->Comp A9)->Comp A19:=fun x0 x1=>(Comp.loop (fun (x:A21)=>if ltI x.2 (zD x0)=true then (idx x0 x.2).bind fun a=>(x1 (x.2,a,())).bind fun b=>jn (fun (c:A18)=>.pure (.next (c,zH .i64 x.2 1))) fun (j:List A3->Comp (Comp.Step A21 A18))=>if b.1=true then (app x.1 [a]).bind fun zs=>j zs else j x.1 else .pure (.done x.1)) ([],0)).bind fun x=>.pure (x,())
def Yr:y8×List A3×List Int×Unit->List Bool×List Bool×List A3×Unit->List A3->List A3->Comp (A5×Int×Unit):=fun x0 x1 x2 x3=>(YD x0 x1).bind fun x=>if neI x.1 0=true then .pure (([],[],[],()),x.1,()) else (zW [x2,x3]).bind fun y=>(jP y.1).bind fun a=>if neI a.1 0=true then .pure (([],[],[],()),a.1,()) else if gtI (zH .i64 (zD x1.2.2.1) (zD x2)) 24=true then .pure (([],[],[],()),2,()) else (ym x1.1).bind fun y_1=>(ym x1.2.1).bind fun xJ=>(zW [x1.2.2.1,x2]).bind fun b=>(YE b.1).bind fun cD=>(Comp.loop (fun (c:Int×A5×List Bool×List Bool×List A3×Unit)=>if ltI c.1 (zD x0.2.1)=true then jn (fun (x:A5×List Bool×List Bool×List A3×Unit)=>.pure (.next (zH .i64 c.1 1,x.1,x.2.1,x.2.2.1,x.2.2.2.1,()))) fun (j:A5×List Bool×List Bool×List A3×Unit->Comp (Comp.Step (Int×A5×List Bool×List Bool×List A3×Unit) A44))=>(idx x0.2.1 c.1).bind fun d=>(idx c.2.2.2.1 c.1).bind fun e=>(Comp.gd (ntB e) (vD d x2) (false,())).bind fun f=>(Comp.gd (ntB (sel e true (ntB f.1))) (vD d x3) (false,())).bind fun g=>(inb c.2.2.2.1.length c.1).bind fun h=>(idx c.2.2.1 c.1).bind fun i=>if i=true then j (c.2.1,c.2.2.1,gz c.2.2.2.1 c.1 (sel (sel e true (ntB f.1)) true (ntB g.1)),c.2.2.2.2.1,()) else (yd c.2.2.2.2.1 fun (z:Int×List A2×Unit)=>vW z.1 z.2.1 d).bind fun y=>(gV y.1 d).bind fun x=>if neI x.2.1 0=true then .pure (.done (Sum.inr (x.2.1,[],[],[],()))) else (inb c.2.2.1.length c.1).bind fun k=>j (c.2.1,gz c.2.2.1 c.1 x.1,gz c.2.2.2.1 c.1 (sel (sel e true (ntB f.1)) true (ntB g.1)),c.2.2.2.2.1,()) else .pure (.done (Sum.inl (c.2.1,c.2.2.1,c.2.2.2.1,c.2.2.2.2.1,())))) (0,([],[],[],()),y_1.1,xJ.1,cD.1,())).bind fun (x:A5×List Bool×List Bool×List A3×Unit⊕Int×List Bool×List Bool×List A3×Unit)=>match x with
             |.inl x=>.pure ((x.2.1,x.2.2.1,x.2.2.2.1,()),0,())
             |.inr x=>.pure (x.2,x.1,())
def gv:A7×A5×List A4×Unit->List Int->Comp (A5×Int×Unit):=fun x0 x1=>(Comp.loop (fun (x:Int×A5×List Bool×List Bool×List A3×Unit)=>if ltI x.1 (zD x1)=true then (idx x1 x.1).bind fun a=>(idx x0.2.2.1 a).bind fun b=>(idx x0.2.2.1 a).bind fun c=>(Yr x0.1 x.2.2 b.1 c.2.1).bind fun d=>if neI d.2.1 0=true then .pure (.done (Sum.inr (d.2.1,[],[],[],()))) else .pure (.next (zH .i64 x.1 1,x.2.1,d.1)) else .pure (.done (Sum.inl (x.2.1,x.2.2)))) (0,([],[],[],()),x0.2.1)).bind fun (x:A5×List Bool×List Bool×List A3×Unit⊕Int×List Bool×List Bool×List A3×Unit)=>match x with
   |.inl x=>.pure (x.2,0,())
   |.inr x=>.pure (x.2,x.1,())
def jT:List A14->Int->Int->Comp A9:=fun x0 x1 x2=>jF.bind fun x=>(kO x0).bind fun y=>(jw y.1).bind fun y=>(vH (rU .i64 x1) (zD y.1.2.2.1)).bind fun y_1=>(vH (rU .i64 x2) (zD y.1.2.2.1)).bind fun xJ=>(vH (rU .i64 (orB .u8 x1 x2)) (zD y.1.2.2.1)).bind fun cD=>(zU (y.1.1,y.1.2.1,y.1.2.2.1,()) y_1.1).bind fun a=>(Comp.gd a.1 (zU (y.1.1,y.1.2.1,y.1.2.2.1,()) xJ.1) (false,())).bind fun b=>(Comp.gd (sel a.1 b.1 false) (zU (y.1.1,y.1.2.1,y.1.2.2.1,()) cD.1) (false,())).bind fun c=>if sel (sel a.1 b.1 false) (ntB c.1) false=true then .pure (false,()) else (yF (y.1.1,y.1.2.1,y.1.2.2.1,()) y_1.1).bind fun d=>(yF (y.1.1,y.1.2.1,y.1.2.2.1,()) cD.1).bind fun e=>if sel (neI d.2.1 0) true (neI e.2.1 0)=true then .pure (x.1,()) else if sel d.1 (ntB e.1) false=true then .pure (false,()) else (gv (y.1.1,y.1.2.1,y.1.2.2.1,()) y_1.1).bind fun f=>if sel (sel (neI f.2.1 0) true (neI (zD f.1.1) (zD y.1.1.2.1))) true (neI (zD f.1.2.1) (zD y.1.1.2.1))=true then .pure (sel x.1 (neI f.2.1 0) false,()) else (Comp.loop (fun (x:Bool×Int)=>if ltI x.2 (zD y.1.1.2.2.1)=true then (idx y.1.1.2.2.1 x.2).bind fun g=>(Comp.gd (adB (ntB (neI g 2)) x.1) (idx f.1.1 x.2) false).bind fun h=>(Comp.gd (eqI g 1) (zU (y.1.1,y.1.2.1,y.1.2.2.1,()) y_1.1) (false,())).bind fun i=>(Comp.gd (sel (eqI g 1) i.1 false) (idx f.1.2.1 x.2) false).bind fun k=>(Comp.gd (sel (eqI g 1) i.1 false) (idx y.1.2.1.2.1 x.2) false).bind fun l=>if sel (sel (eqI g 1) i.1 false) (neB k l) false=true then .pure (.done (Sum.inr false)) else .pure (.next (sel x.1 (sel (neI g 2) true h) false,zH .i64 x.2 1)) else .pure (.done (Sum.inl x.1))) (true,0)).bind fun (g:Bool⊕Bool)=>match g with
                   |.inl h=>.pure (sel x.1 (eqB d.1 h) false,())
                   |.inr x=>.pure (x,())
end Go.F
end
section
namespace Go.Geo
open Go Go.Eng Go.Lift Go.Den Go.F
variable {α β γ δ ε σ τ:Type}
abbrev V3:=Int×Int×Int×Unit
abbrev Pnt:=Int×Int×Int×Int×Unit
def okv(k n:Int):Bool:=decide (-k<=n/\n<=k)
def K6(v:V3):Nat:=Nat.gcd (Nat.gcd v.1.natAbs v.2.1.natAbs) v.2.2.1.natAbs
def okN(v:V3):Bool:=okv 4608 v.1 && (okv 4608 v.2.1 && okv 4608 v.2.2.1)
def okP(p:Pln):Bool:=okN p.1 && (decide (K6 p.1=1) && okv 2097152 p.2.1)
theorem SV:∀(b a:Nat),(Comp.loop
   (fun (x:Int×Int)=>if gtI x.2 0=true then (rem x.1 x.2).bind fun x_3=>Comp.pure (.next (x.2,x_3))
    else Comp.pure (.done x.1)) ((a:Int),(b:Int))).val=some ((Nat.gcd a b:Nat):Int):=by
 intro b
 induction b using Nat.strongRecOn with
 |_ b ih =>
  intro a
  conv=>lhs;rw[zJ]
  by_cases hb:0<b
  ·have h1:(0:Int)<(b:Int):=by omega
   have h2:(rem (a:Int) (b:Int)).val=some ((a % b:Nat):Int):=by grind [Y5]
   have:=ih (a % b) (Nat.mod_lt _ hb) b;simp only[J8,h1,if_true,zA,h2,zMO,Comp.zB];rw[show Nat.gcd a b=Nat.gcd b (a % b) by grind [Nat.gcd_comm,Nat.gcd_rec]]
   simp_all [J8]
  simp_all [gtI]
theorem HT:∀(b a:Int),∃r,r.natAbs=Nat.gcd a.natAbs b.natAbs/\(Comp.loop
   (fun (x:Int×Int)=>if neI x.2 0=true then (rem x.1 x.2).bind fun x_2=>Comp.pure (.next (x.2,x_2)) else Comp.pure (.done x.1)) (a,b)).val=some r:=by
 intro b;generalize hn:b.natAbs=n
 induction n using Nat.strongRecOn generalizing b with
 |_ n ih =>
  intro a;by_cases hb:b=0
  ·refine⟨a,?_,?_⟩
   ·subst hb;grind
   ·conv=>lhs;rw[zJ]
    simp[neI,hb]
  ·have gF:(a.tmod b).natAbs<n:=by rw[Int.natAbs_tmod,<-hn];exact Nat.mod_lt _ (by omega)
   obtain⟨r,h1,h2⟩:=ih _ gF (a.tmod b) rfl b;refine⟨r,?_,?_⟩
   ·grind [Int.natAbs_tmod,Nat.gcd_comm,Nat.gcd_rec]
   ·conv=>lhs;rw[zJ]
    simp only[gJ,ne_eq,hb,not_false_eq_true,if_true,zA,Y5 hb,zMO,Comp.zB];grind
theorem rG{n:Int}(h : -9223372036854775808<n/\n<9223372036854775808):rv n (Yp .i64 n)=(n.natAbs:Int):=by
 grind [JZ,rv]
theorem nW{n:Int}(h : -9223372036854775808<n/\n<9223372036854775808):(jj n).val=some ((n.natAbs:Int),()):=by
 grind [jj,Comp.zB,rG]
theorem Au{l:List Int}(hl:l.length<9223372036854775807)(h:∀n∈l, -9223372036854775808<n/\n<9223372036854775808):(Zf l).val=some (((l.foldl (fun g n=>Nat.gcd g n.natAbs) 0:Nat):Int),()):=by
 unfold Zf;have h1:=wL (fun (s:Nat) i=>(((s:Nat):Int),((i:Nat):Int))) l (fun (s:Nat) n=>.next (Nat.gcd s n.natAbs)) (fun s=>(Sum.inl ((s:Nat):Int):Int⊕Int)) 0
  (body:=fun (x:Int×Int)=>if ltI x.2 (zD l)=true then
       (idx l x.2).bind fun x_1=>if eqI x_1 (-9223372036854775808)=true then Comp.pure (.done (Sum.inr 0))
        else
         (Go.F.jj x_1).bind fun x_2=>(Comp.loop
             (fun (x:Int×Int)=>if gtI x.2 0=true then (rem x.1 x.2).bind fun x_3=>Comp.pure (.next (x.2,x_3))
              else Comp.pure (.done x.1))
             (x.1,x_2.1)).bind fun x_3=>Comp.pure (.next (x_3,zH .i64 x.2 1))
      else Comp.pure (.done (Sum.inl x.1)))
  (fun s i n hx=>by
   have gF:=zL hx;have hn:=h n (zMV hx)
   have h1:(i:Int)<zD l:=by grind
   rw[zMq (by grind),zA,zI hx,zMO,zMr (by grind),zA,nW hn,zMO,zA,SV,zMO,Comp.zB,zN (show i<9223372036854775807 by omega)]
   rfl)
  (fun s=>by
   simp[zR,zj])
 rw[XX]at h1;rw[zA];simp_all
theorem tQ{k:Int}{l:List Int}(hk:0<=k/\k<9223372036854775808)(hl:l.length<9223372036854775807):(jK k l).val=some (l.all fun n=>okv k n,()):=by
 unfold jK;have h1:=Zv l (okv k) (c:=(Sum.inr false:Unit⊕Bool)) (d:=Sum.inl ())
  (body:=fun (x:Int)=>if ltI x (zD l)=true then
       (idx l x).bind fun x_1=>if sel (ltI x_1 (Yp .i64 k)) true (gtI x_1 k)=true then Comp.pure (.done (Sum.inr false))
        else Comp.pure (.next (zH .i64 x 1))
      else Comp.pure (.done (Sum.inl ())))
  (fun i n hx=>by
   have gF:=zL hx;have h1:(i:Int)<zD l:=by grind
   rw[zMq (by grind),zA,zI hx,zMO,JZ (by omega),zN (show i<9223372036854775807 by omega),Xk]
   have e:sel (ltI n (-k)) true (gtI n k) = !okv k n:=by
    grind [okv]
   rw[e];cases okv k n<;>simp)
  (by
   simp[zR,zj])
 rw[zA];refine(zMh (fun o=>Option.bind o _) h1).trans ?_
 grind [Comp.zB]
theorem E3{v:V3}(h:okN v=true):∀n∈[v.1,v.2.1,v.2.2.1], -4608<=n/\n<=4608:=by
 unfold okN okv at h;grind
theorem uQ(p:Pln):(Yw p).val=some (okP p,()):=by
 unfold Yw;have h1:(jK (Int.ofNat 4608) [p.1.1,p.1.2.1,p.1.2.2.1]).val=some (okN p.1,()):=by
  grind [tQ,okN]
 have h2:(jK (Int.ofNat 2097152) [p.2.1]).val=some (okv 2097152 p.2.1,()):=by
  grind [tQ]
 rw[vV,zA,h1,zMO,Xk]
 cases hN:okN p.1 with
 |false=>simp[okP,hN]
 |true =>
  rw[zMq rfl];have h3:=Au (l:=[p.1.1,p.1.2.1,p.1.2.2.1]) (by simp) (fun n hn=>by have:=E3 hN n hn;omega)
  have h4:[p.1.1,p.1.2.1,p.1.2.2.1].foldl (fun g n=>Nat.gcd g n.natAbs) 0=K6 p.1:=by simp[K6]
  rw[h4]at h3;rw[zA,h3,zMO,Xk];by_cases hg:K6 p.1=1
  ·have:eqI ((K6 p.1:Nat):Int) 1=true:=by grind
   simp_all [zA,okP]
  ·have:eqI ((K6 p.1:Nat):Int) 1=false:=by grind
   simp_all [okP]
def chk(c:List Pln):Int:=if 48<c.length then 2 else bif c.all okP then 0 else 12
theorem AQ{c:List Pln}:chk c=0↔c.length<=48/\c.all okP=true:=by
 grind [chk]
theorem zAI(c:List Pln):(c.any fun p=>!okP p) = !c.all okP:=by grind
theorem gx(c:List Pln):(vn c).val=some (chk c,()):=by
 unfold vn chk;by_cases h:48<c.length
 ·rw[zMq (by grind),zMq h,Comp.zB]
 ·rw[zMr (by grind),zMr h]
  have h1:(zY c fun z=>kJ z.1).val=some (c.any fun p=>!okP p,()) :=
   Zu (xs:=c) (f:=fun z=>kJ z.1) (p:=fun p=>!okP p) (by omega) fun p _=>by
    grind [kJ,zA,uQ,Comp.zB]
  rw[zA,h1,zMO,zAI,Xk];cases c.all okP<;>simp
theorem YW(l:List (List Pln))(hl:l.length<9223372036854775807):(ZY l).val=some (l.all fun c=>decide (chk c=0),()):=by
 unfold ZY;have h1:(zG l fun z=>jR z.1).val=some (l.any fun c=>!decide (chk c=0),()) :=
  Zu (xs:=l) (f:=fun z=>jR z.1) (p:=fun c=>!decide (chk c=0)) hl fun c _=>by
   show (jR c).val=_
   grind [jR,zA,gx,Comp.zB]
 rw[zA,h1,zMO,Comp.zB,yV,List.all_eq_not_any_not]
theorem N0{n:Int}(h : -9223372036854775808<n/\n<9223372036854775808):(vU n).val=some ((n.natAbs:Int),()):=by
 unfold vU;by_cases h0:n<0
 ·rw[zMq (by grind),Comp.zB,JZ h];grind
 ·rw[zMr (by grind),Comp.zB];grind
theorem I7{v:V3}(h:okN v=true):∃u,(gm v).val=some (u,((K6 v:Nat):Int),()):=by
 have fW:=E3 h;unfold gm;have hc:(yC v).val=some ([v.1,v.2.1,v.2.2.1],()):=by grind [yC,Comp.zB]
 rw[zA,hc,zMO];simp only;generalize hl:[v.1,v.2.1,v.2.2.1]=l at fW;have fA:l.length=3:=by grind
 have h1:=wL (fun (s:Nat) i=>((((s:Nat):Int),((i:Nat):Int),(0,0,0,())):Int×Int×Int×Int×Int×Unit)) l (fun (s:Nat) n=>.next (Nat.gcd s n.natAbs)) (fun s=>(Sum.inl ((((s:Nat):Int),(0,0,0,())):Int×Int×Int×Int×Unit):(Int×Int×Int×Int×Unit)⊕(Int×Int×Int×Int×Unit))) 0
  (body:=(fun (x_1:Int×Int×Int×Int×Int×Unit)=>if ltI x_1.2.1 3=true then
        (idx l x_1.2.1).bind fun x_2=>if eqI x_2 (-9223372036854775808)=true then Comp.pure (.done (Sum.inr (0,0,0,0,())))
         else
          (idx l x_1.2.1).bind fun x=>(Go.F.vU x).bind fun x=>(Comp.loop
               (fun (x:Int×Int)=>if gtI x.2 0=true then (rem x.1 x.2).bind fun x_3=>Comp.pure (.next (x.2,x_3))
                else Comp.pure (.done x.1))
               (x_1.1,x.1)).bind fun x=>Comp.pure (.next (x,zH .i64 x_1.2.1 1,x_1.2.2))
       else Comp.pure (.done (Sum.inl (x_1.1,x_1.2.2)))))
  (fun s i n hx=>by
   have gF:=zL hx;have hn:=fW n (zMV hx)
   rw[zMq (by grind),zA,zI hx,zMO,zMr (by grind),zA,zI hx,zMO,zA,N0 (by omega),zMO,zA,SV,zMO,Comp.zB,zN (show i<9223372036854775807 by omega)]
   rfl)
  (fun s=>by
   simp_all [zj])
 rw[XX]at h1;have hg:l.foldl (fun g n=>Nat.gcd g n.natAbs) 0=K6 v:=by grind [K6]
 rw[hg]at h1;rw[zA]
 have h2:=zMh (fun o=>Option.bind o fun (x:(Int×Int×Int×Int×Unit)⊕(Int×Int×Int×Int×Unit))=>(match x with
    |Sum.inl x =>
     if eqI x.1 0=true then Comp.pure ((0,0,0,()),0,())
     else
      (quo .i64 v.1 x.1).bind fun x_1=>(quo .i64 v.2.1 x.1).bind fun x_2=>(quo .i64 v.2.2.1 x.1).bind fun x_3=>Comp.pure ((x_1,x_2,x_3,()),x.1,())
    |Sum.inr x=>Comp.pure (x.2,x.1,()):Comp Pln).val) h1
 by_cases h0:K6 v=0
 ·simp_all [Jl]
 ·have hq:∀n,∃m,(quo .i64 n ((K6 v:Nat):Int)).val=some m:=fun n=>by
   simp_all [quo]
  obtain⟨a,ha⟩:=hq v.1;obtain⟨b,hb⟩:=hq v.2.1;obtain⟨c,hc⟩:=hq v.2.2.1;refine⟨(a,b,c,()),h2.trans ?_⟩;show (if eqI ((K6 v:Nat):Int) 0=true then _ else _:Comp Pln).val=_
  simp_all [Jl,zA]
theorem Do(p:Pln):(gR p).val=some (okP p,()):=by
 unfold gR;have hc:(yC p.1).val=some ([p.1.1,p.1.2.1,p.1.2.2.1],()):=by grind [yC,Comp.zB]
 rw[zA,hc,zMO];have h1:=Zv [p.1.1,p.1.2.1,p.1.2.2.1] (okv 4608) (c:=(Sum.inr false:Unit⊕Bool)) (d:=Sum.inl ())
  (body:=(fun (x_1:Int)=>if ltI x_1 3=true then
        (idx [p.1.1,p.1.2.1,p.1.2.2.1] x_1).bind fun x_2=>(Comp.gd (ntB (ltI x_2 (-4608))) (idx [p.1.1,p.1.2.1,p.1.2.2.1] x_1) (Int.ofNat 0)).bind fun x_3=>if sel (ltI x_2 (-4608)) true (gtI x_3 4608)=true then Comp.pure (.done (Sum.inr false))
          else Comp.pure (.next (zH .i64 x_1 1))
       else Comp.pure (.done (Sum.inl ()))))
  (fun i n hx=>by
   have gF:=zL hx;have hlt3:i<3:=gF
   rw[zMq (by grind),zA,zI hx,zMO,zA,RD,zI hx,zN (show i<9223372036854775807 by omega)]
   unfold okv;by_cases h1:n < -4608
   ·have:ltI n (-4608)=true:=by grind
    have h2:¬(-4608<=n/\n<=4608):=by omega
    simp[this,yV,sel,h2]
   ·have:ltI n (-4608)=false:=by grind
    by_cases h3:n > 4608
    ·simp_all [J8,yV,sel]
    ·have h2:(-4608<=n/\n<=4608):=by omega
     have h4:gtI n 4608=false:=by grind
     simp[this,yV,sel,h2,h4])
  (by simp[zj])
 rw[zA];have fG:[p.1.1,p.1.2.1,p.1.2.2.1].all (okv 4608)=okN p.1:=by simp[okN]
 rw[fG]at h1;refine(zMh (fun o=>Option.bind o _) h1).trans ?_
 rw[zMO]
 cases hN:okN p.1 with
 |false=>grind [Comp.zB,okP]
 |true =>
  obtain⟨u,hu⟩:=I7 hN;show ((gm p.1).bind fun x=>Comp.pure (sel (sel (eqI x.2.1 1) (geI p.2.1 (-2097152)) false) (leI p.2.1 2097152) false,())).val=_
  rw[zA,hu,zMO,Comp.zB];unfold okP okv;rw[hN,Yh,Yh];unfold eqI geI leI
  congr 2
  grind
theorem jr(c:List Pln):(za c).val=some (chk c,()):=by
 unfold za chk;by_cases h:48<c.length
 ·rw[zMq (by grind),zMq h,Comp.zB]
 ·rw[zMr (by grind),zMr h]
  have h1:=Zv c okP (c:=(Sum.inr 12:Unit⊕Int)) (d:=Sum.inl ())
   (body:=(fun (x:Int)=>if ltI x (zD c)=true then
        (idx c x).bind fun x_1=>(Go.F.gR x_1).bind fun x_2=>if ntB x_2.1=true then Comp.pure (.done (Sum.inr 12)) else Comp.pure (.next (zH .i64 x 1))
       else Comp.pure (.done (Sum.inl ()))))
   (fun i p hx=>by
    have gF:=zL hx;rw[zMq (by grind),zA,zI hx,zMO,zA,Do,zMO,Xk,yV,zN (show i<9223372036854775807 by omega)]
    cases okP p<;>simp)
   (by simp[zj,zR])
  rw[zA];refine(zMh (fun o=>Option.bind o _) h1).trans ?_
  grind [Comp.zB]
def cr(a b:V3):V3:=(a.2.1 * b.2.2.1-a.2.2.1 * b.2.1,a.2.2.1 * b.1-a.1 * b.2.2.1,a.1 * b.2.1-a.2.1 * b.1,())
def dt(a b:V3):Int:=a.1 * b.1+a.2.1 * b.2.1+a.2.2.1 * b.2.2.1
def ad(a b:V3):V3:=(a.1+b.1,a.2.1+b.2.1,a.2.2.1+b.2.2.1,())
def sc(a:V3)(n:Int):V3:=(a.1 * n,a.2.1 * n,a.2.2.1 * n,())
def Bd(k:Int)(v:V3):Prop:=(-k<=v.1/\v.1<=k)/\(-k<=v.2.1/\v.2.1<=k)/\(-k<=v.2.2.1/\v.2.2.1<=k)
theorem vA{a b A B:Int}(ha : -A<=a/\a<=A)(hb : -B<=b/\b<=B) : -(A * B)<=a * b/\a * b<=A * B:=by
 have hA:0<=A:=by omega
 have hB:0<=B:=by omega
 have h1:(a * b).natAbs<=(A * B).natAbs:=by
  rw[Int.natAbs_mul,Int.natAbs_mul];exact Nat.mul_le_mul (by omega) (by omega)
 grind [Int.mul_nonneg]
theorem zEV{v:V3}(h:okN v=true):Bd 4608 v:=by
 have:=E3 h;exact⟨this v.1 (by simp),this v.2.1 (by simp),this v.2.2.1 (by simp)⟩
theorem KA{a b:V3}(ha:Bd 4608 a)(hb:Bd 4608 b):Bd 42467328 (cr a b):=by
 obtain⟨a1,a2,a3⟩:=ha;obtain⟨b1,b2,b3⟩:=hb;have e1:=vA a2 b3;have e2:=vA a3 b2;have e3:=vA a3 b1;have e4:=vA a1 b3;have e5:=vA a1 b2;have e6:=vA a2 b1
 unfold cr Bd;grind
theorem K8{a:V3}{n A B:Int}(ha:Bd A a)(hn : -B<=n/\n<=B):Bd (A * B) (sc a n):=⟨vA ha.1 hn,vA ha.2.1 hn,vA ha.2.2 hn⟩
theorem Bd.le{A B:Int}{v:V3}(h:Bd A v)(tU:A<=B):Bd B v:=by
 obtain⟨h1,h2,h3⟩:=h;refine⟨?_,?_,?_⟩<;>omega
theorem JT{a b:V3}(ha:Bd 4608 a)(hb:Bd 4608 b):(Zk a b).val=some (cr a b,()):=by
 obtain⟨a1,a2,a3⟩:=ha;obtain⟨b1,b2,b3⟩:=hb;have e1:=vA a2 b3;have e2:=vA a3 b2;have e3:=vA a3 b1;have e4:=vA a1 b3;have e5:=vA a1 b2;have e6:=vA a2 b1
 unfold Zk;rw[Comp.zB,XB (m:=a.2.1) (by omega),XB (m:=a.2.2.1) (by omega),XB (m:=a.2.2.1) (by omega),XB (m:=a.1) (by omega),XB (m:=a.1) (by omega),XB (m:=a.2.1) (by omega),
  JW (by omega),JW (by omega),JW (by omega)]
 rfl
theorem XW{a b:V3}(ha:Bd 4608 a)(hb:Bd 4608 b):(vd a b).val=some (cr a b,()):=JT ha hb
theorem tE{a b:V3}(ha:Bd 4608 a)(hb:Bd 42467328 b):(Zb a b).val=some (dt a b,()):=by
 obtain⟨a1,a2,a3⟩:=ha;obtain⟨b1,b2,b3⟩:=hb;have e1:=vA a1 b1;have e2:=vA a2 b2;have e3:=vA a3 b3
 unfold Zb;rw[Comp.zB,XB (m:=a.1) (by omega),XB (m:=a.2.1) (by omega),XB (m:=a.2.2.1) (by omega),ku (m:=a.1 * b.1) (by omega),ku (by omega)]
 rfl
theorem Nz{a b:V3}(ha:Bd 4608 a)(hb:Bd 42467328 b):(Z8 a b).val=some (dt a b,()):=tE ha hb
theorem JL{a:V3}{n:Int}(h:Bd 9223372036854775807 (sc a n)):(Yc a n).val=some (sc a n,()):=by
 obtain⟨h1,h2,h3⟩:=h;grind [sc,Yc,Comp.zB,XB]
theorem Yv{a:V3}{n:Int}(h:Bd 9223372036854775807 (sc a n)):(yc a n).val=some (sc a n,()):=JL h
theorem tH{a b:V3}(h:Bd 9223372036854775807 (ad a b)):(XM a b).val=some (ad a b,()):=by
 obtain⟨h1,h2,h3⟩:=h;grind [ad,XM,Comp.zB]
theorem BZ{a b:V3}(h:Bd 9223372036854775807 (ad a b)):(kM a b).val=some (ad a b,()):=tH h
theorem rV{a b:V3}{A B:Int}(ha:Bd A a)(hb:Bd B b):Bd (A+B) (ad a b):=by
 obtain⟨a1,a2,a3⟩:=ha;obtain⟨b1,b2,b3⟩:=hb;unfold ad Bd;grind
def det(p q r:Pln):Int:=dt p.1 (cr q.1 r.1)
def num(p q r:Pln):V3:=ad (ad (sc (cr q.1 r.1) p.2.1) (sc (cr r.1 p.1) q.2.1)) (sc (cr p.1 q.1) r.2.1)
theorem Hf(p q r:Pln):det p q r=dt r.1 (cr p.1 q.1):=by
 grind [det,dt,cr]
def okB(p:Pln):Prop:=Bd 4608 p.1/\(-2097152<=p.2.1/\p.2.1<=2097152)
theorem zGz{p:Pln}(h:okP p=true):okB p:=by
 unfold okP okv at h;simp only[zMQ,zMi]at h;exact⟨zEV h.1,h.2.2⟩
theorem GF{p q r:Pln}(hp:okB p)(hq:okB q)(hr:okB r) : -600000000000<=det p q r/\det p q r<=600000000000:=by
 have hc:=KA hq.1 hr.1;have e1:=vA hp.1.1 hc.1;have e2:=vA hp.1.2.1 hc.2.1;have e3:=vA hp.1.2.2 hc.2.2
 unfold det dt;omega
theorem E4{p q r:Pln}(hp:okB p)(hq:okB q)(hr:okB r):Bd 300000000000000 (num p q r):=by
 have h1:=K8 (KA hq.1 hr.1) hp.2;have h2:=K8 (KA hr.1 hp.1) hq.2
 have h3:=K8 (KA hp.1 hq.1) hr.2;exact(rV (rV h1 h2) h3).le (by decide)
def km(v:V3)(w:Int):Nat:=Nat.gcd (Nat.gcd v.1.natAbs v.2.1.natAbs) (Nat.gcd v.2.2.1.natAbs w.natAbs)
def mkP(v:V3)(w:Int):Pnt :=
 let g:Int:=(km v w:Nat)
 if w<0 then ((-v.1).tdiv g,(-v.2.1).tdiv g,(-v.2.2.1).tdiv g,(-w).tdiv g,()) else (v.1.tdiv g,v.2.1.tdiv g,v.2.2.1.tdiv g,w.tdiv g,())
def mt(p q r:Pln):Option Pnt:=if det p q r=0 then none else some (mkP (num p q r) (det p q r))
def uV:Option Pnt->Pnt×Bool×Unit
 |some x=>(x,true,())
 |none=>((0,0,0,0,()),false,())
theorem qe{v:V3}{w:Int}(h:w≠0):0<km v w:=by
 grind [km]
theorem Gb{a b:Int}:(a.tdiv b).natAbs<=a.natAbs:=by rw[Int.natAbs_tdiv];exact Nat.div_le_self _ _
theorem kb{a b:Int}(hb:b≠0)(ha : -9223372036854775808<a/\a<9223372036854775808):(quo .i64 a b).val=some (a.tdiv b):=by
 unfold quo;rw[zMr hb,Comp.zB];have:=Gb (a:=a) (b:=b)
 exact zMh some (r9 (by omega))
theorem nV{v:V3}{w:Int}(hv:Bd 300000000000000 v)(hw : -600000000000<=w/\w<=600000000000):(Ki [v.1,v.2.1,v.2.2.1,w]).val=some (((km v w:Nat):Int),()):=by
 unfold Ki;generalize hl:[v.1,v.2.1,v.2.2.1,w]=l;have fA:l.length=4:=by grind
 have key:∀(ys zs:List Int) (g:Int),l=zs++ys->∃r,r.natAbs=ys.foldl (fun g n=>Nat.gcd g n.natAbs) g.natAbs/\(Comp.loop
     (fun (x:Int×Int)=>if ltI x.2 (zD l)=true then
       (idx l x.2).bind fun x_1=>(Comp.loop
           (fun (x:Int×Int)=>if neI x.2 0=true then (rem x.1 x.2).bind fun x_2=>Comp.pure (.next (x.2,x_2)) else Comp.pure (.done x.1))
           (x.1,x_1)).bind fun x_2=>Comp.pure (.next (x_2,zH .i64 x.2 1))
      else Comp.pure (.done x.1)) (g,(zs.length:Int))).val=some r:=by
  intro ys
  induction ys with
  |nil =>
   intro zs g hx;refine⟨g,rfl,?_⟩;rw[zJ,zMr (by grind),Comp.zB,zMO]
  |cons y ys ih =>
   intro zs g hx;have hy:l[zs.length]?=some y:=by grind
   have gF:=zL hy;obtain⟨r1,h1,h2⟩:=HT y g;obtain⟨r,h3,h4⟩:=ih (zs++[y]) r1 (by grind)
   refine⟨r,by grind,?_⟩
   rw[zJ,zMq (by grind),zA,zI hy,zMO,zA,h2,zMO,Comp.zB,zN (by omega),zMO]
   simpa using h4
 obtain⟨r,h1,h2⟩:=key l [] 0 rfl;rw[zA];refine(zMh (fun o=>Option.bind o _) h2).trans ?_
 rw[zMO,Comp.zB];have hg:r.natAbs=km v w:=by
  grind [km]
 have hgw:(km v w)<=900000000000000:=by
  unfold km;by_cases hw0:w=0
  ·by_cases h3:v.2.2.1=0
   ·by_cases h2:v.2.1=0
    ·rw[hw0,h3,h2];simp;have:=hv.1;omega
    ·refine zMX (Nat.le_of_dvd (by omega) (Nat.dvd_trans (Nat.gcd_dvd_left _ _) (Nat.gcd_dvd_right _ _)):_<=v.2.1.natAbs) ?_
     have:=hv.2.1;omega
   ·refine zMX (Nat.le_of_dvd (by omega) (Nat.dvd_trans (Nat.gcd_dvd_right _ _) (Nat.gcd_dvd_left _ _)):_<=v.2.2.1.natAbs) ?_
    have:=hv.2.2;omega
  ·refine zMX (Nat.le_of_dvd (by omega) (Nat.dvd_trans (Nat.gcd_dvd_right _ _) (Nat.gcd_dvd_right _ _)):_<=w.natAbs) ?_
   omega
 grind [rG]
theorem J2(a b:Nat):(zy (a:Int) (b:Int)).val=some (((Nat.gcd a b:Nat):Int),()):=by
 unfold zy;obtain⟨r,h1,h2⟩:=HT (b:Int) (a:Int);have key:∀(b a:Nat),(Comp.loop
   (fun (x:Int×Int)=>if neI x.2 0=true then (rem x.1 x.2).bind fun x_2=>Comp.pure (.next (x.2,x_2)) else Comp.pure (.done x.1)) ((a:Int),(b:Int))).val=some ((Nat.gcd a b:Nat):Int):=by
  intro b
  induction b using Nat.strongRecOn with
  |_ b ih =>
   intro a;rw[zJ];by_cases hb:b=0
   ·simp_all [gJ]
   ·have h2:(rem (a:Int) (b:Int)).val=some ((a % b:Nat):Int):=by grind [Y5]
    rw[zMq (by grind),zA,h2,zMO,Comp.zB,zMO]
    refine(ih (a % b) (Nat.mod_lt _ (by omega)) b).trans ?_
    grind [Nat.gcd_comm,Nat.gcd_rec]
 rw[zA,key,zMO,Comp.zB]
theorem zEa{v:V3}{k:Int}(h:Bd k v):Bd k (sc v (-1)):=by
 obtain⟨h1,h2,h3⟩:=h;unfold sc Bd;grind
theorem rh{p q r:Pln}(hp:okB p)(hq:okB q)(hr:okB r):(XO [p,q,r]).val=some (uV (mt p q r)):=by
 unfold XO;have hd:=GF hp hq hr
 have hn:=E4 hp hq hr;have c1:=KA hq.1 hr.1;have c2:=KA hr.1 hp.1;have c3:=KA hp.1 hq.1
 have s1:=K8 c1 hp.2;have s2:=K8 c2 hq.2;have s3:=K8 c3 hr.2
 have z:Bd 0 (0,0,0,()):=by unfold Bd;simp
 have a1:=rV z s1;have a2:=rV a1 s2;have a3:=rV a2 s3
 have hz:ad (0,0,0,()) (sc (cr q.1 r.1) p.2.1)=sc (cr q.1 r.1) p.2.1:=by grind [ad]
 have r1:(rem (zH .i64 0 1) 3).val=some 1:=by grind [Y5]
 have r2:(rem (zH .i64 0 2) 3).val=some 2:=by grind [Y5]
 have r3:(rem (zH .i64 1 1) 3).val=some 2:=by grind
 have r4:(rem (zH .i64 1 2) 3).val=some 0:=by grind [Y5]
 have r5:(rem (zH .i64 2 1) 3).val=some 0:=by grind
 have r6:(rem (zH .i64 2 2) 3).val=some 1:=by grind [Y5]
 have i0:(idx [p,q,r] 0).val=some p:=Kx rfl;have i1:(idx [p,q,r] 1).val=some q:=Kx rfl
 have i2:(idx [p,q,r] 2).val=some r:=Kx rfl;have cE:(Comp.loop
     (fun (x:Int×Int×Int×Int×Int×Unit)=>if ltI x.2.1 3=true then
       (idx [p,q,r] x.2.1).bind fun x_1=>(rem (zH .i64 x.2.1 1) 3).bind fun x_2=>(idx [p,q,r] x_2).bind fun x_3=>(rem (zH .i64 x.2.1 2) 3).bind fun x_4=>(idx [p,q,r] x_4).bind fun x_5=>(Go.F.Zk x_3.1 x_5.1).bind fun x_6=>(Go.F.Zb x_1.1 x_6.1).bind fun x_7=>(Go.F.Yc x_6.1 x_1.2.1).bind fun x_8=>(Go.F.XM x.2.2 x_8.1).bind fun lC=>Comp.pure (.next (x_7.1,zH .i64 x.2.1 1,lC.1))
      else Comp.pure (.done (x.1,x.2.2)))
     (0,0,0,0,0,())).val=some ((det p q r,num p q r):Int×V3):=by
  rw[zJ,zMq (by grind)]
  simp only[zA,i0,r1,i1,r2,i2,JT hq.1 hr.1,tE hp.1 c1,JL (s1.le (by decide)),zMO,Comp.zB]
  rw[tH (a1.le (by decide)),zMO,zMO]
  simp only;rw[zJ,zMq (by grind)]
  simp only[show zH .i64 0 1=1 from rfl,zA,i1,r3,i2,r4,i0,JT hr.1 hp.1,tE hq.1 c2,JL (s2.le (by decide)),zMO,Comp.zB]
  rw[tH (a2.le (by decide)),zMO,zMO]
  simp only;rw[zJ,zMq (by grind)]
  simp only[show zH .i64 1 1=2 from rfl,zA,i2,r5,i0,r6,i1,JT hp.1 hq.1,tE hr.1 c3,JL (s3.le (by decide)),zMO,Comp.zB]
  rw[tH (a3.le (by decide)),zMO,zMO]
  simp only;rw[zJ,zMr (by grind),Comp.zB,zMO,hz,Hf]
  rfl
 rw[zA];refine(zMh (fun o=>Option.bind o _) cE).trans ?_
 rw[zMO];simp only;unfold mt;by_cases h0:det p q r=0
 ·rw[zMq (by grind),zMq h0,Comp.zB];rfl
 ·rw[zMr (by grind),zMr h0,zA,nV hn hd,zMO,vV]
  have hg:=qe (v:=num p q r) h0;have cR:km (num p q r) (det p q r)<=600000000000:=by
   refine zMX (Nat.le_of_dvd (by omega) (Nat.dvd_trans (Nat.gcd_dvd_right _ _) (Nat.gcd_dvd_right _ _)):_<=(det p q r).natAbs) ?_
   omega
  obtain⟨n1,n2,n3⟩:=hn;by_cases a8:det p q r<0
  ·rw[zMq (by grind),JZ (by omega)]
   rw[zA,kb (by omega) (by omega),zMO,zA,kb (by omega) (by omega),zMO,zA,kb (by omega) (by omega),zMO,zA,kb (by omega) (by omega),zMO,Comp.zB]
   unfold mkP;simp only[zMq a8,Int.tdiv_neg,Int.neg_tdiv];rfl
  ·rw[zMr (by grind)]
   rw[zA,kb (by omega) (by omega),zMO,zA,kb (by omega) (by omega),zMO,zA,kb (by omega) (by omega),zMO,zA,kb (by omega) (by omega),zMO,Comp.zB]
   unfold mkP;simp only[zMr a8];rfl
theorem I4{p q r:Pln}(hp:okB p)(hq:okB q)(hr:okB r):(vL p q r).val=some (uV (mt p q r)):=by
 unfold vL;have hd:=GF hp hq hr
 have hn:=E4 hp hq hr;have c1:=KA hq.1 hr.1;have c2:=KA hr.1 hp.1;have c3:=KA hp.1 hq.1
 have s1:=K8 c1 hp.2;have s2:=K8 c2 hq.2;have s3:=K8 c3 hr.2
 have a2:=rV s1 s2;have a3:=rV a2 s3
 rw[zA,XW hq.1 hr.1,zMO,zA,Nz hp.1 c1,zMO];unfold mt;by_cases h0:det p q r=0
 ·rw[zMq (by rw[Jl];exact h0),zMq h0,Comp.zB];rfl
 ·rw[zMr (by rw[Jl];exact h0),zMr h0]
  rw[zA,XW hq.1 hr.1,zMO,zA,Yv (s1.le (by decide)),zMO,zA,XW hr.1 hp.1,zMO,zA,Yv (s2.le (by decide)),zMO,
   zA,BZ (a2.le (by decide)),zMO,zA,XW hp.1 hq.1,zMO,zA,Yv (s3.le (by decide)),zMO,zA,BZ (a3.le (by decide)),zMO,vV]
  change (if ltI (det p q r) 0=true then (yc (num p q r) (Int.negSucc 0)).bind _ else _:Comp (Pnt×Bool×Unit)).val=_
  have key:∀(w:Int) (v:V3),w≠0->(0<w/\w<=600000000000)->Bd 300000000000000 v->((zy (rv v.1 (Yp .i64 v.1)) (rv v.2.1 (Yp .i64 v.2.1))).bind fun lC=>(Go.F.zy (rv v.2.2.1 (Yp .i64 v.2.2.1)) w).bind fun lR=>(Go.F.zy lC.1 lR.1).bind fun dH=>(quo .i64 v.1 dH.1).bind fun x_12=>(quo .i64 v.2.1 dH.1).bind fun x_13=>(quo .i64 v.2.2.1 dH.1).bind fun x_14=>(quo .i64 w dH.1).bind fun x=>(Comp.pure ((x_12,x_13,x_14,x,()),true,()):Comp (Pnt×Bool×Unit))).val =
     some ((v.1.tdiv (km v w:Nat),v.2.1.tdiv (km v w:Nat),v.2.2.1.tdiv (km v w:Nat),w.tdiv (km v w:Nat),()),true,()):=by
   intro w v hw0 hw hv;obtain⟨n1,n2,n3⟩:=hv;have hg:=qe (v:=v) hw0
   have ew:w=((w.natAbs:Nat):Int):=by omega
   rw[rG (by omega),rG (by omega),rG (by omega)]
   rw[zA,J2,zMO,zA];have h2:(zy ((v.2.2.1.natAbs:Nat):Int) w).val=some (((Nat.gcd v.2.2.1.natAbs w.natAbs:Nat):Int),()):=by
    grind [J2]
   rw[h2,zMO,zA,J2,zMO]
   change ((quo .i64 v.1 ((km v w:Nat):Int)).bind _).val=_
   rw[zA,kb (by omega) (by omega),zMO]
   change ((quo .i64 v.2.1 ((km v w:Nat):Int)).bind _).val=_
   rw[zA,kb (by omega) (by omega),zMO]
   change ((quo .i64 v.2.2.1 ((km v w:Nat):Int)).bind _).val=_
   rw[zA,kb (by omega) (by omega),zMO]
   change ((quo .i64 w ((km v w:Nat):Int)).bind _).val=_
   grind [zA,kb,Comp.zB]
  by_cases a8:det p q r<0
  ·rw[zMq (by grind)]
   have hb:Bd 300000000000000 (sc (num p q r) (Int.negSucc 0)):=zEa hn;rw[zA,Yv (hb.le (by decide)),zMO,show Yp .i64 (dt p.1 (cr q.1 r.1)) = -det p q r from JZ (m:=det p q r) (by omega)]
   refine(key (-det p q r) (sc (num p q r) (Int.negSucc 0)) (by omega) (by omega) hb).trans ?_
   have hg:km (sc (num p q r) (Int.negSucc 0)) (-det p q r)=km (num p q r) (det p q r):=by
    unfold km sc;simp_all
   unfold uV mkP;simp only[zMq a8,hg];unfold sc;grind
  ·rw[zMr (by grind)]
   refine(key (det p q r) (num p q r) h0 (by omega) hn).trans ?_
   simp_all [uV,mkP,zMr]
theorem Yf(ys:List τ)(c:Comp (List τ×β)):(tell ys c).val=c.val.map fun p=>(ys++p.1,p.2):=by
 unfold tell;rw[zA];cases c.val<;>simp
theorem tf{body:σ->Comp (List τ×Comp.Step σ ε)}{s s':σ}{ys zs:List τ}{e:ε}(h1:(body s).val=some (ys,.next s'))(h2:(YA body s').val=some (zs,e)):(YA body s).val=some (ys++zs,e):=by
 obtain⟨n,hn⟩:=vN.1 h1;obtain⟨m,hm⟩:=vN.1 h2;refine vN.2 ⟨max n m+1,?_⟩;have a1:=(body s).mono (show n<=max n m+1 by omega) hn
 have a2:ZK body (max n m+1) (max n m) s'=some (zs,e):=w6 (by omega) (by omega) hm
 show ZK body (max n m+1) (max n m+1) s=_
 grind [ZK]
theorem Jw{body:σ->Comp (List τ×Comp.Step σ ε)}{s:σ}{ys:List τ}{e:ε}(h1:(body s).val=some (ys,.done e)):(YA body s).val=some (ys,e):=by
 obtain⟨n,hn⟩:=vN.1 h1;refine vN.2 ⟨n+1,?_⟩;have a1:=(body s).mono (show n<=n+1 by omega) hn
 show ZK body (n+1) (n+1) s=_
 grind [ZK]
theorem Jr{body:Int->Comp (List τ×Comp.Step Int ε)}(xs:List α)(g:Nat->List τ){e:ε}(hb:∀(i:Nat) x,xs[i]?=some x->(body (i:Int)).val=some (g i,.next ((i+1:Nat):Int)))(he:(body (xs.length:Int)).val=some ([],.done e)) :
  (YA body 0).val=some ((List.range xs.length).flatMap g,e):=by
 have key:∀(m k:Nat),k+m=xs.length->(YA body (k:Int)).val=some ((List.range' k m).flatMap g,e):=by
  intro m
  induction m with
  |zero =>
   grind [Jw]
  |succ m ih =>
   intro k hk;obtain⟨x,hx⟩:=zO (xs:=xs) (k:=k) (by omega)
   rw[List.range'_succ,List.flatMap_cons];grind [tf]
 grind [List.range_eq_range']
def prs:List α->List (α×α)
 | []=>[]
 |q::l=>l.map (fun s=>(q,s))++prs l
def tri:List α->List (α×α×α)
 | []=>[]
 |p::l=>(prs l).map (fun t=>(p,t))++tri l
theorem MW(l:List α)(f:α->List β)(i:Nat)(g:Nat->List β)(h:∀(k:Nat) x,l[k]?=some x->g (i+k)=f x):(List.range' i l.length).flatMap g=l.flatMap f:=by
 induction l generalizing i with
 |nil=>rfl
 |cons x l ih =>
  rw[zMY,List.range'_succ,List.flatMap_cons,List.flatMap_cons];have h0:=h 0 x rfl
  rw[Nat.add_zero]at h0;rw[h0,ih (i+1) fun k y hk=>by rw[<-h (k+1) y (by grind)];grind]
theorem Ar(l:List α)(f:α->β):l.flatMap (fun s=>[f s])=l.map f:=by
 induction l with
 |nil=>rfl
 |cons x l ih=>grind
theorem I8(l:List α)(g:Nat->List β)(f:α×α->β)(i:Nat)(h:∀(k:Nat) q,l[k]?=some q->g (i+k)=(l.drop (k+1)).map fun s=>f (q,s)):(List.range' i l.length).flatMap g=(prs l).map f:=by
 induction l generalizing i with
 |nil=>rfl
 |cons x l ih =>
  rw[zMY,List.range'_succ,List.flatMap_cons];have h0:=h 0 x rfl
  rw[Nat.add_zero]at h0;rw[h0,prs,List.map_append,List.map_map]
  congr 1
  grind
theorem Iu(l:List α)(g:Nat->List β)(f:α×α×α->β)(i:Nat)(h:∀(k:Nat) p,l[k]?=some p->g (i+k)=(prs (l.drop (k+1))).map fun t=>f (p,t)):(List.range' i l.length).flatMap g=(tri l).map f:=by
 induction l generalizing i with
 |nil=>rfl
 |cons x l ih =>
  rw[zMY,List.range'_succ,List.flatMap_cons];have h0:=h 0 x rfl
  rw[Nat.add_zero]at h0;rw[h0,tri,List.map_append,List.map_map]
  congr 1
  grind
theorem mI{xs:List α}{k:Nat}(h:k<=xs.length):(sub xs (k:Int) (zD xs)).val=some (xs.drop k):=by
 simp_all [YK,zR]
theorem Ab{r:List Pln}(hl:r.length<4611686018427387904):(vr r).val=some ((tri r).map fun t=>([t.1,t.2.1,t.2.2],())):=by
 unfold vr;have inner:∀(p q:Pln) (l:List Pln),l.length<4611686018427387904->(YA
                     (fun (x_5:Int)=>if ltI x_5 (zD l)=true then
                       (idx l x_5).bind fun x=>tell [([p,q,x],())] (Comp.pure ([],.next (zH .i64 x_5 1)))
                      else Comp.pure ([],.done (Sum.inl ():Unit⊕Unit)))
                     0).val=some (l.map fun s=>([p,q,s],()),Sum.inl ()):=by
  intro p q l hl;have h1:=Jr l (fun i=>match l[i]? with|some s=>[([p,q,s],())]|none=>[]) (e:=(Sum.inl ():Unit⊕Unit)) (body:=(fun (x_5:Int)=>if ltI x_5 (zD l)=true then
                       (idx l x_5).bind fun x=>tell [([p,q,x],())] (Comp.pure ([],.next (zH .i64 x_5 1)))
                      else Comp.pure ([],.done (Sum.inl ():Unit⊕Unit))))
   (fun i x hx=>by
    have gF:=zL hx;rw[zMq (by grind),zA,zI hx,zMO,Yf,Comp.zB,zN (by omega),hx]
    rfl)
   (by simp[zj,zR])
  rw[h1,List.range_eq_range',MW l (fun s=>[([p,q,s],())]) 0 _ (fun k x hk=>by grind)]
  rw[Ar]
 have mid:∀(p:Pln) (i:Nat),i<r.length->(YA
              (fun (x_3:Int)=>if ltI x_3 (zD (r.drop (i+1)))=true then
                (idx (r.drop (i+1)) x_3).bind fun x_4=>(sub r (zH .i64 (zH .i64 (i:Int) x_3) 2) (zD r)).bind fun x=>(YA
                     (fun (x_5:Int)=>if ltI x_5 (zD x)=true then
                       (idx x x_5).bind fun x=>tell [([p,x_4,x],())] (Comp.pure ([],.next (zH .i64 x_5 1)))
                      else Comp.pure ([],.done (Sum.inl ():Unit⊕Unit)))
                     0).bind fun (p:List (List (Pln)×Unit)×(Unit⊕Unit))=>tell p.1
                    (match p.2 with
                    |Sum.inl x=>Comp.pure ([],.next (zH .i64 x_3 1))
                    |Sum.inr x=>Comp.pure ([],.done (Sum.inr ():Unit⊕Unit)))
               else Comp.pure ([],.done (Sum.inl ():Unit⊕Unit)))
              0).val=some ((prs (r.drop (i+1))).map fun t=>([p,t.1,t.2],()),Sum.inl ()):=by
  intro p i hi;have hdl:(r.drop (i+1)).length=r.length-(i+1):=List.length_drop ..
  have h1:=Jr (r.drop (i+1)) (fun j=>match (r.drop (i+1))[j]? with|some q=>((r.drop (i+1)).drop (j+1)).map fun s=>([p,q,s],())|none=>[]) (e:=(Sum.inl ():Unit⊕Unit)) (body:=(fun (x_3:Int)=>if ltI x_3 (zD (r.drop (i+1)))=true then
                (idx (r.drop (i+1)) x_3).bind fun x_4=>(sub r (zH .i64 (zH .i64 (i:Int) x_3) 2) (zD r)).bind fun x=>(YA
                     (fun (x_5:Int)=>if ltI x_5 (zD x)=true then
                       (idx x x_5).bind fun x=>tell [([p,x_4,x],())] (Comp.pure ([],.next (zH .i64 x_5 1)))
                      else Comp.pure ([],.done (Sum.inl ():Unit⊕Unit)))
                     0).bind fun (p:List (List (Pln)×Unit)×(Unit⊕Unit))=>tell p.1
                    (match p.2 with
                    |Sum.inl x=>Comp.pure ([],.next (zH .i64 x_3 1))
                    |Sum.inr x=>Comp.pure ([],.done (Sum.inr ():Unit⊕Unit)))
               else Comp.pure ([],.done (Sum.inl ():Unit⊕Unit))))
   (fun j q hq=>by
    have gF:=zL hq;have e1:zH .i64 (zH .i64 (i:Int) (j:Int)) 2=((i+j+2:Nat):Int):=by grind
    rw[zMq (by grind),zA,zI hq,zMO,e1,zA,mI (by omega),zMO,zA,inner p q _ (by grind),zMO,Yf]
    grind [Comp.zB,List.drop_drop])
   (by simp[zj,zR])
  rw[h1,List.range_eq_range',I8 (r.drop (i+1)) _ (fun t=>([p,t.1,t.2],())) 0 (fun k q hk=>by grind)]
 have h1:=Jr r (fun i=>match r[i]? with|some p=>(prs (r.drop (i+1))).map fun t=>([p,t.1,t.2],())|none=>[]) (e:=(Sum.inl ():Unit⊕Unit)) (body:=(fun (x:Int)=>if ltI x (zD r)=true then
         (idx r x).bind fun x_1=>(sub r (zH .i64 x 1) (zD r)).bind fun x_2=>(YA
              (fun (x_3:Int)=>if ltI x_3 (zD x_2)=true then
                (idx x_2 x_3).bind fun x_4=>(sub r (zH .i64 (zH .i64 x x_3) 2) (zD r)).bind fun x=>(YA
                     (fun (x_5:Int)=>if ltI x_5 (zD x)=true then
                       (idx x x_5).bind fun x=>tell [([x_1,x_4,x],())] (Comp.pure ([],.next (zH .i64 x_5 1)))
                      else Comp.pure ([],.done (Sum.inl ())))
                     0).bind fun (p:List (List (Pln)×Unit)×(Unit⊕Unit))=>tell p.1
                    (match p.2 with
                    |Sum.inl x=>Comp.pure ([],.next (zH .i64 x_3 1))
                    |Sum.inr x=>Comp.pure ([],.done (Sum.inr ())))
               else Comp.pure ([],.done (Sum.inl ())))
              0).bind fun (p:List (List (Pln)×Unit)×(Unit⊕Unit))=>tell p.1
             (match p.2 with
             |Sum.inl x_3=>Comp.pure ([],.next (zH .i64 x 1))
             |Sum.inr x=>Comp.pure ([],.done (Sum.inr ())))
        else Comp.pure ([],.done (Sum.inl ()))))
  (fun i p hp=>by
   have gF:=zL hp;rw[zMq (by grind),zA,zI hp,zMO,zN (by omega),zA,mI (by omega),zMO,zA,mid p i gF,zMO,Yf]
   grind [Comp.zB])
  (by simp[zj,zR])
 rw[List.range_eq_range',Iu r _ (fun t=>([t.1,t.2.1,t.2.2],())) 0 (fun k p hk=>by grind)]at h1
 rw[zA,zA];refine(zMh (fun o=>Option.bind (Option.bind o _) _) h1).trans ?_
 grind [Yf,Comp.zB]
def rm(p:Pln)(x:Pnt):Int:=W (p.2.1 * x.2.2.2.1-dt p.1 (x.1,x.2.1,x.2.2.1,()))
def ins(r:List Pln)(x:Pnt):Bool:=r.all fun p=>decide (0<=rm p x)
def ZM(r:List Pln)(l:List Pnt)(t:Pln×Pln×Pln):List Pnt:=match mt t.1 t.2.1 t.2.2 with
 |none=>l
 |some x=>if x∈l then l else bif ins r x then l++[x] else l
def crn(r:List Pln):List Pnt:=(tri r).foldl (ZM r) []
def full(r:List Pln):Bool:=r.all fun p=>(crn r).any fun x=>decide (0<rm p x)
theorem qW(p:Pln)(x:Pnt):(Ze p x).val=some (rm p x,()):=by
 unfold Ze Zb;rw[zA,Comp.zB,zMO,Comp.zB]
 congr 2
 unfold rm dt;grind [RN,R6,zFT,Hv,Hu,zAP,zAO]
theorem Z9{r:List Pln}{x:Pnt}(hl:r.length<9223372036854775807):(Zo r x).val=some (ins r x,()):=by
 unfold Zo;have h1:(zY r fun z=>jo z.1 x).val=some (r.any fun p=>decide (rm p x<0),()) :=
  Zu (xs:=r) (f:=fun z=>jo z.1 x) (p:=fun p=>decide (rm p x<0)) hl fun p _=>by
   grind [jo,val,zA,qW,Comp.zB]
 grind [zA,Comp.zB,ins,yV,List.all_eq_not_any_not,rm]
def lp(x y:Pnt):Bool:=adB (eqI x.1 y.1) (adB (eqI x.2.1 y.2.1) (adB (eqI x.2.2.1 y.2.2.1) (eqI x.2.2.2.1 y.2.2.2.1)))
theorem lE(x y:Pnt):lp x y=decide (x=y):=by
 simp[lp,eqI,adB,Bool.eq_iff_iff,Prod.ext_iff]
def kn(l:List Pnt):List (Pnt×Bool):=l.map fun x=>(x,true)
theorem zEq(l:List Pnt)(x:Pnt):mgB lp (kn l) x=if x∈l then some true else none:=by
 induction l with
 |nil=>rfl
 |cons y l ih =>
  grind [lp,mgB,kn,lE]
theorem zEp{l:List Pnt}{x:Pnt}(h:x ∉ l):mpB lp (kn l) x true=kn (l++[x]):=by
 induction l with
 |nil=>rfl
 |cons y l ih =>
  simp only[zMU,not_or]at h;show (bif lp x y then (x,true)::kn l else (y,true)::mpB lp (kn l) x true)=_
  rw[lE,zMs h.1,cond_false,ih h.2];rfl
theorem ud:∀ {r:List α} {t:α×α×α},t∈tri r->t.1∈r/\t.2.1∈r/\t.2.2∈r
 | [],_,h=>by cases h
 |p::l,t,h=>by
  have prs_mem:∀ {l:List α} {t:α×α},t∈prs l->t.1∈l/\t.2∈l:=by
   intro l
   induction l with
   |nil=>intro t h;cases h
   |cons q l ih =>
    intro t h;simp only[prs,zMZ,List.mem_map]at h;grind
  simp only[tri,zMZ,List.mem_map]at h;rcases h with ⟨s,h1,rfl⟩|h
  ·grind
  ·have:=ud h
   grind
theorem Vr(l:List α):(prs l).length<=l.length * l.length:=by
 induction l with
 |nil=>simp[prs]
 |cons x l ih =>
  grind [prs,zMR,List.length_map,zMY,Nat.add_mul,Nat.mul_add]
theorem Kn(l:List α):(tri l).length<=l.length * (l.length * l.length):=by
 induction l with
 |nil=>simp[tri]
 |cons x l ih =>
  simp only[tri,zMR,List.length_map,zMY];have h1:=Vr l
  grind
theorem Kg{r:List Pln}{l:List Pnt}{t:Pln×Pln×Pln}:(ZM r l t).length<=l.length+1:=by
 grind [ZM,ins]
theorem lH(r:List Pln):(crn r).length<=(tri r).length:=by
 unfold crn;have key:∀(ts:List (Pln×Pln×Pln)) (l:List Pnt),(ts.foldl (ZM r) l).length<=l.length+ts.length:=by
  intro ts
  induction ts with
  |nil=>grind
  |cons t ts ih =>
   grind [ZM,Kg,zMY]
 grind
theorem JK{b k i:Bool}{c:Comp (Bool×Unit)}(hc:b=true->k=false->c.val=some (i,())){A B:Comp β} :
  ((Comp.gd (sel b (ntB k) false) c (false,())).bind fun x2=>if sel (sel b (ntB k) false) x2.1 false=true then A else B).val=(bif b && (!k && i) then A else B).val:=by
 rw[zA]
 cases b with
 |false =>
  show (Option.bind (Comp.pure (false,())).val _)=_
  rw[Comp.zB,zMO];rfl
 |true =>
  cases k with
  |true =>
   show (Option.bind (Comp.pure (false,())).val _)=_
   rw[Comp.zB,zMO];rfl
  |false =>
   have:=hc rfl rfl;show (Option.bind c.val _)=_
   grind
theorem uA{r:List Pln}(hl:r.length<=1000)(hb:∀p∈r,okB p):(vk r).val=some (crn r,()):=by
 have hL:=YR;have h3:(tri r).length<=1000000000:=by
  refine zMX (Kn r) ?_;exact Nat.mul_le_mul hl (Nat.mul_le_mul hl hl)
 unfold vk j8;rw[zA,Comp.zB,zMO,zA,Ab (by omega),zMO]
 -- the walk over a list of triples,from a list of vertices
 have key:∀(ts:List (Pln×Pln×Pln)) (l:List Pnt),(∀t∈ts,okB t.1/\okB t.2.1/\okB t.2.2)->l.length+ts.length<=1000000000->(wC
       (fun (x:List (Pnt)×List ((Pnt)×Bool))
         (d:List (Pln)×Unit) =>
        (Go.F.XO d.1).bind fun x_1=>(Comp.gd
            (sel x_1.2.1
             (ntB
              (match
               mgB
                (fun (x x_2:Pnt)=>adB (eqI x.1 x_2.1) (adB (eqI x.2.1 x_2.2.1) (adB (eqI x.2.2.1 x_2.2.2.1) (eqI x.2.2.2.1 x_2.2.2.2.1))))
                x.2 x_1.1 with
              |some x=>x
              |none=>false))
             false)
            (Go.F.Zo r x_1.1) (false,())).bind fun x_2=>jn (fun (x:List (Pnt)×List ((Pnt)×Bool))=>Comp.pure (.next (x.1,x.2)))
           fun (j :
             List (Pnt)×List ((Pnt)×Bool)->Comp (Comp.Step (List (Pnt)×List ((Pnt)×Bool)) Empty)) =>
           if
             sel
               (sel x_1.2.1
                (ntB
                 (match
                  mgB
                   (fun (x x_3:Pnt)=>adB (eqI x.1 x_3.1) (adB (eqI x.2.1 x_3.2.1) (adB (eqI x.2.2.1 x_3.2.2.1) (eqI x.2.2.2.1 x_3.2.2.2.1))))
                   x.2 x_1.1 with
                 |some x=>x
                 |none=>false))
                false)
               x_2.1 false =
              true then
            (app x.1 [x_1.1]).bind fun zs=>j
              (zs,
               mpB
                (fun (x x_3:Pnt)=>adB (eqI x.1 x_3.1) (adB (eqI x.2.1 x_3.2.1) (adB (eqI x.2.2.1 x_3.2.2.1) (eqI x.2.2.2.1 x_3.2.2.2.1))))
                x.2 x_1.1 true)
           else j (x.1,x.2))
       (ts.map fun t=>([t.1,t.2.1,t.2.2],())) (l,kn l)).val=some (.next (ts.foldl (ZM r) l,kn (ts.foldl (ZM r) l))):=by
  intro ts
  induction ts with
  |nil=>intro l _ _;exact Comp.zB _
  |cons t ts ih =>
   intro l bL fA;obtain⟨h1,h2,h3⟩:=bL t (by simp)
   simp only[zMY]at fA;rw[List.map_cons];unfold wC;have hmg:∀x,(match mgB (fun (x x_2:Pnt)=>adB (eqI x.1 x_2.1) (adB (eqI x.2.1 x_2.2.1) (adB (eqI x.2.2.1 x_2.2.2.1) (eqI x.2.2.2.1 x_2.2.2.2.1)))) (kn l) x with|some x=>x|none=>false)=decide (x∈l):=by
    intro x;show (match mgB lp (kn l) x with|some x=>x|none=>false)=_
    grind [zEq]
   have hlen':=Kg (r:=r) (l:=l) (t:=t);have sK:=ih (ZM r l t) (fun t' ht'=>bL t' (zMa _ ht')) (by omega)
   rw[zA,zA,rh h1 h2 h3,zMO,List.foldl_cons]
   let B0:Comp (Comp.Step (List Pnt×List (Pnt×Bool)) Empty):=Comp.pure (.next (l,kn l))
   let A0:Pnt->Comp (Comp.Step (List Pnt×List (Pnt×Bool)) Empty):=fun x=>(app l [x]).bind fun zs=>Comp.pure (.next (zs,mpB lp (kn l) x true))
   cases hm:mt t.1 t.2.1 t.2.2 with
   |none =>
    have aN:ZM r l t=l:=by grind [ZM]
    rw[aN]at sK |-;refine(zMh (fun o=>Option.bind o _) ((JK (b:=false) (i:=false) (fun h=>nomatch h) (A:=A0 (0,0,0,0,())) (B:=B0)).trans (Comp.zB _))).trans ?_
    exact sK
   |some x =>
    have aN:ZM r l t=if x∈l then l else bif ins r x then l++[x] else l:=by grind [ZM]
    by_cases hx:x∈l
    ·rw[zMq hx]at aN
     rw[aN]at sK |-;have hk:=hmg x
     rw[zMt hx]at hk;have hv:∀k,k=true->(bif true && (!k && ins r x) then A0 x else B0).val=some (.next (l,kn l)):=fun k hk=>by grind [Comp.zB]
     refine(zMh (fun o=>Option.bind o _) ((JK (b:=true) (i:=ins r x) (fun _ _=>Z9 (by omega)) (A:=A0 x) (B:=B0)).trans (hv _ hk))).trans ?_
     exact sK
    ·rw[zMr hx]at aN
     have hk:=hmg x;rw[zMs hx]at hk
     cases fW:ins r x with
     |false =>
      rw[fW,cond_false]at aN;rw[aN]at sK |-;have hv:∀k,k=false->(bif true && (!k && ins r x) then A0 x else B0).val=some (.next (l,kn l)):=fun k hk=>by grind [Comp.zB]
      refine(zMh (fun o=>Option.bind o _) ((JK (b:=true) (i:=ins r x) (fun _ _=>Z9 (by omega)) (A:=A0 x) (B:=B0)).trans (hv _ hk))).trans ?_
      exact sK
     |true =>
      rw[fW,cond_true]at aN;rw[aN]at sK |-;have hv:∀k,k=false->(bif true && (!k && ins r x) then A0 x else B0).val=some (.next (l++[x],kn (l++[x]))):=fun k hk=>by
       subst hk;rw[fW];show ((app l [x]).bind fun zs=>(Comp.pure (.next (zs,mpB lp (kn l) x true)):Comp (Comp.Step (List Pnt×List (Pnt×Bool)) Empty))).val=_
       rw[zA,yQ (by grind [zMT,LIM]),zMO,Comp.zB,zEp hx]
      refine(zMh (fun o=>Option.bind o _) ((JK (b:=true) (i:=ins r x) (fun _ _=>Z9 (by omega)) (A:=A0 x) (B:=B0)).trans (hv _ hk))).trans ?_
      exact sK
 have h1:=key (tri r) [] (fun t ht=>by
  grind [ud]) (by grind)
 rw[zA];refine(zMh (fun o=>Option.bind o _) h1).trans ?_
 rw[zMO];exact Comp.zB _
theorem B9{r:List Pln}(hl:r.length<=1000)(hb:∀p∈r,okB p):(gw r).val=some (full r,()):=by
 have hL:=YR;have h3:(crn r).length<=1000000000:=by
  refine zMX (lH r) (zMX (Kn r) ?_);exact Nat.mul_le_mul hl (Nat.mul_le_mul hl hl)
 unfold gw;rw[zA,uA hl hb,zMO];have h1:(yH r fun z=>y7 z.1 (crn r)).val=some (r.any fun p=>!(crn r).any fun x=>decide (0<rm p x),()) :=
  Zu (xs:=r) (f:=fun z=>y7 z.1 (crn r)) (p:=fun p=>!(crn r).any fun x=>decide (0<rm p x)) (by omega) fun p _=>by
   show (y7 p (crn r)).val=_
   unfold y7;have h2:(yP (crn r) fun z=>yq z.1 p).val=some ((crn r).any fun x=>decide (0<rm p x),()) :=
    Zu (xs:=crn r) (f:=fun z=>yq z.1 p) (p:=fun x=>decide (0<rm p x)) (by omega) fun x _=>by
     grind [yq,val,zA,qW,Comp.zB]
   grind [zA,Comp.zB]
 grind [zA,Comp.zB,yV,full,List.all_eq_not_any_not]
def bx0:List Pln:=[((1,0,0,()),24,()),((-1,0,0,()),24,()),((0,1,0,()),24,()),((0, -1,0,()),24,()),((0,0,1,()),24,()),((0,0, -1,()),24,())]
theorem KB:∀p∈bx0,okB p:=by
 intro p hp;unfold bx0 at hp;simp only[zMU,List.not_mem_nil,or_false]at hp;unfold okB Bd;rcases hp with rfl|rfl|rfl|rfl|rfl|rfl<;>simp
theorem yN{l:List (List Pln)}(hl:l.length<9223372036854775807)(h:l.flatten.length<=1000):(cell_of l).val=some (l.flatten++bx0,()):=by
 unfold cell_of;have h1:(zM l).val=some (l.flatten,()):=K1 (z:=((0,0,0,()),0,())) (by grind [LIM]) hl
 rw[zA,h1,zMO];generalize l.flatten=c at h;have h2:=YY (fun (s:List Pln) i=>(s,((i:Nat):Int))) [(1,0,0,()),(-1,0,0,()),(0,1,0,()),(0, -1,0,()),(0,0,1,()),(0,0, -1,())] (fun (s:List Pln) (x:V3)=>.next (s++[(x,24,())])) (fun s=>s) (fun s i=>s.length=c.length+i)
  (body:=(fun (x:List (Pln)×Int)=>if
         ltI x.2
           (zD
            [(1,0,0,()),(-1,0,0,()),(0,1,0,()),(0, -1,0,()),(0,0,1,()),
             (0,0, -1,())]) =
          true then
        (idx [(1,0,0,()),(-1,0,0,()),(0,1,0,()),(0, -1,0,()),(0,0,1,()),(0,0, -1,())]
           x.2).bind fun x_1=>(app x.1 [(x_1,24,())]).bind fun zs=>Comp.pure (.next (zs,zH .i64 x.2 1))
       else Comp.pure (.done x.1)))
  (fun s i x hx hs=>by
   have gF:=zL hx;simp only[zMY,List.length_nil]at gF;rw[zMq (by grind),zA,zI hx,zMO,zA,yQ (by grind [zMT,LIM]),zMO,Comp.zB,zN (by omega)]
   rfl)
  (fun s i x s' hx hs he=>by grind)
  (fun s hs=>by simp[zMr,zj,zR,Comp.zB]) c (by simp)
 rw[XX]at h2;rw[zA];refine(zMh (fun o=>Option.bind o _) h2).trans ?_
 simp[zMO,Comp.zB,bx0]
theorem kt{c:List Pln}(h:chk c=0):c.length<=48/\∀p∈c,okB p:=by
 grind [AQ,zGz,zMv]
def ful(c:List Pln):Bool:=decide (chk c=0) && full (c++bx0)
def apa(a b:List Pln):Bool:=!(decide (chk a=0) && decide (chk b=0)) || !full (a++b++bx0)
theorem Zg(c:List Pln):(j5 c).val=some (ful c,()):=by
 unfold j5;rw[vV,zA,YW _ (by simp),zMO]
 simp only[List.all_cons,List.all_nil,Bool.and_true];unfold ful;by_cases h:chk c=0
 ·obtain⟨h1,h2⟩:=kt h
  rw[zMq (by grind),zA,yN (by simp) (by grind),zMO,zA]
  simp only[List.flatten_cons,List.flatten_nil,zMw];rw[B9 (by simp[bx0];omega) (fun p hp=>(zMZ.1 hp).elim (h2 p) (KB p)),zMO,Comp.zB,zMt h,Bool.true_and]
 simp_all
theorem gy(a b:List Pln):(jv a b).val=some (apa a b,()):=by
 unfold jv;rw[vV,zA,YW _ (by simp),zMO]
 simp only[List.all_cons,List.all_nil,Bool.and_true,yV,Bool.not_not];unfold apa;by_cases h:(decide (chk a=0) && decide (chk b=0))=true
 ·rw[zMq h,h]
  simp only[zMQ,zMi]at h;obtain⟨h1,h2⟩:=kt h.1;obtain⟨h3,h4⟩:=kt h.2;rw[zA,yN (by simp) (by grind),zMO,zA]
  simp only[List.flatten_cons,List.flatten_nil,zMw];rw[B9 (by simp[bx0];omega) (fun p hp=>(zMZ.1 hp).elim (fun hp=>(zMZ.1 hp).elim (h2 p) (h4 p)) (KB p)),zMO,Comp.zB]
  rfl
 ·have h':(decide (chk a=0) && decide (chk b=0))=false:=by grind
  rw[zMr h,h',Comp.zB];rfl
theorem wM(p:Pln)(x:Pnt):(zf p x).val=some (rm p x,()):=by
 unfold zf;rw[Comp.zB]
 congr 2
 unfold rm dt;grind [RN,R6,Hv,Hu]
theorem Vm{r:List Pln}{x:Pnt}(hl:r.length<9223372036854775807):(gE r x).val=some (ins r x,()):=by
 unfold gE;have h1:=Zv r (fun p=>decide (0<=rm p x)) (c:=(Sum.inr false:Unit⊕Bool)) (d:=Sum.inl ())
  (body:=(fun (x_1:Int)=>if ltI x_1 (zD r)=true then
       (idx r x_1).bind fun x_2=>(Go.F.zf x_2 x).bind fun x_3=>if ltI x_3.1 0=true then Comp.pure (.done (Sum.inr false)) else Comp.pure (.next (zH .i64 x_1 1))
      else Comp.pure (.done (Sum.inl ()))))
  (fun i p hp=>by
   have gF:=zL hp;rw[zMq (by grind),zA,zI hp,zMO,zA,wM,zMO,zN (by omega)]
   by_cases h:rm p x<0
   ·simp_all [zj]
   simp_all [zMr,zj])
  (by simp[zj,zR])
 rw[zA];refine(zMh (fun o=>Option.bind o _) h1).trans ?_
 grind [ins,Comp.zB]
theorem Df{l:List Pnt}{x:Pnt}(hl:l.length<9223372036854775807):(yv l x).val=some (decide (x∈l),()):=by
 unfold yv;have h1:=Zv l (fun y=>!decide (y=x)) (c:=(Sum.inr true:Unit⊕Bool)) (d:=Sum.inl ())
  (body:=(fun (i:Int)=>if ltI i (zD l)=true then
       (idx l i).bind fun x_1=>if adB (eqI x_1.1 x.1) (adB (eqI x_1.2.1 x.2.1) (adB (eqI x_1.2.2.1 x.2.2.1) (eqI x_1.2.2.2.1 x.2.2.2.1)))=true then
         Comp.pure (.done (Sum.inr true))
        else Comp.pure (.next (zH .i64 i 1))
      else Comp.pure (.done (Sum.inl ()))))
  (fun i p hp=>by
   have gF:=zL hp;have he:adB (eqI p.1 x.1) (adB (eqI p.2.1 x.2.1) (adB (eqI p.2.2.1 x.2.2.1) (eqI p.2.2.2.1 x.2.2.2.1)))=decide (p=x):=lE p x
   rw[zMq (by grind),zA,zI hp,zMO,zN (by omega)]
   by_cases h:p=x
   ·simp_all
   simp_all)
  (by simp[zj,zR])
 rw[zA];refine(zMh (fun o=>Option.bind o _) h1).trans ?_
 grind [Comp.zB]
theorem jy{body:σ×Int->Comp (Comp.Step (σ×Int) σ)}(n:Nat)(G F:Nat->σ->σ)(I:σ->Nat->Prop)
  (hb:∀s (i:Nat),i<n->I s i->(body (s,(i:Int))).val=some (.next (G i s,((i+1:Nat):Int)))/\I (G i s) (i+1)/\F i s=F (i+1) (G i s)) (he:∀s,(body (s,(n:Int))).val=some (.done s)) (hF:∀s,F n s=s) :
  ∀(k:Nat) (s:σ),k<=n->I s k->(Comp.loop body (s,(k:Int))).val=some (F k s):=by
 have key:∀(m k:Nat) (s:σ),k+m=n->I s k->(Comp.loop body (s,(k:Int))).val=some (F k s):=by
  intro m
  induction m with
  |zero =>
   grind [zJ]
  |succ m ih =>
   grind [zJ]
 exact fun k s hk hI=>key (n-k) k s (by omega) hI
theorem drop_cons{xs:List α}{k:Nat}{x:α}(h:xs[k]?=some x):xs.drop k=x::xs.drop (k+1):=by
 grind [List.drop_eq_getElem_cons]
theorem pk{r:List Pln}(ts:List (Pln×Pln×Pln)):∀(l:List Pnt),(ts.foldl (ZM r) l).length<=l.length+ts.length:=by
 induction ts with
 |nil=>grind
 |cons t ts ih =>
  grind [Kg]
theorem wg{b i h:Bool}{c:Comp (Bool×Unit)}{d:Comp (Bool×Unit)}(hc:b=true->c.val=some (i,()))(hd:b=true->i=true->d.val=some (h,())){A B:Comp β} :
  ((Comp.gd b c (false,())).bind fun x5=>(Comp.gd (sel b x5.1 false) d (false,())).bind fun x6=>if sel (sel b x5.1 false) (ntB x6.1) false=true then A else B).val=(bif b && (i && !h) then A else B).val:=by
 rw[zA]
 cases b with
 |false =>
  show (Option.bind (Comp.pure (false,())).val _)=_
  rw[Comp.zB,zMO,zA];show (Option.bind (Comp.pure (false,())).val _)=_
  rw[Comp.zB,zMO];rfl
 |true =>
  have h1:=hc rfl;show (Option.bind c.val _)=_
  rw[h1,zMO,zA]
  cases i with
  |false =>
   show (Option.bind (Comp.pure (false,())).val _)=_
   rw[Comp.zB,zMO];rfl
  |true =>
   have h2:=hd rfl rfl;show (Option.bind d.val _)=_
   grind
theorem KI{r:List Pln}(hl:r.length<=1000)(hb:∀p∈r,okB p):(vj r).val=some (crn r,()):=by
 have hL:=YR;have h3:(tri r).length<=1000000000:=by
  refine zMX (Kn r) ?_;exact Nat.mul_le_mul hl (Nat.mul_le_mul hl hl)
 unfold vj
 -- the innermost walk
 have inner:∀(i j:Nat) (p q:Pln),r[i]?=some p->r[j]?=some q->∀(k:Nat) (l:List Pnt),k<=r.length->l.length+(r.length-k)<=1000000000->(Comp.loop
               (fun (x_2:List (Pnt)×Int)=>if ltI x_2.2 (zD r)=true then
                 (idx r (i:Int)).bind fun x=>(idx r (j:Int)).bind fun x_3=>(idx r x_2.2).bind fun x_4=>(Go.F.vL x x_3 x_4).bind fun x=>(Comp.gd x.2.1 (Go.F.gE r x.1) (false,())).bind fun x_5=>(Comp.gd (sel x.2.1 x_5.1 false) (Go.F.yv x_2.1 x.1) (false,())).bind fun x_6=>jn (fun (x:List (Pnt))=>Comp.pure (.next (x,zH .i64 x_2.2 1)))
                        fun (j :
                          List (Pnt)->Comp (Comp.Step (List (Pnt)×Int) (List (Pnt)))) =>
                        if sel (sel x.2.1 x_5.1 false) (ntB x_6.1) false=true then
                         (app x_2.1 [x.1]).bind fun zs=>j zs
                        else j x_2.1
                else Comp.pure (.done x_2.1)) (l,(k:Int))).val=some ((r.drop k).foldl (fun l s=>ZM r l (p,q,s)) l):=by
  intro i j p q hp hq;refine jy r.length (fun k l=>match r[k]? with|some s=>ZM r l (p,q,s)|none=>l) (fun k l=>(r.drop k).foldl (fun l s=>ZM r l (p,q,s)) l) (fun l k=>l.length+(r.length-k)<=1000000000)
   (fun l k hk hI=>?_) (fun l=>by simp[zj,zR]) (fun l=>by grind)
  obtain⟨s,hs⟩:=zO (xs:=r) (k:=k) hk;have fA:=Kg (r:=r) (l:=l) (t:=(p,q,s))
  refine⟨?_,by grind,by rw[drop_cons hs,hs];rfl⟩
  rw[hs];simp only;rw[zMq (by grind),zA,zI hp,zMO,zA,zI hq,zMO,zA,zI hs,zMO,zA,
   I4 (hb p (zMV hp)) (hb q (zMV hq)) (hb s (zMV hs)),zMO]
  let A0:Pnt->Comp (Comp.Step (List Pnt×Int) (List Pnt)):=fun x=>(app l [x]).bind fun zs=>Comp.pure (.next (zs,zH .i64 (k:Int) 1))
  let B0:Comp (Comp.Step (List Pnt×Int) (List Pnt)):=Comp.pure (.next (l,zH .i64 (k:Int) 1))
  cases hm:mt p q s with
  |none =>
   have aN:ZM r l (p,q,s)=l:=by grind [ZM]
   rw[aN];refine(wg (b:=false) (i:=false) (h:=false) (fun h=>nomatch h) (fun h=>nomatch h) (A:=A0 (0,0,0,0,())) (B:=B0)).trans ?_
   grind [Comp.zB]
  |some x =>
   have aN:ZM r l (p,q,s)=if x∈l then l else bif ins r x then l++[x] else l:=by grind [ZM]
   refine(wg (b:=true) (i:=ins r x) (h:=decide (x∈l)) (fun _=>Vm (by omega)) (fun _ _=>Df (by omega)) (A:=A0 x) (B:=B0)).trans ?_
   rw[aN,<-zN (show k<9223372036854775807 by omega)]
   by_cases hx:x∈l
   ·rw[zMt hx,zMq hx]
    grind [Comp.zB]
   ·rw[zMs hx,zMr hx]
    cases ins r x with
    |false=>exact Comp.zB _
    |true =>
     show (A0 x).val=_
     show ((app l [x]).bind fun zs=>(Comp.pure (.next (zs,zH .i64 (k:Int) 1)):Comp (Comp.Step (List Pnt×Int) (List Pnt)))).val=_
     grind [zA,yQ,LIM,Comp.zB]
 have mid:∀(i:Nat) (p:Pln),r[i]?=some p->∀(k:Nat) (l:List Pnt),k<=r.length->l.length+(prs (r.drop k)).length<=1000000000->(Comp.loop
          (fun (x_1:List (Pnt)×Int)=>if ltI x_1.2 (zD r)=true then
            (Comp.loop
               (fun (x_2:List (Pnt)×Int)=>if ltI x_2.2 (zD r)=true then
                 (idx r (i:Int)).bind fun x=>(idx r x_1.2).bind fun x_3=>(idx r x_2.2).bind fun x_4=>(Go.F.vL x x_3 x_4).bind fun x=>(Comp.gd x.2.1 (Go.F.gE r x.1) (false,())).bind fun x_5=>(Comp.gd (sel x.2.1 x_5.1 false) (Go.F.yv x_2.1 x.1) (false,())).bind fun x_6=>jn (fun (x:List (Pnt))=>Comp.pure (.next (x,zH .i64 x_2.2 1)))
                        fun (j :
                          List (Pnt)->Comp (Comp.Step (List (Pnt)×Int) (List (Pnt)))) =>
                        if sel (sel x.2.1 x_5.1 false) (ntB x_6.1) false=true then
                         (app x_2.1 [x.1]).bind fun zs=>j zs
                        else j x_2.1
                else Comp.pure (.done x_2.1))
               (x_1.1,zH .i64 x_1.2 1)).bind fun x=>Comp.pure (.next (x,zH .i64 x_1.2 1))
           else Comp.pure (.done x_1.1)) (l,(k:Int))).val=some ((prs (r.drop k)).foldl (fun l t=>ZM r l (p,t)) l):=by
  intro i p hp;refine jy r.length (fun k l=>match r[k]? with|some q=>(r.drop (k+1)).foldl (fun l s=>ZM r l (p,q,s)) l|none=>l) (fun k l=>(prs (r.drop k)).foldl (fun l t=>ZM r l (p,t)) l) (fun l k=>l.length+(prs (r.drop k)).length<=1000000000)
   (fun l k hk hI=>?_) (fun l=>by simp[zj,zR]) (fun l=>by rw[List.drop_length];rfl)
  obtain⟨q,hq⟩:=zO (xs:=r) (k:=k) hk;have cU:(prs (r.drop k)).length=(r.length-(k+1))+(prs (r.drop (k+1))).length:=by rw[drop_cons hq,prs,zMR,List.length_map,List.length_drop]
  have cK:((r.drop (k+1)).foldl (fun l s=>ZM r l (p,q,s)) l).length<=l.length+(r.length-(k+1)):=by
   have:=pk (r:=r) ((r.drop (k+1)).map fun s=>(p,q,s)) l
   grind [List.foldl_map]
  refine⟨?_,by grind,by rw[drop_cons hq,hq,prs,List.foldl_append,List.foldl_map]⟩
  rw[hq];simp only;rw[zMq (by grind),zA]
  have h4:=inner i k p q hp hq (k+1) l (by omega) (by omega)
  rw[<-zN (show k<9223372036854775807 by omega)]at h4
  refine(zMh (fun o=>Option.bind o _) h4).trans ?_
  rw[zMO,Comp.zB,zN (show k<9223372036854775807 by omega)]
 have outer:∀(k:Nat) (l:List Pnt),k<=r.length->l.length+(tri (r.drop k)).length<=1000000000->(Comp.loop
     (fun (x:List (Pnt)×Int)=>if ltI x.2 (zD r)=true then
       (Comp.loop
          (fun (x_1:List (Pnt)×Int)=>if ltI x_1.2 (zD r)=true then
            (Comp.loop
               (fun (x_2:List (Pnt)×Int)=>if ltI x_2.2 (zD r)=true then
                 (idx r x.2).bind fun x=>(idx r x_1.2).bind fun x_3=>(idx r x_2.2).bind fun x_4=>(Go.F.vL x x_3 x_4).bind fun x=>(Comp.gd x.2.1 (Go.F.gE r x.1) (false,())).bind fun x_5=>(Comp.gd (sel x.2.1 x_5.1 false) (Go.F.yv x_2.1 x.1) (false,())).bind fun x_6=>jn (fun (x:List (Pnt))=>Comp.pure (.next (x,zH .i64 x_2.2 1)))
                        fun (j :
                          List (Pnt)->Comp (Comp.Step (List (Pnt)×Int) (List (Pnt)))) =>
                        if sel (sel x.2.1 x_5.1 false) (ntB x_6.1) false=true then
                         (app x_2.1 [x.1]).bind fun zs=>j zs
                        else j x_2.1
                else Comp.pure (.done x_2.1))
               (x_1.1,zH .i64 x_1.2 1)).bind fun x=>Comp.pure (.next (x,zH .i64 x_1.2 1))
           else Comp.pure (.done x_1.1))
          (x.1,zH .i64 x.2 1)).bind fun x_1=>Comp.pure (.next (x_1,zH .i64 x.2 1))
      else Comp.pure (.done x.1)) (l,(k:Int))).val=some ((tri (r.drop k)).foldl (ZM r) l):=by
  refine jy r.length (fun k l=>match r[k]? with|some p=>(prs (r.drop (k+1))).foldl (fun l t=>ZM r l (p,t)) l|none=>l) (fun k l=>(tri (r.drop k)).foldl (ZM r) l) (fun l k=>l.length+(tri (r.drop k)).length<=1000000000)
   (fun l k hk hI=>?_) (fun l=>by simp[zj,zR]) (fun l=>by rw[List.drop_length];rfl)
  obtain⟨p,hp⟩:=zO (xs:=r) (k:=k) hk;have cU:(tri (r.drop k)).length=(prs (r.drop (k+1))).length+(tri (r.drop (k+1))).length:=by rw[drop_cons hp,tri,zMR,List.length_map]
  have cK:((prs (r.drop (k+1))).foldl (fun l t=>ZM r l (p,t)) l).length<=l.length+(prs (r.drop (k+1))).length:=by
   have:=pk (r:=r) ((prs (r.drop (k+1))).map fun t=>(p,t)) l
   grind [List.foldl_map]
  refine⟨?_,by grind,by rw[drop_cons hp,hp,tri,List.foldl_append,List.foldl_map]⟩
  rw[hp];simp only;rw[zMq (by grind),zA]
  have h4:=mid k p hp (k+1) l (by omega) (by omega)
  rw[<-zN (show k<9223372036854775807 by omega)]at h4
  refine(zMh (fun o=>Option.bind o _) h4).trans ?_
  rw[zMO,Comp.zB,zN (show k<9223372036854775807 by omega)]
 have h1:=outer 0 [] (Nat.zero_le _) (by grind)
 rw[zA];refine(zMh (fun o=>Option.bind o _) h1).trans ?_
 rw[zMO];exact Comp.zB _
theorem pM{r:List Pln}(hl:r.length<=1000)(hb:∀p∈r,okB p):(gl r).val=some (full r,()):=by
 have hL:=YR;have h3:(crn r).length<=1000000000:=by
  refine zMX (lH r) (zMX (Kn r) ?_);exact Nat.mul_le_mul hl (Nat.mul_le_mul hl hl)
 unfold gl;rw[zA,KI hl hb,zMO];have inner:∀(i:Nat) (p:Pln),r[i]?=some p->(Comp.loop
           (fun (x_1:Bool×Int)=>if ltI x_1.2 (zD (crn r))=true then
             (Comp.gd (ntB x_1.1) (idx r (i:Int)) ((0,0,0,()),0,())).bind fun x=>(Comp.gd (ntB x_1.1) (idx (crn r) x_1.2) (0,0,0,0,())).bind fun x_2=>(Comp.gd (ntB x_1.1) (Go.F.zf x x_2) (0,())).bind fun x=>Comp.pure (.next (sel x_1.1 true (gtI x.1 0),zH .i64 x_1.2 1))
            else Comp.pure (.done x_1.1))
           (false,((0:Nat):Int))).val=some ((crn r).any fun x=>decide (0<rm p x)):=by
  intro i p hp;have h5:=jy (crn r).length (fun k b=>match (crn r)[k]? with|some x=>b || decide (0<rm p x)|none=>b) (fun k b=>b || ((crn r).drop k).any fun x=>decide (0<rm p x)) (fun _ _=>True)
   (body:=(fun (x_1:Bool×Int)=>if ltI x_1.2 (zD (crn r))=true then
             (Comp.gd (ntB x_1.1) (idx r (i:Int)) ((0,0,0,()),0,())).bind fun x=>(Comp.gd (ntB x_1.1) (idx (crn r) x_1.2) (0,0,0,0,())).bind fun x_2=>(Comp.gd (ntB x_1.1) (Go.F.zf x x_2) (0,())).bind fun x=>Comp.pure (.next (sel x_1.1 true (gtI x.1 0),zH .i64 x_1.2 1))
            else Comp.pure (.done x_1.1)))
   (fun b k hk _=>by
    obtain⟨x,hx⟩:=zO (xs:=crn r) (k:=k) hk;refine⟨?_,trivial,by rw[drop_cons hx,hx,List.any_cons,Bool.or_assoc]⟩
    rw[hx];simp only;rw[zMq (by grind),zA]
    cases b with
    |true =>
     show Option.bind (Comp.pure _).val _=_
     rw[Comp.zB,zMO,zA];show Option.bind (Comp.pure _).val _=_
     rw[Comp.zB,zMO,zA];show Option.bind (Comp.pure _).val _=_
     grind [Comp.zB]
    |false =>
     show Option.bind (idx r (i:Int)).val _=_
     rw[zI hp,zMO,zA];show Option.bind (idx (crn r) (k:Int)).val _=_
     rw[zI hx,zMO,zA];show Option.bind (zf p x).val _=_
     grind [wM,Comp.zB])
   (fun b=>by simp[zj,zR]) (fun b=>by grind) 0 false (Nat.zero_le _) trivial
  grind
 have h1:=Zv r (fun p=>(crn r).any fun x=>decide (0<rm p x)) (c:=(Sum.inr false:Unit⊕Bool)) (d:=Sum.inl ())
  (body:=(fun (x:Int)=>if ltI x (zD r)=true then
        (Comp.loop
           (fun (x_1:Bool×Int)=>if ltI x_1.2 (zD (crn r))=true then
             (Comp.gd (ntB x_1.1) (idx r x) ((0,0,0,()),0,())).bind fun x=>(Comp.gd (ntB x_1.1) (idx (crn r) x_1.2) (0,0,0,0,())).bind fun x_2=>(Comp.gd (ntB x_1.1) (Go.F.zf x x_2) (0,())).bind fun x=>Comp.pure (.next (sel x_1.1 true (gtI x.1 0),zH .i64 x_1.2 1))
            else Comp.pure (.done x_1.1))
           (false,0)).bind fun x_1=>if ntB x_1=true then Comp.pure (.done (Sum.inr false)) else Comp.pure (.next (zH .i64 x 1))
       else Comp.pure (.done (Sum.inl ()))))
  (fun i p hp=>by
   have gF:=zL hp;rw[zMq (by grind),zA]
   refine(zMh (fun o=>Option.bind o _) (inner i p hp)).trans ?_
   grind [Comp.zB])
  (by simp[zj,zR])
 rw[zA];refine(zMh (fun o=>Option.bind o _) h1).trans ?_
 grind [full,Comp.zB]
theorem qY{c:List Pln}(h:c.length<=1000):(gL c).val=some (c++bx0,()):=by
 unfold gL;have h1:(zw (-24, -24, -24,()) (24,24,24,())).val=some (bx0,()):=by
  unfold zw;rw[Comp.zB];rfl
 rw[zA,yQ (by grind [LIM]),zMO,zA,h1,zMO,zA,yQ (by simp[bx0];grind [LIM]),zMO,Comp.zB]
 simp
theorem YS(c:List Pln):(z7 c).val=some (ful c,()):=by
 unfold z7;rw[vV,zA,jr,zMO];unfold ful;by_cases h:chk c=0
 ·obtain⟨h1,h2⟩:=kt h
  rw[zMq (by grind),zA,qY (by omega),zMO,zA,
   pM (by simp[bx0];omega) (fun p hp=>(zMZ.1 hp).elim (h2 p) (KB p)),zMO,Comp.zB,zMt h,Bool.true_and]
 simp_all [Jl]
theorem ZV(a b:List Pln):(ze a b).val=some (apa a b,()):=by
 unfold ze;rw[zA,jr,zMO,zA];unfold apa;by_cases ha:chk a=0
 ·obtain⟨h1,h2⟩:=kt ha
  have e1:neI (chk a) 0=false:=by grind
  show Option.bind (Comp.gd (ntB (neI (chk a) 0)) _ _).val _=_
  rw[e1];show Option.bind (za b).val _=_
  rw[jr,zMO];by_cases hb:chk b=0
  ·obtain⟨h3,h4⟩:=kt hb
   have e2:neI (chk b) 0=false:=by grind
   rw[zMr (by grind),zA,yQ (by grind [LIM]),zMO,zA,yQ (by grind [LIM]),zMO,zA]
   simp only[List.nil_append];rw[qY (by grind),zMO,zA,
    pM (by simp[bx0];omega) (fun p hp=>(zMZ.1 hp).elim (fun hp=>(zMZ.1 hp).elim (h2 p) (h4 p)) (KB p)),zMO,Comp.zB,zMt ha,zMt hb]
   rfl
  simp_all [neI,sel]
 ·have e1:neI (chk a) 0=true:=by grind
  show Option.bind (Comp.gd (ntB (neI (chk a) 0)) _ _).val _=_
  rw[e1];show Option.bind (Comp.pure _).val _=_
  rw[Comp.zB,zMO,zMq (by rfl),Comp.zB,zMs ha]
  rfl
theorem Jj(a b:V3):cr b a=sc (cr a b) (-1):=by
 unfold cr sc;grind
theorem zBw(a b:V3)(n:Int):dt a (sc b n)=dt a b * n:=by
 grind [dt,sc]
theorem IC(a:V3)(m n:Int):sc (sc a m) n=sc (sc a n) m:=by
 simp[sc,Int.mul_right_comm]
theorem Ug(a b:V3)(n:Int):ad (sc a n) (sc b n)=sc (ad a b) n:=by
 grind [ad,sc]
theorem zAN(a b:V3):ad a b=ad b a:=by
 unfold ad;grind
theorem Q8(a b c:V3):ad (ad a b) c=ad (ad a c) b:=by
 unfold ad;grind
theorem zFI(p q r:Pln):det p r q = - det p q r:=by
 grind [det,Jj,zBw]
theorem zFJ(p q r:Pln):det q p r = - det p q r:=by
 grind [Hf,Jj,zBw]
theorem zEX(p q r:Pln):num p r q=sc (num p q r) (-1):=by
 grind [num,Jj,IC,Ug,Q8]
theorem zEY(p q r:Pln):num q p r=sc (num p q r) (-1):=by
 unfold num;rw[Jj q.1 r.1,Jj p.1 q.1,Jj r.1 p.1,IC (cr q.1 r.1),IC (cr p.1 q.1),IC (cr r.1 p.1),Ug,Ug,zAN (sc (cr r.1 p.1) q.2.1)]
theorem WY{v:V3}{w:Int}(h:w≠0):mkP (sc v (-1)) (-w)=mkP v w:=by
 have hg:km (sc v (-1)) (-w)=km v w:=by
  grind [km,sc,Int.natAbs_neg]
 unfold mkP;simp only[hg];unfold sc;grind
theorem R7{p q r p' q' r':Pln}(hd:det p' q' r' = - det p q r)(hn:num p' q' r'=sc (num p q r) (-1)):mt p' q' r'=mt p q r:=by
 unfold mt;rw[hd,hn];by_cases h:det p q r=0
 ·grind
 simp_all [WY]
def mtL:List Pln->Option Pnt
 | [p,q,r]=>mt p q r
 |_=>none
theorem NQ{a b c d:α}(h:[a,b].Perm [c,d]):(a=c/\b=d)\/(a=d/\b=c):=by
 have hc:c∈[a,b]:=h.symm.subset (by simp)
 simp only[zMU,List.not_mem_nil,or_false]at hc;rcases hc with rfl|rfl
 ·simp_all
 ·have:=List.perm_singleton.1 ((List.Perm.swap a c []).trans h).cons_inv
  grind
theorem Bq{l l':List Pln}(h:l.Perm l'):mtL l=mtL l':=by
 induction h with
 |nil=>rfl
 |cons x h ih =>
  rename_i l1 l2;have fA:=h.length_eq
  match l1,l2,fA,h with
  | [a,b],[c,d],_,h =>
   rcases NQ h with ⟨rfl,rfl⟩|⟨rfl,rfl⟩
   ·rfl
   ·exact R7 (zFI _ _ _) (zEX _ _ _)
  | [],[],_,_=>rfl
  | [_],[_],_,_=>rfl
  |_::_::_::_,_::_::_::_,_,_=>rfl
 |swap x y l =>
  match l with
  | [z]=>exact R7 (zFJ _ _ _) (zEY _ _ _)
  | []=>rfl
  |_::_::_=>rfl
 |trans _ _ ih1 ih2=>grind
theorem G2{l:List α}{a b:α}:(a,b)∈prs l↔[a,b].Sublist l:=by
 induction l with
 |nil=>simp[prs]
 |cons x l ih =>
  simp only[prs,zMZ,List.mem_map,Prod.mk.injEq];grind
theorem mH{l:List α}{a b c:α}:(a,b,c)∈tri l↔[a,b,c].Sublist l:=by
 induction l with
 |nil=>simp[tri]
 |cons x l ih =>
  simp only[tri,zMZ,List.mem_map,Prod.mk.injEq];constructor
  ·rintro(⟨⟨s,t⟩,h1,rfl,h2⟩|h)
   ·grind [G2]
   grind
  ·intro h
   cases h with
   |cons _ h=>grind
   |cons_cons _ h=>exact .inl ⟨(b,c),G2.2 h,rfl,rfl⟩
theorem Ji{r:List Pln}{x:Pnt}:x∈crn r↔ins r x=true/\∃t∈tri r,mt t.1 t.2.1 t.2.2=some x:=by
 have key:∀(ts:List (Pln×Pln×Pln)) (l:List Pnt),x∈ts.foldl (ZM r) l↔x∈l\/(ins r x=true/\∃t∈ts,mt t.1 t.2.1 t.2.2=some x):=by
  intro ts
  induction ts with
  |nil=>grind
  |cons t ts ih =>
   intro l;rw[List.foldl_cons,ih];have hs:x∈ZM r l t↔x∈l\/(ins r x=true/\mt t.1 t.2.1 t.2.2=some x):=by
    unfold ZM
    cases hm:mt t.1 t.2.1 t.2.2 with
    |none=>simp
    |some y =>
     grind
   grind
 grind [crn]
theorem NT{r r':List α}(h:r.Perm r'):∀ {s:List α},s.Sublist r->∃s':List α,s'.Perm s/\s'.Sublist r':=by
 induction h with
 |nil=>simp_all
 |cons x h ih =>
  intro s hs
  cases hs with
  |cons _ hs =>
   grind
  |cons_cons _ hs =>
   obtain⟨s',h1,h2⟩:=ih hs;exact⟨x::s',h1.cons _,h2.cons_cons _⟩
 |swap x y l =>
  intro s hs
  cases hs with
  |cons _ hs =>
   cases hs with
   |cons _ hs=>exact⟨_,.refl _,(hs.cons _).cons _⟩
   |cons_cons _ hs=>exact⟨_,.refl _,(hs.cons _).cons_cons _⟩
  |cons_cons _ hs =>
   cases hs with
   |cons _ hs=>exact⟨_,.refl _,(hs.cons_cons _).cons _⟩
   |cons_cons _ hs=>exact⟨_,.swap _ _ _,(hs.cons_cons _).cons_cons _⟩
 |trans _ _ ih1 ih2 =>
  intro s hs;obtain⟨s1,h1,h2⟩:=ih1 hs;obtain⟨s2,h3,h4⟩:=ih2 h2;exact⟨s2,h3.trans h1,h4⟩
theorem Ql{r r':List Pln}(h:r.Perm r'){x:Pnt}(hx:x∈crn r):x∈crn r':=by
 rw[Ji]at hx |-;obtain⟨h1,⟨a,b,c⟩,h2,h3⟩:=hx;refine⟨?_,?_⟩
 ·grind [ins]
 ·obtain⟨l,g1,g2⟩:=NT h (mH.1 h2)
  have fA:=g1.length_eq
  match l,fA,g1,g2 with
  | [a',b',c'],_,g1,g2=>exact⟨(a',b',c'),mH.2 g2,(Bq g1).trans h3⟩
theorem Mi{r r':List Pln}(h:r.Perm r'):full r=full r':=by
 have key:∀ {r r':List Pln},r.Perm r'->full r=true->full r'=true:=by
  grind [full,Ql]
 rw[Bool.eq_iff_iff];grind
theorem Ce(a b:List Pln):apa a b=apa b a:=by
 grind [apa,Mi,List.Perm.append_right]
abbrev SS(l:List Pln):Prop:=l.Pairwise LtP
abbrev SL(l:List Pln):Prop:=l.Pairwise fun p q=>¬LtP q p
theorem SS.eq{l m:List Pln}(hl:SS l)(hm:SS m)(h:∀p,p∈l↔p∈m):l=m:=by
 induction l generalizing m with
 |nil =>
  cases m with
  |nil=>rfl
  |cons q m=>have:=(h q).2 (by simp);grind
 |cons p l ih =>
  cases m with
  |nil=>grind
  |cons q m =>
   rw[SS,List.pairwise_cons]at hl hm;have bW:p=q:=by
    have h1:=(h p).1 (by simp)
    have h2:=(h q).2 (by simp)
    rcases zMU.1 h1 with rfl|h1
    ·rfl
    ·rcases zMU.1 h2 with rfl|h2
     ·rfl
     ·exact zMg (hl.1 q h2) fun k=>k.asym (hm.1 p h1)
   subst bW
   congr 1
   refine ih hl.2 hm.2 fun x=>?_
   constructor
   ·intro hx
    have:=(h x).1 (zMa _ hx);rcases zMU.1 this with rfl|h1
    ·grind [LtP.irr]
    ·exact h1
   ·intro hx
    have:=(h x).2 (zMa _ hx);rcases zMU.1 this with rfl|h1
    ·grind [LtP.irr]
    ·exact h1
theorem qd{p x:Pln}:∀ {l:List Pln},x∈K5 p l↔x=p\/x∈l
 | []=>by simp[K5]
 |q::l=>by
  unfold K5;split
  ·rw[zMU,qd,zMU]
   grind
  grind
theorem HP{p:Pln}:∀ {l:List Pln},SL l->SL (K5 p l)
 | [],_=>by simp[K5]
 |q::l,h=>by
  rw[SL,List.pairwise_cons]at h;unfold K5;split
  ·rename_i hc
   rw[SL,List.pairwise_cons];refine⟨fun x hx=>?_,HP h.2⟩
   rcases qd.1 hx with rfl|hx
   ·exact fun k=>k.asym (KG.1 hc)
   grind
  ·rename_i hc
   rw[SL,List.pairwise_cons];refine⟨fun x hx=>?_,by simp_all⟩
   have bW:¬LtP q p:=fun k=>hc (KG.2 k)
   rcases zMU.1 hx with rfl|dF
   ·exact bW
   ·intro k
    have hxq:=h.1 x dF;rcases LtP.tri p q with h1|h1|h1
    ·exact hxq (k.trans h1)
    ·grind
    grind
theorem KT{x:Pln}:∀ {l:List Pln},x∈Jm l↔x∈l
 | []=>by simp[Jm]
 |p::l=>by unfold Jm;rw[qd,KT,zMU]
theorem mT:∀ {l:List Pln},SL (Jm l)
 | []=>by simp[Jm]
 |p::l=>HP mT
theorem B6{p:Pln}:∀ {l:List Pln},(K5 p l).length=l.length+1
 | []=>rfl
 |q::l=>by unfold K5;split<;>simp[B6]
theorem qU:∀ {l:List Pln},(Jm l).length=l.length
 | []=>rfl
 |p::l=>by unfold Jm;rw[B6,qU];rfl
theorem pv:∀ {l:List Pln} {p:Pln},SL (p::l)->SS (p::J3 p l)/\∀x,x∈p::J3 p l↔x∈p::l
 | [],p,_=>⟨by simp[J3],fun x=>by simp[J3]⟩
 |q::l,p,h=>by
  rw[SL,List.pairwise_cons]at h;obtain⟨h1,h2⟩:=pv h.2;unfold J3;split
  ·grind
  ·rename_i e
   refine⟨?_,fun x=>?_⟩
   ·rw[SS,List.pairwise_cons]
    refine⟨fun x hx=>?_,h1⟩
    have bW:LtP p q:=by
     grind [LtP.tri]
    rcases zMU.1 hx with rfl|hx'
    ·exact bW
    ·exact bW.trans ((List.pairwise_cons.1 h1).1 x hx')
   grind
theorem CV{l:List Pln}(h:SL l):SS (cpc l)/\∀x,x∈cpc l↔x∈l:=by
 cases l with
 |nil=>simp[cpc]
 |cons p l=>exact pv h
def Yo(p:Pln):List Pln->List Pln
 | []=>[p]
 |q::l=>if Xv q p<0 then q::Yo p l else if q=p then q::l else p::q::l
theorem qZ{p x:Pln}:∀ {l:List Pln},x∈Yo p l↔x=p\/x∈l
 | []=>by simp[Yo]
 |q::l=>by
  unfold Yo;split
  ·rw[zMU,qZ,zMU]
   grind
  grind
theorem G1{p:Pln}:∀ {l:List Pln},SS l->SS (Yo p l)
 | [],_=>by simp[Yo]
 |q::l,h=>by
  rw[SS,List.pairwise_cons]at h;unfold Yo;split
  ·rename_i hc
   rw[SS,List.pairwise_cons];refine⟨fun x hx=>?_,G1 h.2⟩
   rcases qZ.1 hx with rfl|hx
   ·exact KG.1 hc
   grind
  ·rename_i hc
   split
   ·simp_all
   ·rename_i e
    have bW:LtP p q:=by
     rcases LtP.tri p q with k|k|k
     ·exact k
     ·grind
     ·exact zMg (KG.2 k) hc
    rw[SS,List.pairwise_cons];refine⟨fun x hx=>?_,by simp_all⟩
    rcases zMU.1 hx with rfl|hx
    ·exact bW
    ·exact bW.trans (h.1 x hx)
theorem Ba{p:Pln}:∀ {l:List Pln},(Yo p l).length<=l.length+1
 | []=>by simp[Yo]
 |q::l=>by
  have:=Ba (p:=p) (l:=l);grind [Yo]
theorem N1(l:List Pln):l.foldl (fun m p=>Yo p m) []=cpc (Jm l):=by
 have key:∀(l m:List Pln),SS m->SS (l.foldl (fun m p=>Yo p m) m)/\∀x,x∈l.foldl (fun m p=>Yo p m) m↔x∈l\/x∈m:=by
  intro l
  induction l with
  |nil=>grind
  |cons p l ih =>
   intro m hm;obtain⟨h1,h2⟩:=ih (Yo p m) (G1 hm);refine⟨h1,fun x=>?_⟩
   rw[List.foldl_cons,h2,qZ,zMU];constructor
   ·grind
   grind
 obtain⟨h1,h2⟩:=key l [] (by simp)
 grind [CV,mT,SS.eq,KT]
theorem MB(a b:Int):(Zj a b).val=some (if a<b then -1 else if b<a then 1 else 0,()):=by
 unfold Zj;by_cases h1:a<b
 ·simp_all [zj]
 ·rw[zMr (by grind),zMr h1]
  by_cases h2:b<a
  ·simp_all [J8]
  simp_all [zMr,J8]
def M9:List (Int×Int)->Int
 | []=>0
 |x::l=>if x.1<x.2 then -1 else if x.2<x.1 then 1 else M9 l
theorem Sd(p q:Pln):Xv p q=M9 [(p.1.1,q.1.1),(p.1.2.1,q.1.2.1),(p.1.2.2.1,q.1.2.2.1),(p.2.1,q.2.1)]:=rfl
theorem Av(p q:Pln):(kG p q).val=some (Xv p q,()):=by
 unfold kG;rw[Sd];generalize hl:[(p.1.1,q.1.1),(p.1.2.1,q.1.2.1),(p.1.2.2.1,q.1.2.2.1),(p.2.1,q.2.1)]=l;have hm:[[p.1.1,q.1.1],[p.1.2.1,q.1.2.1],[p.1.2.2.1,q.1.2.2.1],[p.2.1,q.2.1]]=l.map fun x=>[x.1,x.2]:=by grind
 have fA:l.length=4:=by grind
 rw[hm];have key:∀(ys zs:List (Int×Int)),l=zs++ys->(Comp.loop
     (fun (x:Int×Int)=>if ltI x.2 (zD (l.map fun x=>[x.1,x.2]))=true then
       (idx (l.map fun x=>[x.1,x.2]) x.2).bind fun x_1=>(idx x_1 0).bind fun x_2=>(idx x_1 1).bind fun x_3=>(Go.F.Zj x_2 x_3).bind fun x_4=>if eqI x_4.1 0=true then Comp.pure (.next (x_4.1,zH .i64 x.2 1)) else Comp.pure (.done x_4.1)
      else Comp.pure (.done x.1)) (0,(zs.length:Int))).val=some (M9 ys):=by
  intro ys
  induction ys with
  |nil =>
   intro zs hx;rw[zJ,zMr (by grind),Comp.zB];rfl
  |cons y ys ih =>
   intro zs hx;have hy:(l.map fun x=>[x.1,x.2])[zs.length]?=some [y.1,y.2]:=by grind
   have gF:=zL hy;rw[List.length_map]at gF;have i0:(idx [y.1,y.2] 0).val=some y.1:=Kx rfl
   have i1:(idx [y.1,y.2] 1).val=some y.2:=Kx rfl;rw[zJ,zMq (by grind),zA,zI hy,zMO,zA,i0,zMO,zA,i1,zMO,zA,MB,zMO]
   unfold M9;by_cases h1:y.1<y.2
   ·simp_all [Jl]
   ·rw[zMr h1]
    by_cases h2:y.2<y.1
    ·simp_all [Jl]
    ·rw[zMr h2,zMq (by grind),Comp.zB,zMr h1,zMr h2,zN (by omega),zMO]
     have:=ih (zs++[y]) (by grind)
     grind
 rw[zA];refine(zMh (fun o=>Option.bind o _) (key l [] rfl)).trans ?_
 simp_all
theorem Nj{l:List Pln}(h:l.length<=LIM):(yA l fun z=>kG z.1 z.2.1).val=some (Jm l):=by
 unfold yA Ct;rw[zMq ⟨h,fun x y=>vN.1 (Av x y)⟩,Comp.zB]
theorem zIk(x y:Pln):adB (adB (eqI x.1.1 y.1.1) (adB (eqI x.1.2.1 y.1.2.1) (eqI x.1.2.2.1 y.1.2.2.1))) (eqI x.2.1 y.2.1)=decide (x=y):=by
 grind
def zIl(x y:Pln):Bool:=adB (adB (eqI x.1.1 y.1.1) (adB (eqI x.1.2.1 y.1.2.1) (eqI x.1.2.2.1 y.1.2.2.1))) (eqI x.2.1 y.2.1)
theorem Wl(x y:Pln):zIl x y=decide (x=y):=zIk x y
theorem Aw{l:List Pln}(hl:l.length<9223372036854775807):(yB l).val=some (cpc l):=by
 have e:yB l=zGE zIl ((0,0,0,()),0,()) l:=by
  kernel_rfl
 grind [Wy,Wl]
def onn(p:Pln)(X:List Pnt):Nat:=(X.filter fun x=>decide (rm p x=0)).length
def fac(c:List Pln):List Pln:=c.filter fun p=>decide (3<=onn p (crn (c++bx0)))
def ln(c:List Pln):List Pln:=bif ful c then cpc (Jm (fac c)) else []
theorem pj{c:List Pln}(h:c.length<=48):(crn (c++bx0)).length<=1000000000:=by
 refine zMX (lH _) (zMX (Kn _) ?_);have:(c++bx0).length<=1000:=by simp[bx0];omega
 exact Nat.mul_le_mul this (Nat.mul_le_mul this this)
theorem Dr{c:List Pln}(h:chk c=0):(Yz c).val=some (crn (c++bx0),()):=by
 obtain⟨h1,h2⟩:=kt h;unfold Yz;rw[zA,YW _ (by simp),zMO]
 simp only[List.all_cons,List.all_nil,Bool.and_true,yV];rw[zMr (by simp[h]),zA,yN (by simp) (by grind),zMO,zA]
 simp only[List.flatten_cons,List.flatten_nil,zMw];rw[uA (by simp[bx0];omega) (fun p hp=>(zMZ.1 hp).elim (h2 p) (KB p)),zMO,Comp.zB]
theorem Ae{c:List Pln}(h:chk c=0):(jE c).val=some (crn (c++bx0),()):=by
 obtain⟨h1,h2⟩:=kt h;unfold jE;rw[zA,jr,zMO,zMr (by grind),zA,qY (by omega),zMO,zA,
  KI (by simp[bx0];omega) (fun p hp=>(zMZ.1 hp).elim (h2 p) (KB p)),zMO,Comp.zB]
theorem MZ{p:Pln}{X:List Pnt}(hX:X.length<=1000000000):(j4 p X).val=some (decide (onn p X<3),()):=by
 unfold j4;have h1:=jy (σ:=Int) X.length (fun k n=>match X[k]? with|some x=>if rm p x=0 then n+1 else n|none=>n) (fun k n=>n+(onn p (X.drop k):Nat)) (fun n k=>0<=n/\n<=k)
  (body:=(fun (x:Int×Int)=>if ltI x.2 (zD X)=true then
       (idx X x.2).bind fun x_1=>(Go.F.Ze p x_1).bind fun x_2=>jn (fun (x_3:Int)=>Comp.pure (.next (x_3,zH .i64 x.2 1))) fun (j:Int->Comp (Comp.Step (Int×Int) Int))=>if eqI x_2.1 0=true then j (zH .i64 x.1 1) else j x.1
      else Comp.pure (.done x.1)))
  (fun n k hk hI=>by
   obtain⟨x,hx⟩:=zO (xs:=X) (k:=k) hk;refine⟨?_,?_,?_⟩
   ·rw[hx]
    simp only;rw[zMq (by grind),zA,zI hx,zMO,zA,qW,zMO,vV]
    by_cases h:rm p x=0
    ·rw[zMq (by grind),zMq h,Comp.zB,zN (by omega),ku (by omega)]
    ·rw[zMr (by grind),zMr h,Comp.zB,zN (by omega)]
   ·grind
   ·rw[drop_cons hx,hx]
    unfold onn;grind)
  (fun n=>by simp[zj,zR]) (fun n=>by grind [onn]) 0 0 (Nat.zero_le _) (by omega)
 rw[zA];refine(zMh (fun o=>Option.bind o _) h1).trans ?_
 rw[zMO,Comp.zB];grind
theorem lD{c:List Pln}:(fac c).length<=c.length:=List.length_filter_le _ _
theorem KY(c:List Pln):(gX c).val=some (ln c,()):=by
 unfold gX ln;rw[zA,Zg,zMO,yV]
 cases hf:ful c with
 |false=>simp_all
 |true =>
  have hc:chk c=0:=by
   simp_all [ful]
  obtain⟨h1,h2⟩:=kt hc;have hX:=pj h1
  have hL:=YR;have e1:(zZ c).val=some (c,()):=K0 (by grind [LIM])
  have e2:(yG c fun z=>j4 z.1 (crn (c++bx0))).val=some (fac c):=by
   refine(Hg (z:=((0,0,0,()),0,())) (f:=fun z=>j4 z.1 (crn (c++bx0))) (p:=fun p=>decide (onn p (crn (c++bx0))<3)) (by omega) fun p _=>MZ hX).trans ?_
   grind [fac]
  rw[zMr (by simp),zA,Dr hc,zMO,zA,e1,zMO,zA,e2,zMO,zA,Nj (by grind [lD,LIM]),zMO,zA,
   Aw (by grind [qU,lD]),zMO,Comp.zB]
  rfl
theorem nI(p q:Pln):(y5 p q).val=some (Xv p q,()):=by
 unfold y5;rw[Sd];generalize hl:[(p.1.1,q.1.1),(p.1.2.1,q.1.2.1),(p.1.2.2.1,q.1.2.2.1),(p.2.1,q.2.1)]=l;have hm1:[p.1.1,p.1.2.1,p.1.2.2.1,p.2.1]=l.map fun x=>x.1:=by grind
 have hm2:[q.1.1,q.1.2.1,q.1.2.2.1,q.2.1]=l.map fun x=>x.2:=by grind
 have fA:l.length=4:=by grind
 rw[hm1,hm2];have key:∀(ys zs:List (Int×Int)),l=zs++ys->∃r:Unit⊕Int,(match r with|.inl _=>0|.inr n=>n)=M9 ys/\(Comp.loop
     (fun (x:Int)=>if ltI x 4=true then
       (idx (l.map fun x=>x.1) x).bind fun x_1=>(idx (l.map fun x=>x.2) x).bind fun x_2=>if ltI x_1 x_2=true then Comp.pure (.done (Sum.inr (-1)))
         else
          (idx (l.map fun x=>x.1) x).bind fun x_3=>(idx (l.map fun x=>x.2) x).bind fun x_4=>if gtI x_3 x_4=true then Comp.pure (.done (Sum.inr 1)) else Comp.pure (.next (zH .i64 x 1))
      else Comp.pure (.done (Sum.inl ()))) (zs.length:Int)).val=some r:=by
  intro ys
  induction ys with
  |nil =>
   intro zs hx;have hz:zs.length=4:=by grind
   exact⟨.inl (),rfl,by rw[zJ,zMr (by grind),Comp.zB];grind⟩
  |cons y ys ih =>
   intro zs hx;have hz:zs.length<4:=by grind
   have i1:(idx (l.map fun x=>x.1) (zs.length:Int)).val=some y.1:=zI (by grind)
   have i2:(idx (l.map fun x=>x.2) (zs.length:Int)).val=some y.2:=zI (by grind)
   unfold M9;by_cases h1:y.1<y.2
   ·refine⟨.inr (-1),by grind,?_⟩
    rw[zJ,zMq (by grind),zA,i1,zMO,zA,i2,zMO,zMq (by grind),Comp.zB];rfl
   ·by_cases h2:y.2<y.1
    ·refine⟨.inr 1,by grind,?_⟩
     rw[zJ,zMq (by grind),zA,i1,zMO,zA,i2,zMO,zMr (by grind),zA,i1,zMO,zA,i2,zMO,zMq (by grind),Comp.zB];rfl
    ·obtain⟨r,h3,h4⟩:=ih (zs++[y]) (by grind)
     refine⟨r,by omega,?_⟩
     rw[zJ,zMq (by grind),zA,i1,zMO,zA,i2,zMO,zMr (by grind),zA,i1,zMO,zA,i2,zMO,zMr (by grind),Comp.zB,zN (by omega),zMO]
     grind
 obtain⟨r,h3,h4⟩:=key l [] rfl;rw[zA];refine(zMh (fun o=>Option.bind o _) h4).trans ?_
 grind [Comp.zB]
def bef(p:Pln):List Pln->Nat
 | []=>0
 |q::l=>if Xv q p<0 then bef p l+1 else 0
theorem Si{p:Pln}:∀ {l:List Pln},bef p l<=l.length
 | []=>zMS _
 |q::l=>by
  have:=Si (p:=p) (l:=l);grind [bef]
theorem Bb{p:Pln}:∀ {l:List Pln},Yo p l=if l[bef p l]?=some p then l else l.take (bef p l)++p::l.drop (bef p l)
 | []=>rfl
 |q::l=>by
  have ih:=Bb (p:=p) (l:=l);unfold Yo bef;grind
theorem Ns{l:List Pln}{p:Pln}(hl:l.length<=1000000):(jM l p).val=some (Yo p l,()):=by
 have hL:=YR;unfold jM;have key:∀(ys zs:List Pln),l=zs++ys->(Comp.loop
     (fun (x:Int)=>(Comp.gd (ltI x (zD l)) (idx l x) ((0,0,0,()),0,())).bind fun x_1=>(Comp.gd (ltI x (zD l)) (Go.F.y5 x_1 p) (0,())).bind fun x_2=>if sel (ltI x (zD l)) (ltI x_2.1 0) false=true then Comp.pure (.next (zH .i64 x 1)) else Comp.pure (.done x))
     (zs.length:Int)).val=some (((zs.length+bef p ys:Nat)):Int):=by
  intro ys
  induction ys with
  |nil =>
   intro zs hx;have h1:ltI (zs.length:Int) (zD l)=false:=by grind
   rw[zJ];simp only[h1];rw[zA];show Option.bind (Option.bind (Comp.pure _).val _) _=_
   rw[Comp.zB,zMO,zA];show Option.bind (Option.bind (Comp.pure _).val _) _=_
   rw[Comp.zB,zMO];rw[zMr (by grind),Comp.zB,zMO]
   rfl
  |cons y ys ih =>
   intro zs hx;have hy:l[zs.length]?=some y:=by grind
   have gF:=zL hy;have h1:ltI (zs.length:Int) (zD l)=true:=by grind
   rw[zJ];simp only[h1];rw[zA];show Option.bind (Option.bind (idx l (zs.length:Int)).val _) _=_
   rw[zI hy,zMO,zA];show Option.bind (Option.bind (y5 y p).val _) _=_
   rw[nI,zMO];unfold bef;by_cases h2:Xv y p<0
   ·rw[zMq (by grind),zMq h2,Comp.zB,zN (by omega),zMO]
    have:=ih (zs++[y]) (by grind)
    grind
   ·rw[zMr (by grind),zMr h2,Comp.zB,zMO]
    rfl
 have h1:=key l [] rfl;simp only[List.length_nil,Nat.zero_add]at h1;have hb:=Si (p:=p) (l:=l)
 rw[zA];refine(zMh (fun o=>Option.bind o _) h1).trans ?_
 rw[zMO,Bb];have tail:((sub l 0 ((bef p l:Nat):Int)).bind fun x_2=>(app [] x_2).bind fun zs=>(app zs [p]).bind fun zs=>(sub l ((bef p l:Nat):Int) (zD l)).bind fun x=>(app zs x).bind fun zs=>(Comp.pure (zs,()):Comp (List Pln×Unit))).val=some (l.take (bef p l)++p::l.drop (bef p l),()):=by
  have s1:(sub l 0 ((bef p l:Nat):Int)).val=some (l.take (bef p l)):=by grind [YK]
  rw[zA,s1,zMO,zA,yQ (by grind [LIM]),zMO,zA,yQ (by grind [LIM]),zMO,zA,mI hb,zMO,zA,
   yQ (by grind [LIM]),zMO,Comp.zB]
  simp
 by_cases gF:bef p l<l.length
 ·obtain⟨y,hy⟩:=zO (xs:=l) (k:=bef p l) gF
  have h2:ltI ((bef p l:Nat):Int) (zD l)=true:=by grind
  rw[h2,zA];show Option.bind (idx l ((bef p l:Nat):Int)).val _=_
  rw[zI hy,zMO,hy];have he:=zIk y p
  by_cases hp:y=p
  ·simp_all [sel]
  grind
 ·have h2:ltI ((bef p l:Nat):Int) (zD l)=false:=by grind
  rw[h2,zA];show Option.bind (Comp.pure _).val _=_
  simp_all [sel]
theorem Vl{i:Nat}{c:List Pln}{p:Pln}(hp:c[i]?=some p){X:List Pnt}(hX:X.length<=1000000000):(Comp.loop
             (fun (x_2:Int×Int)=>if ltI x_2.2 (zD X)=true then
               (idx c (i:Int)).bind fun x=>(idx X x_2.2).bind fun x_3=>(Go.F.zf x x_3).bind fun x=>jn (fun (x:Int)=>Comp.pure (.next (x,zH .i64 x_2.2 1)))
                   fun (j:Int->Comp (Comp.Step (Int×Int) Int))=>if eqI x.1 0=true then j (zH .i64 x_2.1 1) else j x_2.1
              else Comp.pure (.done x_2.1))
             (0,0)).val=some ((onn p X:Nat):Int):=by
 have h1:=jy (σ:=Int) X.length (fun k n=>match X[k]? with|some x=>if rm p x=0 then n+1 else n|none=>n) (fun k n=>n+(onn p (X.drop k):Nat)) (fun n k=>0<=n/\n<=k)
  (body:=(fun (x_2:Int×Int)=>if ltI x_2.2 (zD X)=true then
               (idx c (i:Int)).bind fun x=>(idx X x_2.2).bind fun x_3=>(Go.F.zf x x_3).bind fun x=>jn (fun (x:Int)=>Comp.pure (.next (x,zH .i64 x_2.2 1)))
                   fun (j:Int->Comp (Comp.Step (Int×Int) Int))=>if eqI x.1 0=true then j (zH .i64 x_2.1 1) else j x_2.1
              else Comp.pure (.done x_2.1)))
  (fun n k hk hI=>by
   obtain⟨x,hx⟩:=zO (xs:=X) (k:=k) hk;refine⟨?_,?_,?_⟩
   ·rw[hx]
    simp only;rw[zMq (by grind),zA,zI hp,zMO,zA,zI hx,zMO,zA,wM,zMO,vV]
    by_cases h:rm p x=0
    ·rw[zMq (by grind),zMq h,Comp.zB,zN (by omega),ku (by omega)]
    ·rw[zMr (by grind),zMr h,Comp.zB,zN (by omega)]
   ·grind
   ·rw[drop_cons hx,hx]
    unfold onn;grind)
  (fun n=>by simp[zj,zR]) (fun n=>by grind [onn]) 0 0 (Nat.zero_le _) (by omega)
 grind
theorem XK(c:List Pln):(zo c).val=some (ln c,()):=by
 unfold zo ln;rw[zA,YS,zMO,yV]
 cases hf:ful c with
 |false=>simp_all
 |true =>
  have hc:chk c=0:=by
   simp_all [ful]
  obtain⟨h1,h2⟩:=kt hc;have hX:=pj h1
  have hL:=YR;rw[zMr (by simp),zA,Ae hc,zMO]
  have h3:=jy c.length (fun k l=>match c[k]? with|some p=>if 3<=onn p (crn (c++bx0)) then Yo p l else l|none=>l) (fun k l=>((c.drop k).filter fun p=>decide (3<=onn p (crn (c++bx0)))).foldl (fun m p=>Yo p m) l) (fun l k=>l.length<=k)
   (body:=(fun (x_1:List (Pln)×Int)=>if ltI x_1.2 (zD c)=true then
          (Comp.loop
             (fun (x_2:Int×Int)=>if ltI x_2.2 (zD (crn (c++bx0)))=true then
               (idx c x_1.2).bind fun x=>(idx (crn (c++bx0)) x_2.2).bind fun x_3=>(Go.F.zf x x_3).bind fun x=>jn (fun (x:Int)=>Comp.pure (.next (x,zH .i64 x_2.2 1)))
                   fun (j:Int->Comp (Comp.Step (Int×Int) Int))=>if eqI x.1 0=true then j (zH .i64 x_2.1 1) else j x_2.1
              else Comp.pure (.done x_2.1))
             (0,0)).bind fun x=>jn (fun (x:List (Pln))=>Comp.pure (.next (x,zH .i64 x_1.2 1)))
            fun (j :
              List (Pln)->Comp (Comp.Step (List (Pln)×Int) (List (Pln)))) =>
            if geI x 3=true then
             (idx c x_1.2).bind fun x=>(Go.F.jM x_1.1 x).bind fun x=>j x.1
            else j x_1.1
         else Comp.pure (.done x_1.1)))
   (fun l k hk hI=>by
    obtain⟨p,hp⟩:=zO (xs:=c) (k:=k) hk;refine⟨?_,?_,?_⟩
    ·rw[hp]
     simp only;rw[zMq (by grind),zA]
     refine(zMh (fun o=>Option.bind o _) (Vl hp hX)).trans ?_
     rw[zMO,vV];by_cases h:3<=onn p (crn (c++bx0))
     ·rw[zMq (by grind),zMq h,zA,zI hp,zMO,zA,Ns (by omega),zMO,Comp.zB,zN (by omega)]
     ·rw[zMr (by grind),zMr h,Comp.zB,zN (by omega)]
    ·grind [Ba]
    ·rw[drop_cons hp,hp]
     grind)
   (fun n=>by simp[zj,zR]) (fun n=>by grind) 0 [] (Nat.zero_le _) (by simp)
  rw[zA];refine(zMh (fun o=>Option.bind o _) h3).trans ?_
  rw[zMO,Comp.zB,List.drop_zero,N1];rfl
abbrev Cell:=List Pln
def jD:List Cell->Int
 | []=>0
 |c::s=>if chk c=0 then jD s else chk c
def sck(s:List Cell):Int:=if 16<s.length then 2 else jD s
def sap(c:Cell)(s:List Cell):Bool:=s.all fun q=>apa c q
def vp(p:Pln):Pln:=((-p.1.1, -p.1.2.1, -p.1.2.2.1,()), -p.2.1,())
def gp:Cell->List Pln->List (Option Cell)
 |_,[]=>[]
 |rest,p::fs=>if 48<=rest.length then [none] else (bif decide (ln (rest++[vp p])=[]) then [] else [some (ln (rest++[vp p]))])++gp (ln (rest++[p])) fs
def gM:List (Option α)->Bool
 | []=>false
 |none::_=>true
 |some _::l=>gM l
def yY:List (Option α)->List α
 | []=>[]
 |none::l=>yY l
 |some x::l=>x::yY l
def wo(q:Cell):List Cell->List Cell->Option (List Cell)
 | [],out=>some out
 |x::xs,out=>if apa x q=true then wo q xs (out++[x]) else if gM (gp x (ln q))=true then none else wo q xs (out++yY (gp x (ln q)))
def wth(pieces:List Cell)(q:Cell):List Cell×Int :=
 if ful q=true then match wo q pieces [] with
  |none=>([],9)
  |some out=>if 200<out.length then ([],9) else (out,0)
 else (pieces,0)
def ZQ:List Cell->List Cell->List Cell×Int
 |pcs,[]=>(pcs,0)
 |pcs,q::s=>if (wth pcs q).2=0 then ZQ (wth pcs q).1 s else ([],(wth pcs q).2)
def mns(c:Cell)(s:List Cell):List Cell×Int:=if chk c=0 then if sck s=0 then if ful c=true then ZQ [ln c] s else ([],0) else ([],sck s) else ([],chk c)
def cov(s:List Cell)(c:Cell):Bool×Int:=(decide ((mns c s).2=0) && decide ((mns c s).1.length=0),(mns c s).2)
theorem AK:∀ {fs:List Pln} {rest:Cell},(gp rest fs).length<=fs.length
 | [],_=>zMS _
 |p::fs,rest=>by
  have:=AK (fs:=fs) (rest:=ln (rest++[p]));grind [gp]
theorem JN:∀ {l:List (Option α)},(yY l).length<=l.length
 | []=>zMS _
 |none::l=>by have:=JN (l:=l);grind [yY]
 |some _::l=>by have:=JN (l:=l);grind [yY]
theorem zBj:∀ {fs:List Pln} {rest:Cell} {c:Cell},some c∈gp rest fs->c≠[]
 | [],_,_,h=>by cases h
 |p::fs,rest,c,h=>by
  unfold gp at h;split at h
  ·simp at h
  ·rw[zMZ]at h
   rcases h with h|h
   ·grind
   ·exact zBj h
theorem qk [DecidableEq α]{y:α}:∀ {l:List α} {x:α},y∈J3 x l->y∈l
 | [],_,h=>h
 |z::l,x,h=>by
  unfold J3 at h;split at h
  ·exact zMa _ (qk h)
  ·rcases zMU.1 h with rfl|h
   ·simp
   ·exact zMa _ (qk h)
theorem Wz [DecidableEq α]{y:α}{l:List α}(h:y∈cpc l):y∈l:=by
 cases l with
 |nil=>exact h
 |cons x l =>
  rcases zMU.1 h with rfl|h
  ·simp
  ·exact zMa _ (qk h)
theorem Wh{c:Cell}(h:ful c=true):chk c=0:=by
 simp_all [ful]
theorem zAc{c:Cell}:(ln c).length<=48/\∀p∈ln c,okB p:=by
 unfold ln
 cases hf:ful c with
 |false=>simp
 |true =>
  obtain⟨h1,h2⟩:=kt (Wh hf);have h3:=lD (c:=c)
  refine⟨?_,fun p hp=>?_⟩
  ·grind [W0,qU]
  ·have:=KT.1 (Wz (show p∈cpc (Jm (fac c)) from hp))
   exact h2 p (List.mem_filter.1 this).1
theorem GW{pieces:List Cell}{q:Cell}(h:pieces.length<=200):(wth pieces q).1.length<=200:=by
 grind [wth]
theorem tB{s:List Cell}(hl:s.length<9223372036854775807){body:Int->Comp (Comp.Step Int (Unit⊕Int))}(hb:∀(i:Nat) c,s[i]?=some c->(body (i:Int)).val=some (if chk c=0 then .next ((i+1:Nat):Int) else .done (.inr (chk c))))(he:(body (s.length:Int)).val=some (.done (.inl ()))) :
  ∃r:Unit⊕Int,(match r with|.inl _=>0|.inr n=>n)=jD s/\(Comp.loop body 0).val=some r:=by
 have key:∀(ys zs:List Cell),s=zs++ys->∃r:Unit⊕Int,(match r with|.inl _=>0|.inr n=>n)=jD ys/\(Comp.loop body (zs.length:Int)).val=some r:=by
  intro ys
  induction ys with
  |nil =>
   intro zs hx;refine⟨.inl (),rfl,?_⟩;grind [zJ]
  |cons y ys ih =>
   intro zs hx;have hy:s[zs.length]?=some y:=by grind
   unfold jD;by_cases h:chk y=0
   ·obtain⟨r,h1,h2⟩:=ih (zs++[y]) (by grind)
    refine⟨r,by omega,?_⟩
    rw[zJ,hb _ _ hy,zMq h,zMO];grind
   ·refine⟨.inr (chk y),by grind,?_⟩
    rw[zJ,hb _ _ hy,zMr h,zMO]
 exact key s [] rfl
theorem uO(s:List Cell):(Yu s).val=some (sck s,()):=by
 unfold Yu sck;by_cases h:16<s.length
 ·rw[zMq (by grind),zMq h,Comp.zB]
 ·rw[zMr (by grind),zMr h]
  obtain⟨r,h1,h2⟩:=tB (s:=s) (by omega)
   (body:=(fun (x:Int)=>if ltI x (zD s)=true then
        (idx s x).bind fun x_1=>(Go.F.vn x_1).bind fun x_2=>if neI x_2.1 0=true then Comp.pure (.done (Sum.inr x_2.1)) else Comp.pure (.next (zH .i64 x 1))
       else Comp.pure (.done (Sum.inl ()))))
   (fun i c hc=>by
    have gF:=zL hc;rw[zMq (by grind),zA,zI hc,zMO,zA,gx,zMO,zN (by omega)]
    by_cases h:chk c=0
    ·simp_all [gJ]
    simp_all [gJ])
   (by simp[zj,zR])
  rw[zA];refine(zMh (fun o=>Option.bind o _) h2).trans ?_
  grind [Comp.zB]
theorem kK(c:Cell){s:List Cell}(hl:s.length<9223372036854775807):(vD c s).val=some (sap c s,()):=by
 unfold vD;have h1:(zG s fun z=>ji z.1 c).val=some (s.any fun q=>!apa c q,()) :=
  Zu (xs:=s) (f:=fun z=>ji z.1 c) (p:=fun q=>!apa c q) hl fun q _=>by
   grind [ji,zA,gy,Comp.zB]
 grind [zA,Comp.zB,sap]
theorem CD{p:Pln}(h:okB p):(YX p).val=some (vp p,()):=by
 obtain⟨⟨h1,h2,h3⟩,h4⟩:=h;unfold YX wP;grind [zA,Comp.zB,JZ,vp]
theorem CZ{c:Cell}{p:Pln}(h:c.length<=1000):(zM [c,[p]]).val=some (c++[p],()):=by
 have:=K1 (z:=((0,0,0,()),0,())) (xs:=[c,[p]]) (by grind [LIM]) (by simp)
 simp only[List.flatten_cons,List.flatten_nil,zMw]at this;exact this
theorem pN{piece:Cell}{fs:List Pln}(hl:fs.length<=1000)(hB:∀p∈fs,okB p):(jh piece fs).val=some ((gp piece fs).map fun o=>(o,())):=by
 unfold jh;have key:∀(ys zs:List Pln) (rest:Cell),fs=zs++ys->∃e:Unit⊕Unit,(YA
       (fun (x:List (Pln)×Int)=>if ltI x.2 (zD fs)=true then
         (idx fs x.2).bind fun x_1=>if geI (zD x.1) 48=true then tell [(none,())] (Comp.pure ([],.done (Sum.inr ())))
          else
           (Go.F.YX x_1).bind fun x_2=>(Go.F.zM [x.1,[x_2.1]]).bind fun y=>(Go.F.gX y.1).bind fun y_1=>if gtI (zD y_1.1) 0=true then
               tell [(some y_1.1,())]
                ((Go.F.zM [x.1,[x_1]]).bind fun y=>(Go.F.gX y.1).bind fun y=>Comp.pure ([],.next (y.1,zH .i64 x.2 1)))
              else
               (Go.F.zM [x.1,[x_1]]).bind fun y=>(Go.F.gX y.1).bind fun y=>Comp.pure ([],.next (y.1,zH .i64 x.2 1))
        else Comp.pure ([],.done (Sum.inl ()))) (rest,(zs.length:Int))).val=some ((gp rest ys).map fun o=>(o,()),e):=by
  intro ys
  induction ys with
  |nil =>
   intro zs rest hx;exact⟨.inl (),Jw (by rw[zMr (by grind),Comp.zB];rfl)⟩
  |cons p ys ih =>
   intro zs rest hx;have hy:fs[zs.length]?=some p:=by grind
   have gF:=zL hy;have hp:=hB p (zMV hy)
   by_cases hr:48<=rest.length
   ·refine⟨.inr (),Jw ?_⟩
    rw[zMq (by grind),zA,zI hy,zMO,zMq (by grind),Yf,Comp.zB]
    unfold gp;grind
   ·obtain⟨e,he⟩:=ih (zs++[p]) (ln (rest++[p])) (by grind)
    refine⟨e,?_⟩;have dI:(gp rest (p::ys)).map (fun o=>(o,()))=(bif decide (ln (rest++[vp p])=[]) then [] else [(some (ln (rest++[vp p])),())])++(gp (ln (rest++[p])) ys).map fun o=>(o,()):=by
     conv=>lhs;unfold gp
     grind
    rw[dI];refine tf (s':=(ln (rest++[p]),((zs.length+1:Nat):Int))) ?_ (by grind)
    rw[zMq (by grind),zA,zI hy,zMO,zMr (by grind),
     zA,CD hp,zMO,zA,CZ (by grind),zMO,zA,KY,zMO]
    have ht:((Go.F.zM [rest,[p]]).bind fun y=>(Go.F.gX y.1).bind fun y=>(Comp.pure ([],.next (y.1,zH .i64 (zs.length:Int) 1)):Comp (List (Option Cell×Unit)×Comp.Step (Cell×Int) (Unit⊕Unit)))).val=some ([],.next (ln (rest++[p]),((zs.length+1:Nat):Int))):=by
     rw[zA,CZ (by omega),zMO,zA,KY,zMO,Comp.zB,zN (by omega)]
    by_cases h0:ln (rest++[vp p])=[]
    ·grind
    ·rw[zMq (by grind [List.length_pos_iff]),Yf,zMs h0]
     grind
 obtain⟨e,he⟩:=key fs [] piece rfl;rw[zA,zA];refine(zMh (fun o=>Option.bind (Option.bind o _) _) he).trans ?_
 rw[zMO,Yf];have h3:∀e:Unit⊕Unit,(match e with|Sum.inl x=>Comp.pure ([],())|Sum.inr x=>Comp.pure ([],()):Comp (List (Option Cell×Unit)×Unit)).val=some ([],()):=fun e=>by grind [Comp.zB]
 refine(zMh (fun o=>Option.bind (Option.map _ o) _) (h3 e)).trans ?_
 grind [Comp.zB]
theorem pb{a:List Cell}{b:Int}:∀(L:List (Option Cell)) (out:List Cell),(∀c,some c∈L->c≠[])->out.length+L.length<=1000000->(wC
                   (fun (x :
                      List (List (Pln))×Int×List (List (Pln)))
                     (d:Option (List (Pln))×Unit) =>
                    match d.1 with
                    |none=>Comp.pure (.done ([],Int.ofNat 9))
                    |some xs =>
                     amb (uN xs) (Comp.pure (.done ([],Int.ofNat 9)))
                      ((app x.2.2 [xs]).bind fun zs=>Comp.pure (.next (x.1,x.2.1,zs))))
                   (L.map fun o=>(o,())) (a,b,out)).val=some (if gM L=true then .done ([],9) else .next (a,b,out++yY L):Comp.Step (List Cell×Int×List Cell) (List Cell×Int))
 | [],out,_,_=>by
  show (Comp.pure _).val=_
  grind [Comp.zB,gM,yY]
 |none::L,out,_,_=>by
  show ((Comp.pure _).bind _).val=_
  rw[zA,Comp.zB,zMO,Comp.zB];rfl
 |some c::L,out,fE,fA=>by
  have hc:=fE c (by simp)
  simp only[zMY]at fA;show ((amb (uN c) _ _).bind _).val=_
  have hn:uN c=false:=by cases c with
   |nil=>grind
   |cons _ _=>rfl
  have h1:(amb (uN c) (Comp.pure (.done ([],Int.ofNat 9))) ((app out [c]).bind fun zs=>Comp.pure (.next (a,b,zs))):Comp (Comp.Step (List Cell×Int×List Cell) (List Cell×Int))).val=some (.next (a,b,out++[c])):=by
   rw[hn];show ((app out [c]).bind _).val=_
   grind [zA,yQ,LIM,Comp.zB]
  rw[zA];refine(zMh (fun o=>Option.bind o _) h1).trans ?_
  rw[zMO];refine(pb L (out++[c]) (fun c' h=>fE c' (zMa _ h)) (by grind)).trans ?_
  grind [gM,yY]
theorem wc{pieces:List Cell}(q:Cell)(hl:pieces.length<=200):(kF pieces q).val=some ((wth pieces q).1,(wth pieces q).2,()):=by
 unfold kF;rw[zA,Zg,zMO,yV];by_cases hf:ful q=true
 ·rw[zMr (by grind),zA,KY,zMO]
  have hq:=zAc (c:=q)
  have key:∀(ys zs:List Cell) (out:List Cell),pieces=zs++ys->out.length+ys.length * 49<=20000->∃r,(match r with
    |.inl x=>some x.2.2
    |.inr _=>none)=wo q ys out/\(∀x,r=.inr x->x=([],9))/\(∀x,r=.inl x->x.1=[]/\x.2.1=0)/\(Comp.loop
        (fun (x:Int×List (List (Pln))×Int×List (List (Pln)))=>if ltI x.1 (zD pieces)=true then
          jn
           (fun (x_1:List (List (Pln))×Int×List (List (Pln)))=>Comp.pure (.next (zH .i64 x.1 1,x_1.1,x_1.2.1,x_1.2.2)))
           fun (j :
             List (List (Pln))×Int×List (List (Pln))->Comp
               (Comp.Step
                (Int×List (List (Pln))×Int×List (List (Pln)))
                (List (List (Pln))×Int×List (List (Pln)) ⊕
                 List (List (Pln))×Int))) =>
           (idx pieces x.1).bind fun x_1=>(Go.F.jv x_1 q).bind fun x_2=>if x_2.1=true then (app x.2.2.2 [x_1]).bind fun zs=>j (x.2.1,x.2.2.1,zs)
             else
              (Go.F.Zi x_1 (ln q)).bind fun (x_3:Comp (List (Option (List (Pln))×Unit))×Unit)=>x_3.1.bind fun (xs:List (Option (List (Pln))×Unit))=>(wC
                   (fun (x :
                      List (List (Pln))×Int×List (List (Pln)))
                     (d:Option (List (Pln))×Unit) =>
                    match d.1 with
                    |none=>Comp.pure (.done ([],Int.ofNat 9))
                    |some xs =>
                     amb (uN xs) (Comp.pure (.done ([],Int.ofNat 9)))
                      ((app x.2.2 [xs]).bind fun zs=>Comp.pure (.next (x.1,x.2.1,zs))))
                   xs (x.2.1,x.2.2.1,x.2.2.2)).bind fun (r :
                   Comp.Step
                    (List (List (Pln))×Int×List (List (Pln)))
                    (List (List (Pln))×Int)) =>
                 match r with
                 |.next x=>j (x.1,x.2.1,x.2.2)
                 |.done e=>Comp.pure (.done (Sum.inr (e.1,e.2)))
         else Comp.pure (.done (Sum.inl (x.2.1,x.2.2.1,x.2.2.2)))) ((zs.length:Int),[],0,out)).val=some r:=by
   intro ys
   induction ys with
   |nil =>
    intro zs out hx fA;refine⟨.inl ([],0,out),rfl,(fun x h=>nomatch h),(fun x h=>by grind),?_⟩
    rw[zJ,zMr (by grind),Comp.zB];rfl
   |cons y ys ih =>
    intro zs out hx fA;simp only[zMY]at fA;have hy:pieces[zs.length]?=some y:=by grind
    have gF:=zL hy;by_cases ha:apa y q=true
    ·obtain⟨r,h1,h2,h3,h4⟩:=ih (zs++[y]) (out++[y]) (by grind) (by grind)
     refine⟨r,by rw[h1];conv=>rhs;unfold wo;rw[zMq ha],h2,h3,?_⟩
     rw[zJ,zMq (by grind),vV,zA,zI hy,zMO,zA,gy,zMO,zMq ha,zA,
      yQ (by grind [LIM]),zMO,Comp.zB,zMO,zN (by omega)]
     grind
    ·have hp:(Zi y (ln q)).val=some (jh y (ln q),()):=by grind [Zi,Comp.zB]
     have hfo:=pb (a:=[]) (b:=0) (gp y (ln q)) out (fun c h=>zBj h) (by grind [AK])
     by_cases hn:gM (gp y (ln q))=true
     ·refine⟨.inr ([],9),by conv=>rhs;unfold wo;rw[zMr ha,zMq hn],(fun x h=>by grind),(fun x h=>nomatch h),?_⟩
      rw[zMq hn]at hfo;rw[zJ,zMq (by grind),vV,zA,zI hy,zMO,zA,gy,zMO,zMr ha,zA,hp,zMO,zA,
       pN (by omega) hq.2,zMO,zA]
      refine(zMh (fun o=>Option.bind (Option.bind o _) _) hfo).trans ?_
      rw[zMO,Comp.zB];rfl
     ·have hs:=JN (l:=gp y (ln q))
      have hg:=AK (fs:=ln q) (rest:=y);obtain⟨r,h1,h2,h3,h4⟩:=ih (zs++[y]) (out++yY (gp y (ln q))) (by grind) (by grind)
      refine⟨r,by rw[h1];conv=>rhs;unfold wo;rw[zMr ha,zMr hn],h2,h3,?_⟩
      rw[zMr hn]at hfo;rw[zJ,zMq (by grind),vV,zA,zI hy,zMO,zA,gy,zMO,zMr ha,zA,hp,zMO,zA,
       pN (by omega) hq.2,zMO,zA]
      refine(zMh (fun o=>Option.bind (Option.bind o _) _) hfo).trans ?_
      rw[zMO,Comp.zB,zMO,zN (by omega)]
      grind
  obtain⟨r,h1,h2,h3,h4⟩:=key pieces [] [] rfl (by grind)
  rw[zA];refine(zMh (fun o=>Option.bind o _) h4).trans ?_
  rw[zMO];unfold wth;rw[zMq hf,<-h1]
  cases r with
  |inl x =>
   simp only;by_cases fA:200<x.2.2.length
   ·rw[zMq (by grind),zMq fA,Comp.zB]
   ·rw[zMr (by grind),zMr fA,Comp.zB]
  |inr x =>
   rw[h2 x rfl];exact Comp.zB _
 simp_all [wth]
theorem MT(c:Cell)(s:List Cell):(Ys c s).val=some ((mns c s).1,(mns c s).2,()):=by
 unfold Ys mns;rw[zA,gx,zMO];by_cases hc:chk c=0
 ·rw[zMr (by grind),zMq hc,zA,uO,zMO]
  by_cases hs:sck s=0
  ·have fA:s.length<=16:=by
    grind [sck]
   rw[zMr (by grind),zMq hs,zA,Zg,zMO,yV]
   by_cases hf:ful c=true
   ·rw[zMr (by grind),zMq hf,zA,KY,zMO]
    have key:∀(ys zs:List Cell) (pcs:List Cell),s=zs++ys->pcs.length<=200->∃r:List Cell⊕List Cell×Int,(match r with
      |.inl x=>(x,0)
      |.inr x =>
            x)=ZQ pcs ys/\(Comp.loop
            (fun (x:List (List (Pln))×Int)=>if ltI x.2 (zD s)=true then
              (idx s x.2).bind fun x_1=>(Go.F.kF x.1 x_1).bind fun x_2=>if neI x_2.2.1 0=true then Comp.pure (.done (Sum.inr ([],x_2.2.1)))
                else Comp.pure (.next (x_2.1,zH .i64 x.2 1))
             else Comp.pure (.done (Sum.inl x.1))) (pcs,(zs.length:Int))).val=some r:=by
     intro ys
     induction ys with
     |nil =>
      intro zs pcs hx fA;refine⟨.inl pcs,rfl,?_⟩;rw[zJ,zMr (by grind),Comp.zB];rfl
     |cons y ys ih =>
      intro zs pcs hx hlen';have hy:s[zs.length]?=some y:=by grind
      have gF:=zL hy;unfold ZQ;by_cases he:(wth pcs y).2=0
      ·obtain⟨r,h1,h2⟩:=ih (zs++[y]) (wth pcs y).1 (by grind) (GW hlen')
       refine⟨r,by grind,?_⟩
       rw[zJ,zMq (by grind),zA,zI hy,zMO,zA,wc y hlen',zMO,zMr (by grind),Comp.zB,zN (by omega),zMO]
       grind
      ·refine⟨.inr ([],(wth pcs y).2),by grind,?_⟩
       rw[zJ,zMq (by grind),zA,zI hy,zMO,zA,wc y hlen',zMO,zMq (by grind),Comp.zB,zMO]
    obtain⟨r,h1,h2⟩:=key s [] [ln c] rfl (by simp)
    rw[zA];refine(zMh (fun o=>Option.bind o _) h2).trans ?_
    grind [Comp.zB]
   simp_all
  simp_all [gJ]
 simp_all [gJ]
theorem qH(s:List Cell)(c:Cell):(gV s c).val=some ((cov s c).1,(cov s c).2,()):=by
 unfold gV cov;rw[zA,MT,zMO,Comp.zB,Yh];simp[eqI,zR]
theorem Ad(s:List Cell):(ja s).val=some (sck s,()):=by
 unfold ja sck;by_cases h:16<s.length
 ·rw[zMq (by grind),zMq h,Comp.zB]
 ·rw[zMr (by grind),zMr h]
  obtain⟨r,h1,h2⟩:=tB (s:=s) (by omega)
   (body:=(fun (x:Int)=>if ltI x (zD s)=true then
        (idx s x).bind fun x_1=>(Go.F.za x_1).bind fun x_2=>if neI x_2.1 0=true then Comp.pure (.done (Sum.inr x_2.1)) else Comp.pure (.next (zH .i64 x 1))
       else Comp.pure (.done (Sum.inl ()))))
   (fun i c hc=>by
    have gF:=zL hc;rw[zMq (by grind),zA,zI hc,zMO,zA,jr,zMO,zN (by omega)]
    by_cases h:chk c=0
    ·simp_all [gJ]
    simp_all [gJ])
   (by simp[zj,zR])
  rw[zA];refine(zMh (fun o=>Option.bind o _) h2).trans ?_
  grind [Comp.zB]
theorem wm(c:Cell){s:List Cell}(hl:s.length<9223372036854775807):(yu c s).val=some (sap c s,()):=by
 unfold yu;have h1:=Zv s (fun q=>apa c q) (c:=(Sum.inr false:Unit⊕Bool)) (d:=Sum.inl ())
  (body:=(fun (x:Int)=>if ltI x (zD s)=true then
       (idx s x).bind fun x_1=>(Go.F.ze c x_1).bind fun x_2=>if ntB x_2.1=true then Comp.pure (.done (Sum.inr false)) else Comp.pure (.next (zH .i64 x 1))
      else Comp.pure (.done (Sum.inl ()))))
  (fun i q hq=>by
   have gF:=zL hq;rw[zMq (by grind),zA,zI hq,zMO,zA,ZV,zMO,yV,zN (by omega)]
   grind [Comp.zB])
  (by simp[zj,zR])
 rw[zA];refine(zMh (fun o=>Option.bind o _) h1).trans ?_
 grind [sap,Comp.zB]
theorem I5{p:Pln}(h:okB p):(vM p).val=some (vp p,()):=CD h
theorem BB{c:Cell}{p:Pln}(h:c.length<=1000):(yM c p).val=some (c++[p],()):=by
 grind [yM,zA,yQ,LIM,Comp.zB]
def prt(piece:Cell)(fs:List Pln):List Cell×Int:=if gM (gp piece fs)=true then ([],9) else (yY (gp piece fs),0)
theorem D0{l m:List (Option α)}:gM (l++m)=(gM l || gM m):=by
 induction l with
 |nil=>simp[gM]
 |cons x l ih=>cases x<;>simp[gM,ih]
theorem I1{l m:List (Option α)}:yY (l++m)=yY l++yY m:=by
 induction l with
 |nil=>simp[yY]
 |cons x l ih=>cases x<;>simp[yY,ih]
theorem Dg{piece:Cell}{fs:List Pln}(hl:fs.length<=1000)(hB:∀p∈fs,okB p):(gQ piece fs).val=some ((prt piece fs).1,(prt piece fs).2,()):=by
 unfold gQ
 have key:∀(ys zs:List Pln) (rest:Cell) (out:List Cell),fs=zs++ys->out.length+ys.length<=10000->∃r:List Cell⊕List Cell×Int,(match r with
   |.inl x=>(x,0)
   |.inr x=>x)=(if gM (gp rest ys)=true then ([],9) else (out++yY (gp rest ys),0))/\(Comp.loop
     (fun (x:List (List (Pln))×List (Pln)×Int)=>if ltI x.2.2 (zD fs)=true then
       if geI (zD x.2.1) 48=true then Comp.pure (.done (Sum.inr ([],9)))
       else
        (idx fs x.2.2).bind fun x_1=>(Go.F.vM x_1).bind fun x_2=>(Go.F.yM x.2.1 x_2.1).bind fun y=>(Go.F.zo y.1).bind fun x_3=>jn
             (fun (x_4:List (List (Pln)))=>(idx fs x.2.2).bind fun x_5=>(Go.F.yM x.2.1 x_5).bind fun y=>(Go.F.zo y.1).bind fun x_6=>Comp.pure (.next (x_4,x_6.1,zH .i64 x.2.2 1)))
             fun (j :
               List (List (Pln))->Comp
                 (Comp.Step (List (List (Pln))×List (Pln)×Int)
                  (List (List (Pln))⊕List (List (Pln))×Int))) =>
             if gtI (zD x_3.1) 0=true then (app x.1 [x_3.1]).bind fun zs=>j zs
             else j x.1
      else Comp.pure (.done (Sum.inl x.1))) (out,rest,(zs.length:Int))).val=some r:=by
  intro ys
  induction ys with
  |nil =>
   intro zs rest out hx _;refine⟨.inl out,by simp[gp,gM,yY],?_⟩
   rw[zJ,zMr (by grind),Comp.zB];rfl
  |cons p ys ih =>
   intro zs rest out hx fA;simp only[zMY]at fA;have hy:fs[zs.length]?=some p:=by grind
   have gF:=zL hy;have hp:=hB p (zMV hy)
   by_cases hr:48<=rest.length
   ·refine⟨.inr ([],9),by unfold gp;rw[zMq hr];rfl,?_⟩
    rw[zJ,zMq (by grind),zMq (by grind),Comp.zB];rfl
   ·let out2:List Cell:=if ln (rest++[vp p])=[] then out else out++[ln (rest++[vp p])]
    have hC8:out2.length<=out.length+1:=by
     grind
    obtain⟨r,h1,h2⟩:=ih (zs++[p]) (ln (rest++[p])) out2 (by grind) (by omega)
    refine⟨r,?_,?_⟩
    ·rw[h1]
     have dI:gp rest (p::ys)=(bif decide (ln (rest++[vp p])=[]) then [] else [some (ln (rest++[vp p]))])++gp (ln (rest++[p])) ys:=by
      conv=>lhs;unfold gp
      grind
     rw[dI,D0,I1];show (if _ then _ else ((if ln (rest++[vp p])=[] then out else out++[ln (rest++[vp p])])++_,_))=_
     by_cases h0:ln (rest++[vp p])=[]
     ·rw[zMt h0,zMq h0];simp[gM,yY]
     ·rw[zMs h0,zMr h0];simp[gM,yY]
    ·have ht:∀o:List Cell,((idx fs (zs.length:Int)).bind fun x_5=>(Go.F.yM rest x_5).bind fun y=>(Go.F.zo y.1).bind fun x_6=>(Comp.pure (.next (o,x_6.1,zH .i64 (zs.length:Int) 1)):Comp (Comp.Step (List Cell×Cell×Int) (List Cell⊕List Cell×Int)))).val=some (.next (o,ln (rest++[p]),((zs.length+1:Nat):Int))):=fun o=>by
      rw[zA,zI hy,zMO,zA,BB (by omega),zMO,zA,XK,zMO,Comp.zB,zN (by omega)]
     rw[zJ,zMq (by grind),zMr (by grind),
      zA,zI hy,zMO,zA,I5 hp,zMO,zA,BB (by grind),zMO,zA,XK,zMO,vV]
     have xH:(if gtI (zD (ln (rest++[vp p]))) 0=true then (app out [ln (rest++[vp p])]).bind fun zs1=>((idx fs (zs.length:Int)).bind fun x_5=>(Go.F.yM rest x_5).bind fun y=>(Go.F.zo y.1).bind fun x_6=>(Comp.pure (.next (zs1,x_6.1,zH .i64 (zs.length:Int) 1)):Comp (Comp.Step (List Cell×Cell×Int) (List Cell⊕List Cell×Int))))
       else ((idx fs (zs.length:Int)).bind fun x_5=>(Go.F.yM rest x_5).bind fun y=>(Go.F.zo y.1).bind fun x_6=>(Comp.pure (.next (out,x_6.1,zH .i64 (zs.length:Int) 1)):Comp (Comp.Step (List Cell×Cell×Int) (List Cell⊕List Cell×Int))))).val=some (.next (out2,ln (rest++[p]),((zs.length+1:Nat):Int))):=by
      show _=some (Comp.Step.next (if ln (rest++[vp p])=[] then out else out++[ln (rest++[vp p])],_,_))
      by_cases h0:ln (rest++[vp p])=[]
      ·rw[zMr (by grind),zMq h0]
       grind
      ·rw[zMq (by grind [List.length_pos_iff]),zMr h0,zA,yQ (by grind [LIM]),zMO]
       exact ht _
     grind
 obtain⟨r,h1,h2⟩:=key fs [] piece [] rfl (by grind)
 rw[zA];refine(zMh (fun o=>Option.bind o _) h2).trans ?_
 grind [prt,Comp.zB]
theorem KH{pieces:List Cell}(q:Cell)(hl:pieces.length<=200):(y4 pieces q).val=some ((wth pieces q).1,(wth pieces q).2,()):=by
 unfold y4;rw[zA,YS,zMO,yV];by_cases hf:ful q=true
 ·rw[zMr (by grind)]
  have hq:=zAc (c:=q)
  have key:∀(ys zs:List Cell) (out:List Cell),pieces=zs++ys->out.length+ys.length * 49<=20000->∃r:List Cell⊕List Cell×Int,(match r with
    |.inl x=>some x
    |.inr _=>none)=wo q ys out/\(∀x,r=.inr x->x=([],9))/\(Comp.loop
       (fun (x:List (List (Pln))×Int)=>if ltI x.2 (zD pieces)=true then
         jn (fun (x_1:List (List (Pln)))=>Comp.pure (.next (x_1,zH .i64 x.2 1)))
          fun (j :
            List (List (Pln))->Comp
              (Comp.Step (List (List (Pln))×Int)
               (List (List (Pln))⊕List (List (Pln))×Int))) =>
          (idx pieces x.2).bind fun x_1=>(Go.F.ze x_1 q).bind fun x_2=>if x_2.1=true then
             (idx pieces x.2).bind fun x_3=>(app x.1 [x_3]).bind fun zs=>j zs
            else
             (idx pieces x.2).bind fun x_3=>(Go.F.zo q).bind fun x_4=>(Go.F.gQ x_3 x_4.1).bind fun x_5=>if neI x_5.2.1 0=true then Comp.pure (.done (Sum.inr ([],x_5.2.1)))
                else (app x.1 x_5.1).bind fun zs=>j zs
        else Comp.pure (.done (Sum.inl x.1))) (out,(zs.length:Int))).val=some r:=by
   intro ys
   induction ys with
   |nil =>
    intro zs out hx fA;refine⟨.inl out,rfl,(fun x h=>nomatch h),?_⟩
    rw[zJ,zMr (by grind),Comp.zB];rfl
   |cons y ys ih =>
    intro zs out hx fA;simp only[zMY]at fA;have hy:pieces[zs.length]?=some y:=by grind
    have gF:=zL hy;by_cases ha:apa y q=true
    ·obtain⟨r,h1,h2,h4⟩:=ih (zs++[y]) (out++[y]) (by grind) (by grind)
     refine⟨r,by rw[h1];conv=>rhs;unfold wo;rw[zMq ha],h2,?_⟩
     rw[zJ,zMq (by grind),vV,zA,zI hy,zMO,zA,ZV,zMO,zMq ha,zA,zI hy,zMO,zA,
      yQ (by grind [LIM]),zMO,Comp.zB,zMO,zN (by omega)]
     grind
    ·have lV:=Dg (piece:=y) (fs:=ln q) (by omega) hq.2
     by_cases hn:gM (gp y (ln q))=true
     ·have hp:prt y (ln q)=([],9):=by unfold prt;grind
      refine⟨.inr ([],9),by conv=>rhs;unfold wo;rw[zMr ha,zMq hn],(fun x h=>by grind),?_⟩
      rw[hp]at lV;rw[zJ,zMq (by grind),vV,zA,zI hy,zMO,zA,ZV,zMO,zMr ha,zA,zI hy,zMO,zA,
       XK,zMO,zA,lV,zMO,zMq (by grind),Comp.zB]
      rfl
     ·have hp:prt y (ln q)=(yY (gp y (ln q)),0):=by unfold prt;grind
      have hs:=JN (l:=gp y (ln q));have hg:=AK (fs:=ln q) (rest:=y)
      obtain⟨r,h1,h2,h4⟩:=ih (zs++[y]) (out++yY (gp y (ln q))) (by grind) (by grind)
      refine⟨r,by rw[h1];conv=>rhs;unfold wo;rw[zMr ha,zMr hn],h2,?_⟩
      rw[hp]at lV;rw[zJ,zMq (by grind),vV,zA,zI hy,zMO,zA,ZV,zMO,zMr ha,zA,zI hy,zMO,zA,
       XK,zMO,zA,lV,zMO,zMr (by grind),zA,yQ (by grind [LIM]),zMO,Comp.zB,zMO,zN (by omega)]
      grind
  obtain⟨r,h1,h2,h4⟩:=key pieces [] [] rfl (by grind)
  rw[zA];refine(zMh (fun o=>Option.bind o _) h4).trans ?_
  rw[zMO];unfold wth;rw[zMq hf,<-h1]
  cases r with
  |inl x =>
   simp only;by_cases fA:200<x.length
   ·rw[zMq (by grind),zMq fA,Comp.zB]
   ·rw[zMr (by grind),zMr fA,Comp.zB]
  |inr x =>
   rw[h2 x rfl];exact Comp.zB _
 simp_all [wth]
theorem pT:∀(s:List Cell),ZQ [] s=([],0)
 | []=>rfl
 |q::s=>by
  have h:wth [] q=([],0):=by
   unfold wth;split
   ·rfl
   ·rfl
  unfold ZQ;rw[h];exact pT s
theorem Dh(c:Cell)(s:List Cell):(jZ c s).val=some ((mns c s).1,(mns c s).2,()):=by
 unfold jZ mns;rw[zA,jr,zMO,vV];by_cases hc:chk c=0
 ·rw[zMq (by grind),zMq hc,zA,Ad,zMO]
  by_cases hs:sck s=0
  ·have fA:s.length<=16:=by
    grind [sck]
   show (if neI (sck s) 0=true then _ else _:Comp (List Cell×Int×Unit)).val=_
   rw[zMr (by grind),zMq hs,zA,YS,zMO,vV]
   have key:∀(ys zs:List Cell) (pcs:List Cell),s=zs++ys->pcs.length<=200->∃r:List Cell⊕List Cell×Int,(match r with
     |.inl x=>(x,0)
     |.inr x =>
           x)=ZQ pcs ys/\(Comp.loop
           (fun (x:List (List (Pln))×Int)=>if ltI x.2 (zD s)=true then
             (idx s x.2).bind fun x_1=>(Go.F.y4 x.1 x_1).bind fun x_2=>if neI x_2.2.1 0=true then Comp.pure (.done (Sum.inr ([],x_2.2.1)))
               else Comp.pure (.next (x_2.1,zH .i64 x.2 1))
            else Comp.pure (.done (Sum.inl x.1))) (pcs,(zs.length:Int))).val=some r:=by
    intro ys
    induction ys with
    |nil =>
     intro zs pcs hx fA;refine⟨.inl pcs,rfl,?_⟩;rw[zJ,zMr (by grind),Comp.zB];rfl
    |cons y ys ih =>
     intro zs pcs hx hlen';have hy:s[zs.length]?=some y:=by grind
     have gF:=zL hy;unfold ZQ;by_cases he:(wth pcs y).2=0
     ·obtain⟨r,h1,h2⟩:=ih (zs++[y]) (wth pcs y).1 (by grind) (GW hlen')
      refine⟨r,by grind,?_⟩
      rw[zJ,zMq (by grind),zA,zI hy,zMO,zA,KH y hlen',zMO,zMr (by grind),Comp.zB,zN (by omega),zMO]
      grind
     ·refine⟨.inr ([],(wth pcs y).2),by grind,?_⟩
      rw[zJ,zMq (by grind),zA,zI hy,zMO,zA,KH y hlen',zMO,zMq (by grind),Comp.zB,zMO]
   have tail:∀pcs:List Cell,pcs.length<=200->((Comp.loop
            (fun (x:List (List (Pln))×Int)=>if ltI x.2 (zD s)=true then
              (idx s x.2).bind fun x_1=>(Go.F.y4 x.1 x_1).bind fun x_2=>if neI x_2.2.1 0=true then Comp.pure (.done (Sum.inr ([],x_2.2.1)))
                else Comp.pure (.next (x_2.1,zH .i64 x.2 1))
             else Comp.pure (.done (Sum.inl x.1)))
            (pcs,0)).bind fun (x:List (List (Pln))⊕List (List (Pln))×Int)=>match x with
          |Sum.inl x=>(Comp.pure (x,0,()):Comp (List Cell×Int×Unit))
          |Sum.inr x=>Comp.pure (x.1,x.2,())).val=some ((ZQ pcs s).1,(ZQ pcs s).2,()):=by
    intro pcs hp;obtain⟨r,h1,h2⟩:=key s [] pcs rfl hp;rw[zA];refine(zMh (fun o=>Option.bind o _) h2).trans ?_
    grind [Comp.zB]
   by_cases hf:ful c=true
   ·rw[zMq hf,zMq hf,zA,XK,zMO,zA,yQ (by grind [LIM]),zMO]
    exact tail [ln c] (by simp)
   ·rw[zMr hf,zMr hf]
    refine(tail [] (by simp)).trans ?_
    rw[pT]
  simp_all [gJ]
 ·rw[zMr (by grind),zMr hc]
  simp_all [gJ]
theorem Ag(s:List Cell)(c:Cell):(vG s c).val=some ((cov s c).1,(cov s c).2,()):=by
 unfold vG cov;rw[zA,Dh,zMO,Comp.zB,Yh];simp[eqI,zR]
abbrev Part:=y8×List Cell×List Int×Unit
abbrev zu:=List Bool×List Bool×List Cell×Unit
abbrev Eff:=List Cell×List Cell×Int×List Int×Unit
abbrev Job:=Part×zu×List Eff×Unit
def kZ(w:Int):Bool:=decide (w<1) || decide (3<w)
def KP:List Cell->List Cell->Bool
 |_,[]=>true
 |seen,c::l=>ful c && (sap c seen && KP (seen++[c]) l)
def ckP(p:Part):Int :=
 if p.2.1.length=0\/16<p.2.1.length then 2 else if p.2.2.1.length≠p.2.1.length\/p.2.2.1.any kZ=true then 1 else bif KP [] p.2.1 then 0 else 13
def ZS(p:Part)(x:zu):Bool:=(decide (x.1.length=p.2.1.length) && decide (x.2.1.length=p.2.1.length)) && (decide (x.2.2.1.length<=24) && decide (jD x.2.2.1=0))
theorem JR{c:Cell}{s:List Cell}:jD (c::s)=if chk c=0 then jD s else chk c:=rfl
theorem kR{s:List Cell}:jD s=0↔∀c∈s,chk c=0:=by
 induction s with
 |nil=>simp[jD]
 |cons c s ih =>
  unfold jD;grind
theorem Kc{s t:List Cell}:jD (s++t)=if jD s=0 then jD t else jD s:=by
 induction s with
 |nil=>simp[jD]
 |cons c s ih =>
  rw[List.cons_append,JR,JR];omega
theorem uC{s:List Cell}(hl:s.length<9223372036854775807):(jP s).val=some (jD s,()):=by
 unfold jP;obtain⟨r,h1,h2⟩:=tB (s:=s) hl
  (body:=(fun (x:Int)=>if ltI x (zD s)=true then
       (idx s x).bind fun x_1=>(Go.F.vn x_1).bind fun x_2=>if neI x_2.1 0=true then Comp.pure (.done (Sum.inr x_2.1)) else Comp.pure (.next (zH .i64 x 1))
      else Comp.pure (.done (Sum.inl ()))))
  (fun i c hc=>by
   have gF:=zL hc;rw[zMq (by grind),zA,zI hc,zMO,zA,gx,zMO,zN (by omega)]
   by_cases h:chk c=0
   ·simp_all [gJ]
   simp_all [gJ])
  (by simp[zj,zR])
 rw[zA];refine(zMh (fun o=>Option.bind o _) h2).trans ?_
 grind [Comp.zB]
theorem XV{s:List Cell}(hl:s.length<9223372036854775807):(yX s).val=some (jD s,()):=by
 unfold yX;obtain⟨r,h1,h2⟩:=tB (s:=s) hl
  (body:=(fun (x:Int)=>if ltI x (zD s)=true then
       (idx s x).bind fun x_1=>(Go.F.za x_1).bind fun x_2=>if neI x_2.1 0=true then Comp.pure (.done (Sum.inr x_2.1)) else Comp.pure (.next (zH .i64 x 1))
      else Comp.pure (.done (Sum.inl ()))))
  (fun i c hc=>by
   have gF:=zL hc;rw[zMq (by grind),zA,zI hc,zMO,zA,jr,zMO,zN (by omega)]
   by_cases h:chk c=0
   ·simp_all [gJ]
   simp_all [gJ])
  (by simp[zj,zR])
 rw[zA];refine(zMh (fun o=>Option.bind o _) h2).trans ?_
 grind [Comp.zB]
theorem VX{xs:List α}{k:Nat}(h:k<=xs.length):(sub xs 0 (k:Int)).val=some (xs.take k):=by
 grind [YK]
theorem Xa{p:Part}(hw:p.2.2.1.length<9223372036854775807):(Zh p).val=some (ckP p,()):=by
 unfold Zh ckP;by_cases h1:p.2.1.length=0\/16<p.2.1.length
 ·rw[zMq (by grind),zMq h1,Comp.zB]
 ·rw[zMr (by grind),zMr h1,zA]
  have hc:(zl p.2.2.1 fun z=>gD z.1).val=some (p.2.2.1.any kZ,()) :=
   Zu (xs:=p.2.2.1) (f:=fun z=>gD z.1) (p:=kZ) hw fun w _=>by
    show (gD w).val=_
    unfold gD;rw[Comp.zB,YL];rfl
  have cE:(Comp.loop
        (fun (x:Int)=>if ltI x (zD p.2.1)=true then
          (idx p.2.1 x).bind fun x_1=>(Go.F.j5 x_1).bind fun x_2=>(Comp.gd (ntB (ntB x_2.1)) (sub p.2.1 0 x) []).bind fun x_3=>(Comp.gd (ntB (ntB x_2.1)) (Go.F.vD x_1 x_3) (false,())).bind fun x_4=>if sel (ntB x_2.1) true (ntB x_4.1)=true then Comp.pure (.done (Sum.inr 13))
              else Comp.pure (.next (zH .i64 x 1))
         else Comp.pure (.done (Sum.inl ():Unit⊕Int)))
        0).val=some (bif KP [] p.2.1 then .inl () else .inr 13):=by
   have key:∀(ys zs:List Cell),p.2.1=zs++ys->(Comp.loop
        (fun (x:Int)=>if ltI x (zD p.2.1)=true then
          (idx p.2.1 x).bind fun x_1=>(Go.F.j5 x_1).bind fun x_2=>(Comp.gd (ntB (ntB x_2.1)) (sub p.2.1 0 x) []).bind fun x_3=>(Comp.gd (ntB (ntB x_2.1)) (Go.F.vD x_1 x_3) (false,())).bind fun x_4=>if sel (ntB x_2.1) true (ntB x_4.1)=true then Comp.pure (.done (Sum.inr 13))
              else Comp.pure (.next (zH .i64 x 1))
         else Comp.pure (.done (Sum.inl ():Unit⊕Int))) (zs.length:Int)).val=some (bif KP zs ys then .inl () else .inr 13):=by
    intro ys
    induction ys with
    |nil =>
     intro zs hx;rw[zJ,zMr (by grind),Comp.zB];rfl
    |cons y ys ih =>
     intro zs hx;have hy:p.2.1[zs.length]?=some y:=by grind
     have gF:=zL hy;have ht:p.2.1.take zs.length=zs:=by grind
     rw[zJ,zMq (by grind),zA,zI hy,zMO,zA,Zg,zMO]
     unfold KP
     cases hf:ful y with
     |false =>
      rw[zA];show Option.bind (Option.bind (Comp.pure _).val _) _=_
      rw[Comp.zB,zMO,zA];show Option.bind (Option.bind (Comp.pure _).val _) _=_
      rw[Comp.zB,zMO,zMq (by rfl),Comp.zB];rfl
     |true =>
      rw[zA];show Option.bind (Option.bind (sub p.2.1 0 (zs.length:Int)).val _) _=_
      rw[VX (by omega),zMO,ht,zA]
      show Option.bind (Option.bind (vD y zs).val _) _=_
      rw[kK y (by omega),zMO]
      cases ha:sap y zs with
      |false=>rw[zMq (by rfl),Comp.zB];rfl
      |true =>
       rw[zMr (by grind),Comp.zB,zN (by omega),zMO]
       grind
   grind
  have bQ:∀b:Bool,((Comp.pure (bif b then Sum.inl () else Sum.inr 13):Comp (Unit⊕Int)).bind fun (x:Unit⊕Int)=>match x with
      |Sum.inl x=>(Comp.pure (0,()):Comp (Int×Unit))
      |Sum.inr x=>Comp.pure (x,())).val=some (bif b then 0 else 13,()):=fun b=>by
   grind [zA,Comp.zB]
  by_cases h2:p.2.2.1.length≠p.2.1.length
  ·have e:neI (zD p.2.2.1) (zD p.2.1)=true:=by grind
   rw[e];show Option.bind (Comp.pure _).val _=_
   rw[Comp.zB,zMO,zMq (by rfl),Comp.zB,zMq (.inl h2)]
  ·have e:neI (zD p.2.2.1) (zD p.2.1)=false:=by grind
   rw[e];show Option.bind (zl p.2.2.1 fun z=>gD z.1).val _=_
   rw[hc,zMO];by_cases h3:p.2.2.1.any kZ=true
   ·rw[zMq (by grind),Comp.zB,zMq (.inr h3)]
   ·rw[zMr (by grind),zMr (by grind),zA]
    refine(zMh (fun o=>Option.bind o _) cE).trans ?_
    grind [Comp.zB]
theorem Y8{p:Part}(hw:p.2.2.1.length<9223372036854775807):(gP p).val=some (ckP p,()):=by
 unfold gP ckP;by_cases h1:p.2.1.length=0\/16<p.2.1.length
 ·rw[zMq (by grind),zMq h1,Comp.zB]
 ·rw[zMr (by grind),zMr h1]
  by_cases h2:p.2.2.1.length≠p.2.1.length
  ·rw[zMq (by grind),Comp.zB,zMq (.inl h2)]
  ·rw[zMr (by grind)]
   have hw1:=Zv p.2.2.1 (fun w=>!kZ w) (c:=(Sum.inr 1:Unit⊕Int)) (d:=Sum.inl ())
    (body:=(fun (x:Int)=>if ltI x (zD p.2.2.1)=true then
         (idx p.2.2.1 x).bind fun x_1=>(Comp.gd (ntB (ltI x_1 1)) (idx p.2.2.1 x) (Int.ofNat 0)).bind fun x_2=>if sel (ltI x_1 1) true (gtI x_2 3)=true then Comp.pure (.done (Sum.inr 1))
           else Comp.pure (.next (zH .i64 x 1))
        else Comp.pure (.done (Sum.inl ()))))
    (fun i w hx=>by
     have gF:=zL hx;rw[zMq (by grind),zA,zI hx,zMO,zA,RD,zI hx,zN (by omega)]
     unfold kZ;by_cases h1:w<1
     ·simp_all [ltI,yV,sel]
     ·have:ltI w 1=false:=by grind
      by_cases h3:3<w
      ·simp_all [J8,yV,sel]
      ·have h4:gtI w 3=false:=by grind
       simp_all [yV,sel])
    (by simp[zj,zR])
   have fG:(p.2.2.1.all fun w=>!kZ w) = !p.2.2.1.any kZ:=by grind
   rw[fG]at hw1;rw[zA];refine(zMh (fun o=>Option.bind o _) hw1).trans ?_
   rw[zMO];by_cases h3:p.2.2.1.any kZ=true
   ·rw[h3,zMq (.inr rfl)]
    exact Comp.zB _
   ·have h3':p.2.2.1.any kZ=false:=by grind
    rw[h3',zMr (by grind)]
    have inner:∀(k:Nat) (c:Cell),p.2.1[k]?=some c->(Comp.loop
                 (fun (x_3:Int)=>if ltI x_3 (k:Int)=true then
                   (idx p.2.1 x_3).bind fun x_4=>(idx p.2.1 (k:Int)).bind fun x=>(Go.F.ze x_4 x).bind fun x=>if ntB x.1=true then Comp.pure (.done (Sum.inr 13))
                      else Comp.pure (.next (zH .i64 x_3 1))
                  else Comp.pure (.done (Sum.inl ():Unit⊕Int)))
                 0).val=some (bif sap c (p.2.1.take k) then .inl () else .inr 13):=by
     intro k c hc;have hk:=zL hc
     have h5:=Zv (p.2.1.take k) (fun q=>apa c q) (c:=(Sum.inr 13:Unit⊕Int)) (d:=Sum.inl ())
      (body:=(fun (x_3:Int)=>if ltI x_3 (k:Int)=true then
                   (idx p.2.1 x_3).bind fun x_4=>(idx p.2.1 (k:Int)).bind fun x=>(Go.F.ze x_4 x).bind fun x=>if ntB x.1=true then Comp.pure (.done (Sum.inr 13))
                      else Comp.pure (.next (zH .i64 x_3 1))
                  else Comp.pure (.done (Sum.inl ():Unit⊕Int))))
      (fun i q hq=>by
       have hi:=zL hq;rw[zMl]at hi;have hq':p.2.1[i]?=some q:=by grind
       rw[zMq (by grind),zA,zI hq',zMO,zA,zI hc,zMO,zA,ZV,zMO,yV,Ce q c,zN (by omega)]
       grind [Comp.zB])
      (by rw[zMr (by grind),Comp.zB])
     exact h5
    have key:∀(ys zs:List Cell),p.2.1=zs++ys->(Comp.loop
         (fun (x:Int)=>if ltI x (zD p.2.1)=true then
           (idx p.2.1 x).bind fun x_1=>(Go.F.z7 x_1).bind fun x_2=>if ntB x_2.1=true then Comp.pure (.done (Sum.inr 13))
             else
              (Comp.loop
                 (fun (x_3:Int)=>if ltI x_3 x=true then
                   (idx p.2.1 x_3).bind fun x_4=>(idx p.2.1 x).bind fun x=>(Go.F.ze x_4 x).bind fun x=>if ntB x.1=true then Comp.pure (.done (Sum.inr 13))
                      else Comp.pure (.next (zH .i64 x_3 1))
                  else Comp.pure (.done (Sum.inl ())))
                 0).bind fun (x_3:Unit⊕Int)=>match x_3 with
               |Sum.inl x_4=>Comp.pure (.next (zH .i64 x 1))
               |Sum.inr x=>Comp.pure (.done (Sum.inr x))
          else Comp.pure (.done (Sum.inl ():Unit⊕Int))) (zs.length:Int)).val=some (bif KP zs ys then .inl () else .inr 13):=by
     intro ys
     induction ys with
     |nil =>
      intro zs hx;rw[zJ,zMr (by grind),Comp.zB];rfl
     |cons y ys ih =>
      intro zs hx;have hy:p.2.1[zs.length]?=some y:=by grind
      have gF:=zL hy;have ht:p.2.1.take zs.length=zs:=by grind
      rw[zJ,zMq (by grind),zA,zI hy,zMO,zA,YS,zMO,yV]
      unfold KP
      cases hf:ful y with
      |false=>simp
      |true =>
       rw[zMr (by simp),zA]
       have h6:=inner zs.length y hy;rw[ht]at h6;refine(zMh (fun o=>Option.bind (Option.bind o _) _) h6).trans ?_
       cases ha:sap y zs with
       |false=>rw[zMO];exact(zMh (fun o=>Option.bind o _) (Comp.zB _)).trans rfl
       |true =>
        rw[zMO];refine(zMh (fun o=>Option.bind o _) (Comp.zB _)).trans ?_
        rw[zMO,zN (by omega)]
        simpa using ih (zs++[y]) (by grind)
    have h7:=key p.2.1 [] rfl;show (Comp.bind (Comp.loop _ _) _).val=_
    rw[zA];refine(zMh (fun o=>Option.bind o _) h7).trans ?_
    grind [Comp.zB]
theorem HC{xs:List α}{ys:List β}:neI (zD xs) (zD ys) = !decide (xs.length=ys.length):=by
 grind
theorem Wg{xs:List α}{n:Nat}:gtI (zD xs) (n:Int) = !decide (xs.length<=n):=by
 grind
theorem CH(p:Part)(x:zu):sel (sel (eqI (zD x.1) (zD p.2.1)) (eqI (zD x.2.1) (zD p.2.1)) false) (leI (zD x.2.2.1) 24) false=((decide (x.1.length=p.2.1.length) && decide (x.2.1.length=p.2.1.length)) && decide (x.2.2.1.length<=24)):=by
 grind
theorem qf(p:Part)(x:zu):ZS p x=(((decide (x.1.length=p.2.1.length) && decide (x.2.1.length=p.2.1.length)) && decide (x.2.2.1.length<=24)) && decide (jD x.2.2.1=0)):=by
 grind [ZS]
theorem rY(p:Part)(x:zu):(JO p x).val=some (ZS p x,()):=by
 unfold JO;rw[CH,qf,zA]
 cases hb:((decide (x.1.length=p.2.1.length) && decide (x.2.1.length=p.2.1.length)) && decide (x.2.2.1.length<=24)) with
 |false =>
  show Option.bind (Comp.pure _).val _=_
  grind [Comp.zB]
 |true =>
  have hl:x.2.2.1.length<=24:=by
   grind
  have h1:(zG x.2.2.1 fun z=>j3 z.1).val=some (x.2.2.1.any fun c=>decide (chk c≠0),()) :=
   Zu (xs:=x.2.2.1) (f:=fun z=>j3 z.1) (p:=fun c=>decide (chk c≠0)) (by omega) fun c _=>by
    grind [j3,zA,gx,Comp.zB]
  show Option.bind (zG x.2.2.1 fun z=>j3 z.1).val _=_
  rw[h1,zMO,Comp.zB,Yh,Bool.true_and,Bool.true_and,yV]
  congr 2
  by_cases h:jD x.2.2.1=0
  ·grind [kR]
  simp_all [zMs,kR]
theorem pI(p:Part)(x:zu):(gj p x).val=some (ZS p x,()):=by
 unfold gj;rw[CH,qf,zA]
 cases hb:((decide (x.1.length=p.2.1.length) && decide (x.2.1.length=p.2.1.length)) && decide (x.2.2.1.length<=24)) with
 |false =>
  show Option.bind (Comp.pure _).val _=_
  grind [Comp.zB]
 |true =>
  have hl:x.2.2.1.length<=24:=by
   grind
  show Option.bind (yX x.2.2.1).val _=_
  grind [XV,Comp.zB]
def fit(p:Part)(x:zu):Int:=if ckP p=0 then bif ZS p x then 0 else 4 else ckP p
theorem K2{p:Part}{x:zu}(hw:p.2.2.1.length<9223372036854775807):(YD p x).val=some (fit p x,()):=by
 unfold YD fit;rw[zA,Xa hw,zMO];by_cases h:ckP p=0
 ·rw[zMr (by grind),zMq h,zA,qf]
  have e:sel (sel (neI (zD x.1) (zD p.2.1)) true (neI (zD x.2.1) (zD p.2.1))) true (gtI (zD x.2.2.1) 24) = !((decide (x.1.length=p.2.1.length) && decide (x.2.1.length=p.2.1.length)) && decide (x.2.2.1.length<=24)):=by
   rw[YL,YL,Bool.not_and,Bool.not_and,HC,HC,show (24:Int)=((24:Nat):Int) from rfl,Wg]
  rw[e]
  cases hb:((decide (x.1.length=p.2.1.length) && decide (x.2.1.length=p.2.1.length)) && decide (x.2.2.1.length<=24)) with
  |false =>
   show Option.bind (Comp.pure _).val _=_
   rw[Comp.zB,zMO,zMq (by rfl),Comp.zB];rfl
  |true =>
   have hl:x.2.2.1.length<=24:=by
    grind
   show Option.bind (jP x.2.2.1).val _=_
   rw[uC (by omega),zMO]
   by_cases h2:jD x.2.2.1=0
   ·rw[zMr (by grind),Comp.zB,zMt h2];rfl
   ·rw[zMq (by grind),Comp.zB,zMs h2];rfl
 simp_all [gJ]
theorem D9{s:List Cell}(hl:s.length<=1000000)(hc:∀c∈s,c.length<=1000000):(YE s).val=some (s,()):=by
 unfold YE;have h1:=jy s.length (fun k l=>match s[k]? with|some c=>l++[c]|none=>l) (fun k l=>l++s.drop k) (fun l k=>l.length=k)
  (body:=(fun (x:List (List (Pln))×Int)=>if ltI x.2 (zD s)=true then
       (idx s x.2).bind fun x_1=>(Go.F.zZ x_1).bind fun y=>(app x.1 [y.1]).bind fun zs=>Comp.pure (Comp.Step.next (zs,zH .i64 x.2 1))
      else Comp.pure (Comp.Step.done x.1)))
  (fun l k hk hI=>by
   obtain⟨c,hc'⟩:=zO (xs:=s) (k:=k) hk;have xM:(zZ c).val=some (c,()):=K0 (by grind [LIM])
   refine⟨?_,by grind,by grind [drop_cons]⟩
   rw[hc'];simp only;rw[zMq (by grind),zA,zI hc',zMO,zA,xM,zMO,zA,yQ (by grind [LIM]),zMO,Comp.zB,zN (by omega)])
  (fun l=>by simp[zj,zR]) (fun l=>by grind) 0 [] (Nat.zero_le _) rfl
 rw[zA];simp_all
theorem pL{s:List Cell}(hl:s.length<=1000000)(hc:∀c∈s,c.length<=1000000):(gk s).val=some (s,()):=by
 unfold gk;have h1:=jy s.length (fun k l=>match s[k]? with|some c=>l++[c]|none=>l) (fun k l=>l++s.drop k) (fun l k=>l.length=k)
  (body:=(fun (x:List (List (Pln))×Int)=>if ltI x.2 (zD s)=true then
       (idx s x.2).bind fun x_1=>(app [] x_1).bind fun zs=>(app x.1 [zs]).bind fun zs=>Comp.pure (Comp.Step.next (zs,zH .i64 x.2 1))
      else Comp.pure (Comp.Step.done x.1)))
  (fun l k hk hI=>by
   obtain⟨c,hc'⟩:=zO (xs:=s) (k:=k) hk;have xM:=hc c (zMV hc')
   refine⟨?_,by grind,by grind [drop_cons]⟩
   rw[hc'];simp only;rw[zMq (by grind),zA,zI hc',zMO,zA,yQ (by grind [LIM]),zMO,zA,yQ (by grind [LIM]),zMO,Comp.zB,zN (by omega),List.nil_append])
  (fun l=>by simp[zj,zR]) (fun l=>by grind) 0 [] (Nat.zero_le _) rfl
 rw[zA];simp_all
def nr(s:List Cell)(c:Cell):List Cell:=s.filter fun z=>!apa z c
theorem N8{s:List Cell}(c:Cell)(hl:s.length<=1000000):(yd s fun z=>vW z.1 z.2.1 c).val=some (nr s c,()):=by
 unfold yd;have h1:=jy s.length (fun k l=>match s[k]? with|some z=>if (!apa z c)=true then l++[z] else l|none=>l) (fun k l=>l++nr (s.drop k) c) (fun l k=>l.length<=k)
  (body:=(fun (x:List (List (Pln))×Int)=>if ltI x.2 (zD s)=true then
       (idx s x.2).bind fun x_1=>((fun (z:Int×List Pln×Unit)=>vW z.1 z.2.1 c) (x.2,x_1,())).bind fun x_2=>jn (fun (x_3:List (List (Pln)))=>Comp.pure (Comp.Step.next (x_3,zH .i64 x.2 1)))
          fun (j :
            List (List (Pln))->Comp
              (Comp.Step (List (List (Pln))×Int) (List (List (Pln))))) =>
          if x_2.1=true then (app x.1 [x_1]).bind fun zs=>j zs else j x.1
      else Comp.pure (Comp.Step.done x.1)))
  (fun l k hk hI=>by
   obtain⟨z,hz⟩:=zO (xs:=s) (k:=k) hk;have hf:(vW (k:Int) z c).val=some (!apa z c,()):=by
    grind [vW,zA,gy,Comp.zB]
   refine⟨?_,?_,?_⟩
   ·rw[hz]
    simp only;rw[zMq (by grind),zA,zI hz,zMO,zA,hf,zMO,vV]
    by_cases h:(!apa z c)=true
    ·rw[zMq h,zMq h,zA,yQ (by grind [LIM]),zMO,Comp.zB,zN (by omega)]
    ·rw[zMr h,zMr h,Comp.zB,zN (by omega)]
   ·grind
   ·rw[drop_cons hz,hz]
    unfold nr;grind)
  (fun l=>by simp[zj,zR]) (fun l=>by grind [nr]) 0 [] (Nat.zero_le _) (by simp)
 rw[zA];simp_all
theorem Dj{s:List Cell}(c:Cell)(hl:s.length<=1000000):(vb s c).val=some (nr s c,()):=by
 unfold vb;have h1:=jy s.length (fun k l=>match s[k]? with|some z=>if (!apa z c)=true then l++[z] else l|none=>l) (fun k l=>l++nr (s.drop k) c) (fun l k=>l.length<=k)
  (body:=(fun (x:List (List (Pln))×Int)=>if ltI x.2 (zD s)=true then
       (idx s x.2).bind fun x_1=>(Go.F.ze x_1 c).bind fun x_2=>jn (fun (x_3:List (List (Pln)))=>Comp.pure (Comp.Step.next (x_3,zH .i64 x.2 1)))
          fun (j :
            List (List (Pln))->Comp
              (Comp.Step (List (List (Pln))×Int) (List (List (Pln))))) =>
          if ntB x_2.1=true then
           (idx s x.2).bind fun x_3=>(app x.1 [x_3]).bind fun zs=>j zs
          else j x.1
      else Comp.pure (Comp.Step.done x.1)))
  (fun l k hk hI=>by
   obtain⟨z,hz⟩:=zO (xs:=s) (k:=k) hk;refine⟨?_,?_,?_⟩
   ·rw[hz]
    simp only;rw[zMq (by grind),zA,zI hz,zMO,zA,ZV,zMO,vV,yV]
    by_cases h:(!apa z c)=true
    ·rw[zMq h,zMq h,zA,zI hz,zMO,zA,yQ (by grind [LIM]),zMO,Comp.zB,zN (by omega)]
    ·rw[zMr h,zMr h,Comp.zB,zN (by omega)]
   ·grind
   ·rw[drop_cons hz,hz]
    unfold nr;grind)
  (fun l=>by simp[zj,zR]) (fun l=>by grind [nr]) 0 [] (Nat.zero_le _) (by simp)
 rw[zA];simp_all
def sur(all:List Cell)(c:Cell)(s:Bool):Bool:=bif s then true else (cov (nr all c) c).1
def tch(cuts touches:List Cell)(c:Cell)(t:Bool):Bool:=(t || !sap c cuts) || !sap c touches
def apE(all:List Cell):List Cell->List Bool->Int
 |c::C,s::S=>bif s then apE all C S else if (cov (nr all c) c).2=0 then apE all C S else (cov (nr all c) c).2
 |_,_=>0
def apS(all:List Cell)(C:List Cell)(S:List Bool):List Bool:=List.zipWith (sur all) C S
def apT(cuts touches:List Cell)(C:List Cell)(T:List Bool):List Bool:=List.zipWith (tch cuts touches) C T
def zP:zu:=([],[],[],())
def apl(p:Part)(x:zu)(cuts touches:List Cell):zu×Int :=
 if fit p x=0 then if jD (cuts++touches)=0 then if 24<x.2.2.1.length+cuts.length then (zP,2)
  else if apE (x.2.2.1++cuts) p.2.1 x.1=0 then ((apS (x.2.2.1++cuts) p.2.1 x.1,apT cuts touches p.2.1 x.2.1,x.2.2.1++cuts,()),0) else (zP,apE (x.2.2.1++cuts) p.2.1 x.1)
  else (zP,jD (cuts++touches)) else (zP,fit p x)
theorem Gc{t a b:Bool}{A B:Comp (Bool×Unit)}(hA:A.val=some (a,()))(hB:B.val=some (b,()))(K:Bool->Comp β) :
  ((Comp.gd (ntB t) A (false,())).bind fun x6=>(Comp.gd (ntB (sel t true (ntB x6.1))) B (false,())).bind fun x7=>K (sel (sel t true (ntB x6.1)) true (ntB x7.1))).val=(K ((t || !a) || !b)).val:=by
 rw[zA]
 cases t with
 |true =>
  show Option.bind (Comp.pure _).val _=_
  rw[Comp.zB,zMO,zA];show Option.bind (Comp.pure _).val _=_
  rw[Comp.zB,zMO];rfl
 |false =>
  show Option.bind A.val _=_
  rw[hA,zMO,zA]
  cases a with
  |false =>
   show Option.bind (Comp.pure _).val _=_
   rw[Comp.zB,zMO];rfl
  |true =>
   show Option.bind B.val _=_
   grind
theorem take_set{l m:List α}{k:Nat}{v:α}(hv:l[k]?=some v)(hm:k<m.length)(hl:l.length=m.length):(l.take k++m.drop k).set k v=l.take (k+1)++m.drop (k+1):=by
 have hk:(l.take k).length=k:=by grind
 rw[List.set_append,zMr (by omega),hk,Nat.sub_self,List.take_add_one,hv,List.drop_eq_getElem_cons hm,List.set_cons_zero,zMk]
 rfl
theorem HG{l m:List α}{k:Nat}(hl:l.length=m.length)(hm:k<m.length):(l.take k++m.drop k)[k]?=m[k]?:=by
 grind
theorem HF{l m:List α}{k:Nat}(hl:l.length=m.length)(hm:k<=m.length):(l.take k++m.drop k).length=m.length:=by
 grind
theorem QP{l m:List α}{k:Nat}{v:α}(hv:l[k]?=some v)(dA:m[k]?=some v)(hl:l.length=m.length):l.take k++m.drop k=l.take (k+1)++m.drop (k+1):=by
 grind [List.take_add_one,drop_cons]
theorem Jc{f:α->β->γ}{l:List α}{m:List β}{k:Nat}{a:α}{b:β}(h1:l[k]?=some a)(h2:m[k]?=some b):(List.zipWith f l m)[k]?=some (f a b):=by
 grind
theorem Mq{p:Part}{x:zu}{cuts touches:List Cell}(hw:p.2.2.1.length<9223372036854775807)(xM:cuts.length<=100000000)(bH:touches.length<=100000000):(Yr p x cuts touches).val=some ((apl p x cuts touches).1,(apl p x cuts touches).2,()):=by
 unfold Yr apl;rw[zA,K2 hw,zMO];by_cases hf:fit p x=0
 ·rw[zMr (by grind),zMq hf]
  have oI:ckP p=0:=by
   grind [fit]
  have cV:ZS p x=true:=by
   unfold fit at hf;grind
  unfold ZS at cV;simp only[zMQ,zMi]at cV;obtain⟨⟨f1,f2⟩,f3,f4⟩:=cV;have hn:p.2.1.length<=16:=by
   grind [ckP]
  have cC:(zW [cuts,touches]).val=some (cuts++touches,()):=by
   have:=K1 (z:=([]:Cell)) (xs:=[cuts,touches]) (by grind [LIM]) (by simp)
   simp only[List.flatten_cons,List.flatten_nil,zMw]at this;exact this
  rw[zA,cC,zMO,zA,uC (by grind),zMO]
  by_cases he:jD (cuts++touches)=0
  ·rw[zMr (by grind),zMq he]
   have cF:zH .i64 (zD x.2.2.1) (zD cuts)=((x.2.2.1.length+cuts.length:Nat):Int):=by grind
   by_cases aR:24<x.2.2.1.length+cuts.length
   ·rw[zMq (by grind),zMq aR,Comp.zB];rfl
   ·rw[zMr (by grind),zMr aR]
    have hB3:∀c∈x.2.2.1++cuts,c.length<=1000000:=by
     grind [kR,kt]
    have hB4:(zW [x.2.2.1,cuts]).val=some (x.2.2.1++cuts,()):=by
     have:=K1 (z:=([]:Cell)) (xs:=[x.2.2.1,cuts]) (by grind [LIM]) (by simp)
     simp only[List.flatten_cons,List.flatten_nil,zMw]at this;exact this
    have cJ:(ym x.1).val=some (x.1,()):=K0 (by grind [LIM])
    have aY:(ym x.2.1).val=some (x.2.1,()):=K0 (by grind [LIM])
    rw[zA,cJ,zMO,zA,aY,zMO,zA,hB4,zMO,zA,D9 (by grind) hB3,zMO]
    simp only;generalize fG:x.2.2.1++cuts=all;have sU:all.length<=24:=by grind
    have hSl:(apS all p.2.1 x.1).length=x.1.length:=by grind [apS]
    have hTl:(apT cuts touches p.2.1 x.2.1).length=x.2.1.length:=by grind [apT]
    have key:∀(m k:Nat),k+m=p.2.1.length->(Comp.loop
              (fun (x_3 :
                 Int×(List Bool×List Bool×List (List (Pln))×Unit)×List Bool×List Bool×List (List (Pln))×Unit) =>
               if ltI x_3.1 (zD p.2.1)=true then
                jn
                 (fun (x :
                    (List Bool×List Bool×List (List (Pln))×Unit)×List Bool×List Bool×List (List (Pln))×Unit) =>
                  Comp.pure (Comp.Step.next (zH .i64 x_3.1 1,x.1,x.2.1,x.2.2.1,x.2.2.2.1,())))
                 fun (j :
                   (List Bool×List Bool×List (List (Pln))×Unit)×List Bool×List Bool×List (List (Pln))×Unit->Comp
                     (Comp.Step
                      (Int×(List Bool×List Bool×List (List (Pln))×Unit)×List Bool×List Bool×List (List (Pln))×Unit)
                      ((List Bool×List Bool×List (List (Pln))×Unit)×List Bool×List Bool×List (List (Pln))×Unit ⊕
                       Int×List Bool×List Bool×List (List (Pln))×Unit))) =>
                 (idx p.2.1 x_3.1).bind fun x_4=>(idx x_3.2.2.2.1 x_3.1).bind fun x_5=>(Comp.gd (ntB x_5) (Go.F.vD x_4 cuts) (false,())).bind fun x_6=>(Comp.gd (ntB (sel x_5 true (ntB x_6.1))) (Go.F.vD x_4 touches) (false,())).bind fun x_7=>(inb x_3.2.2.2.1.length x_3.1).bind fun x_8=>(idx x_3.2.2.1 x_3.1).bind fun lC=>if lC=true then
                        j
                         (x_3.2.1,x_3.2.2.1,gz x_3.2.2.2.1 x_3.1 (sel (sel x_5 true (ntB x_6.1)) true (ntB x_7.1)),x_3.2.2.2.2.1,
                          ())
                       else
                        (Go.F.yd x_3.2.2.2.2.1 fun (z:Int×List (Pln)×Unit)=>Go.F.vW z.1 z.2.1 x_4).bind fun y=>(Go.F.gV y.1 x_4).bind fun x=>if neI x.2.1 0=true then Comp.pure (Comp.Step.done (Sum.inr (x.2.1,[],[],[],())))
                          else
                           (inb x_3.2.2.1.length x_3.1).bind fun lR=>j
                             (x_3.2.1,gz x_3.2.2.1 x_3.1 x.1,
                              gz x_3.2.2.2.1 x_3.1 (sel (sel x_5 true (ntB x_6.1)) true (ntB x_7.1)),x_3.2.2.2.2.1,())
               else Comp.pure (Comp.Step.done (Sum.inl (x_3.2.1,x_3.2.2.1,x_3.2.2.2.1,x_3.2.2.2.2.1,()))))
              ((k:Int),zP,(apS all p.2.1 x.1).take k++x.1.drop k,(apT cuts touches p.2.1 x.2.1).take k++x.2.1.drop k,all,())).val =
      some (if apE all (p.2.1.drop k) (x.1.drop k)=0 then .inl (zP,apS all p.2.1 x.1,apT cuts touches p.2.1 x.2.1,all,()) else .inr (apE all (p.2.1.drop k) (x.1.drop k),zP)):=by
     intro m
     induction m with
     |zero =>
      intro k hk;have hk':k=p.2.1.length:=by omega
      rw[zJ,zMr (by grind),Comp.zB,zMO]
      rw[List.drop_eq_nil_of_le (show p.2.1.length<=k by omega),List.drop_eq_nil_of_le (show x.1.length<=k by omega),List.drop_eq_nil_of_le (show x.2.1.length<=k by omega),List.take_of_length_le (by omega),List.take_of_length_le (by omega),zMw,zMw]
      rfl
     |succ m ih =>
      intro k hk;obtain⟨c,hc⟩:=zO (xs:=p.2.1) (k:=k) (by omega)
      obtain⟨s,hs⟩:=zO (xs:=x.1) (k:=k) (by omega)
      obtain⟨t,ht⟩:=zO (xs:=x.2.1) (k:=k) (by omega)
      have gS:(apS all p.2.1 x.1)[k]?=some (sur all c s):=Jc hc hs;have gT:(apT cuts touches p.2.1 x.2.1)[k]?=some (tch cuts touches c t):=Jc hc ht
      have oE:((apT cuts touches p.2.1 x.2.1).take k++x.2.1.drop k)[k]?=some t:=by rw[HG hTl (by omega)];exact ht
      have hS1:((apS all p.2.1 x.1).take k++x.1.drop k)[k]?=some s:=by rw[HG hSl (by omega)];exact hs
      have hTs:((apT cuts touches p.2.1 x.2.1).take k++x.2.1.drop k).set k (tch cuts touches c t)=(apT cuts touches p.2.1 x.2.1).take (k+1)++x.2.1.drop (k+1):=take_set gT (by omega) hTl
      have fW:(inb ((apT cuts touches p.2.1 x.2.1).take k++x.2.1.drop k).length (k:Int)).val=some ():=ga (by rw[HF hTl (by omega)];omega)
      have hin2:(inb ((apS all p.2.1 x.1).take k++x.1.drop k).length (k:Int)).val=some ():=ga (by rw[HF hSl (by omega)];omega)
      rw[zJ,zMq (by rw[zj,zR];omega),vV,zA,zI hc,zMO,zA,zI oE,zMO]
      have hE:apE all (p.2.1.drop k) (x.1.drop k)=bif s then apE all (p.2.1.drop (k+1)) (x.1.drop (k+1)) else if (cov (nr all c) c).2=0 then apE all (p.2.1.drop (k+1)) (x.1.drop (k+1)) else (cov (nr all c) c).2:=by
       rw[drop_cons hc,drop_cons hs];rfl
      refine(zMh (fun o=>Option.bind o _) (Gc (kK c (s:=cuts) (by omega)) (kK c (s:=touches) (by omega)) (fun tt=>(inb ((apT cuts touches p.2.1 x.2.1).take k++x.2.1.drop k).length (k:Int)).bind fun x_8=>(idx ((apS all p.2.1 x.1).take k++x.1.drop k) (k:Int)).bind fun lC=>if lC=true then
                        (Comp.pure (Comp.Step.next (zH .i64 (k:Int) 1,zP,(apS all p.2.1 x.1).take k++x.1.drop k,gz ((apT cuts touches p.2.1 x.2.1).take k++x.2.1.drop k) (k:Int) tt,all,())):Comp (Comp.Step (Int×zu×zu) (zu×zu⊕Int×zu)))
                       else
                        (Go.F.yd all fun (z:Int×List (Pln)×Unit)=>Go.F.vW z.1 z.2.1 c).bind fun y=>(Go.F.gV y.1 c).bind fun (x':Bool×Int×Unit)=>if neI x'.2.1 0=true then Comp.pure (Comp.Step.done (Sum.inr (x'.2.1,[],[],[],())))
                          else
                           (inb ((apS all p.2.1 x.1).take k++x.1.drop k).length (k:Int)).bind fun lR=>(Comp.pure (Comp.Step.next (zH .i64 (k:Int) 1,zP,gz ((apS all p.2.1 x.1).take k++x.1.drop k) (k:Int) x'.1,
                              gz ((apT cuts touches p.2.1 x.2.1).take k++x.2.1.drop k) (k:Int) tt,all,())):Comp (Comp.Step (Int×zu×zu) (zu×zu⊕Int×zu)))))).trans ?_
      rw[zA,fW,zMO,zA,zI hS1,zMO,show gz ((apT cuts touches p.2.1 x.2.1).take k++x.2.1.drop k) (k:Int) ((t || !sap c cuts) || !sap c touches)=(apT cuts touches p.2.1 x.2.1).take (k+1)++x.2.1.drop (k+1) from hTs]
      cases s with
      |true =>
       have hSS:(apS all p.2.1 x.1).take k++x.1.drop k=(apS all p.2.1 x.1).take (k+1)++x.1.drop (k+1):=QP gS hs hSl;rw[zMq rfl,Comp.zB,zMO,zN (by omega),hSS,hE]
       exact ih (k+1) (by omega)
      |false =>
       rw[zMr (by simp),zA,N8 c (by omega),zMO,zA,qH,zMO,hE]
       by_cases sZ:(cov (nr all c) c).2=0
       ·have hSs:((apS all p.2.1 x.1).take k++x.1.drop k).set k (cov (nr all c) c).1=(apS all p.2.1 x.1).take (k+1)++x.1.drop (k+1):=take_set gS (by omega) hSl
        rw[zMr (by rw[gJ];simp[sZ]),zA,hin2,zMO,Comp.zB,zMO,zN (by omega)]
        rw[show gz ((apS all p.2.1 x.1).take k++x.1.drop k) (k:Int) (cov (nr all c) c).1=(apS all p.2.1 x.1).take (k+1)++x.1.drop (k+1) from hSs]
        rw[cond_false,zMq sZ];exact ih (k+1) (by omega)
       ·rw[zMq (by rw[gJ];exact sZ),Comp.zB,zMO,cond_false,zMr sZ,zMr sZ]
        rfl
    have h0:=key p.2.1.length 0 (by omega)
    simp only[List.take_zero,List.nil_append,List.drop_zero]at h0;rw[zA];refine(zMh (fun o=>Option.bind o _) h0).trans ?_
    rw[zMO];by_cases hE0:apE all p.2.1 x.1=0
    ·simp_all
    simp_all
  ·rw[zMq (by grind),zMr he,Comp.zB];rfl
 ·rw[zMq (by grind),zMr hf,Comp.zB];rfl
theorem Xs{p:Part}{x:zu}(hf:fit p x=0):ckP p=0/\ZS p x=true/\x.1.length=p.2.1.length/\x.2.1.length=p.2.1.length/\x.2.2.1.length<=24/\jD x.2.2.1=0/\p.2.1.length<=16/\p.2.2.1.length=p.2.1.length:=by
 have oI:ckP p=0:=by
  grind [fit]
 have cV:ZS p x=true:=by
  unfold fit at hf;grind
 have hfb':=cV;unfold ZS at cV;simp only[zMQ,zMi]at cV;grind [ckP]
theorem Dm{p:Part}{x:zu}{cuts touches:List Cell}(hw:p.2.2.1.length<9223372036854775807)(xM:cuts.length<=100000000)(bH:touches.length<=100000000):(jY p x cuts touches).val=some ((apl p x cuts touches).1,(apl p x cuts touches).2,()):=by
 unfold jY apl;rw[zA,Y8 hw,zMO];by_cases oI:ckP p=0
 ·rw[zMr (by grind),zA,pI,zMO,yV]
  cases cV:ZS p x with
  |false =>
   have hf:fit p x=4:=by simp_all [fit]
   rw[zMq (by simp),zMr (by omega),hf,Comp.zB];rfl
  |true =>
   have hf:fit p x=0:=by simp_all [fit]
   obtain⟨_,_,f1,f2,f3,f4,hn,hwn⟩:=Xs hf;rw[zMr (by simp),zMq hf,zA,XV (by omega),zMO,vV]
   have cF:zH .i64 (zD x.2.2.1) (zD cuts)=((x.2.2.1.length+cuts.length:Nat):Int):=by grind
   by_cases bS:jD cuts=0
   ·rw[zMq (by grind),zA,XV (by omega),zMO]
    have hE:jD (cuts++touches)=jD touches:=by rw[Kc,zMq bS]
    rw[hE];show (if neI (jD touches) 0=true then _ else _:Comp (zu×Int×Unit)).val=_
    by_cases he:jD touches=0
    ·rw[zMr (by grind),zMq he]
     by_cases aR:24<x.2.2.1.length+cuts.length
     ·rw[zMq (by grind),zMq aR,Comp.zB];rfl
     ·rw[zMr (by grind),zMr aR]
      have lW:∀c∈x.2.2.1,c.length<=1000000:=fun c hc=>by grind [kt,kR]
      have mJ:∀c∈cuts,c.length<=1000000:=fun c hc=>by grind [kt,kR]
      rw[zA,pL (by omega) lW,zMO,zA,pL (by omega) mJ,zMO,zA,yQ (by grind [LIM]),zMO]
      simp only;generalize fG:x.2.2.1++cuts=all;have sU:all.length<=24:=by grind
      have hSl:(apS all p.2.1 x.1).length=x.1.length:=by grind [apS]
      have hTl:(apT cuts touches p.2.1 x.2.1).length=x.2.1.length:=by grind [apT]
      have key:∀(m k:Nat),k+m=p.2.1.length->(Comp.loop
                 (fun
                   (x_1 :
                    Int ×
                     (List Bool×List Bool×List (List (Pln))×Unit) ×
                      List Bool×List Bool×List (List (Pln))×Unit) =>
                  if ltI x_1.1 (zD p.2.1)=true then
                   (idx p.2.1 x_1.1).bind fun (x_2:List (Pln)) =>
                    (idx x.2.1 x_1.1).bind fun (x_3:Bool) =>
                     (Comp.gd (ntB x_3) (Go.F.yu x_2 cuts) (false,())).bind fun (x_4:Bool×Unit) =>
                      (Comp.gd (ntB (sel x_3 true (ntB x_4.1))) (Go.F.yu x_2 touches) (false,())).bind
                       fun (x_5:Bool×Unit) =>
                       (app x_1.2.2.2.1 [sel (sel x_3 true (ntB x_4.1)) true (ntB x_5.1)]).bind fun (zs:List Bool) =>
                        (idx x.1 x_1.1).bind fun (x_6:Bool) =>
                         jn
                          (fun (x_7:Bool×List Bool×List Bool×List (List (Pln))×Unit) =>
                           (app x_1.2.2.1 [x_7.1]).bind fun (zs_1:List Bool) =>
                            Comp.pure (Comp.Step.next (zH .i64 x_1.1 1,x_7.2,zs_1,zs,x_1.2.2.2.2.1,())))
                          fun
                           (j :
                            Bool×List Bool×List Bool×List (List (Pln))×Unit ->
                             Comp
                              (Comp.Step
                               (Int ×
                                (List Bool×List Bool×List (List (Pln))×Unit) ×
                                 List Bool×List Bool×List (List (Pln))×Unit)
                               ((List Bool×List Bool×List (List (Pln))×Unit) ×
                                 List Bool×List Bool×List (List (Pln))×Unit ⊕
                                Int×List Bool×List Bool×List (List (Pln))×Unit))) =>
                          if ntB x_6=true then
                           (Go.F.vb x_1.2.2.2.2.1 x_2).bind
                            fun (y:List (List (Pln))×Unit) =>
                            (Go.F.vG y.1 x_2).bind fun (x_7:Bool×Int×Unit) =>
                             if neI x_7.2.1 0=true then Comp.pure (Comp.Step.done (Sum.inr (x_7.2.1,[],[],[],())))
                             else j (x_7.1,x_1.2.1)
                          else j (x_6,x_1.2.1)
                  else Comp.pure (Comp.Step.done (Sum.inl (x_1.2.1,x_1.2.2.1,x_1.2.2.2.1,x_1.2.2.2.2.1,()))))
              ((k:Int),zP,(apS all p.2.1 x.1).take k,(apT cuts touches p.2.1 x.2.1).take k,all,())).val =
        some (if apE all (p.2.1.drop k) (x.1.drop k)=0 then .inl (zP,apS all p.2.1 x.1,apT cuts touches p.2.1 x.2.1,all,()) else .inr (apE all (p.2.1.drop k) (x.1.drop k),zP)):=by
       intro m
       induction m with
       |zero =>
        intro k hk;rw[zJ,zMr (by grind),Comp.zB,zMO]
        rw[List.drop_eq_nil_of_le (show p.2.1.length<=k by omega),List.drop_eq_nil_of_le (show x.1.length<=k by omega),List.take_of_length_le (by omega),List.take_of_length_le (by omega)]
        rfl
       |succ m ih =>
        intro k hk;obtain⟨c,hc⟩:=zO (xs:=p.2.1) (k:=k) (by omega)
        obtain⟨s,hs⟩:=zO (xs:=x.1) (k:=k) (by omega)
        obtain⟨t,ht⟩:=zO (xs:=x.2.1) (k:=k) (by omega)
        have gS:(apS all p.2.1 x.1)[k]?=some (sur all c s):=Jc hc hs;have gT:(apT cuts touches p.2.1 x.2.1)[k]?=some (tch cuts touches c t):=Jc hc ht
        have hT2:(apT cuts touches p.2.1 x.2.1).take k++[tch cuts touches c t]=(apT cuts touches p.2.1 x.2.1).take (k+1):=by rw[List.take_add_one,gT];rfl
        have hS2:∀v,sur all c s=v->(apS all p.2.1 x.1).take k++[v]=(apS all p.2.1 x.1).take (k+1):=fun v hv=>by rw[List.take_add_one,gS,hv];rfl
        have lT:((apT cuts touches p.2.1 x.2.1).take k).length<=16:=by rw[zMl];omega
        have lS:((apS all p.2.1 x.1).take k).length<=16:=by simp_all
        rw[zJ,zMq (by rw[zj,zR];omega),zA,zI hc,zMO,zA,zI ht,zMO]
        have hE:apE all (p.2.1.drop k) (x.1.drop k)=bif s then apE all (p.2.1.drop (k+1)) (x.1.drop (k+1)) else if (cov (nr all c) c).2=0 then apE all (p.2.1.drop (k+1)) (x.1.drop (k+1)) else (cov (nr all c) c).2:=by
         rw[drop_cons hc,drop_cons hs];rfl
        have hj:∀v zs,((app ((apS all p.2.1 x.1).take k) [v]).bind fun (zs_1:List Bool) =>
                            (Comp.pure (Comp.Step.next (zH .i64 (k:Int) 1,zP,zs_1,zs,all,())):Comp (Comp.Step (Int×zu×zu) (zu×zu⊕Int×zu)))).val=some (.next (((k+1:Nat):Int),zP,(apS all p.2.1 x.1).take k++[v],zs,all,())):=fun v zs=>by
         rw[zA,yQ (by simp only[zMT];unfold LIM;omega),zMO,Comp.zB,zN (by omega)]
        refine(zMh (fun o=>Option.bind o _) (Gc (wm c (s:=cuts) (by omega)) (wm c (s:=touches) (by omega)) (fun tt =>
                       (app ((apT cuts touches p.2.1 x.2.1).take k) [tt]).bind fun (zs:List Bool) =>
                        (idx x.1 (k:Int)).bind fun (x_6:Bool) =>
                          if ntB x_6=true then
                           (Go.F.vb all c).bind
                            fun (y:List (List (Pln))×Unit) =>
                            (Go.F.vG y.1 c).bind fun (x_7:Bool×Int×Unit) =>
                             if neI x_7.2.1 0=true then Comp.pure (Comp.Step.done (Sum.inr (x_7.2.1,[],[],[],())))
                             else ((app ((apS all p.2.1 x.1).take k) [x_7.1]).bind fun (zs_1:List Bool) =>
                            (Comp.pure (Comp.Step.next (zH .i64 (k:Int) 1,zP,zs_1,zs,all,())):Comp (Comp.Step (Int×zu×zu) (zu×zu⊕Int×zu))))
                          else ((app ((apS all p.2.1 x.1).take k) [x_6]).bind fun (zs_1:List Bool) =>
                            (Comp.pure (Comp.Step.next (zH .i64 (k:Int) 1,zP,zs_1,zs,all,())):Comp (Comp.Step (Int×zu×zu) (zu×zu⊕Int×zu))))))).trans ?_
        rw[zA,yQ (by simp only[zMT];unfold LIM;omega),zMO,show (apT cuts touches p.2.1 x.2.1).take k++[(t || !sap c cuts) || !sap c touches]=(apT cuts touches p.2.1 x.2.1).take (k+1) from hT2,zA,zI hs,zMO,yV]
        cases s with
        |true =>
         rw[zMr (by simp),hj,zMO,hS2 true rfl,hE]
         exact ih (k+1) (by omega)
        |false =>
         rw[zMq (by simp),zA,Dj c (by omega),zMO,zA,Ag,zMO,hE]
         by_cases sZ:(cov (nr all c) c).2=0
         ·rw[zMr (by rw[gJ];simp[sZ]),hj,zMO,hS2 (cov (nr all c) c).1 rfl,cond_false,zMq sZ]
          exact ih (k+1) (by omega)
         ·rw[zMq (by rw[gJ];exact sZ),Comp.zB,zMO,cond_false,zMr sZ,zMr sZ]
          rfl
      have h0:=key p.2.1.length 0 (by omega)
      simp only[List.take_zero,List.drop_zero]at h0;rw[zA];refine(zMh (fun o=>Option.bind o _) h0).trans ?_
      rw[zMO];by_cases hE0:apE all p.2.1 x.1=0
      ·simp_all
      simp_all
    ·rw[zMq (by grind),zMr he,Comp.zB];rfl
   ·have hE:jD (cuts++touches)=jD cuts:=by rw[Kc,zMr bS]
    rw[zMr (by grind),hE,zMr bS]
    show (if neI (jD cuts) 0=true then _ else _:Comp (zu×Int×Unit)).val=_
    rw[zMq (by grind),Comp.zB];rfl
 ·have hf:fit p x=ckP p:=by unfold fit;omega
  rw[zMq (by grind),hf,zMr oI,Comp.zB];rfl
def wt(p:Part)(k:Nat):Int:=p.2.2.1.getD k 0
def cl(p:Part)(k:Nat):Cell:=p.2.1.getD k []
theorem je{xs:List α}{k:Nat}{z v:α}(h:xs[k]?=some v):xs.getD k z=v:=by grind
end Go.Geo
end
