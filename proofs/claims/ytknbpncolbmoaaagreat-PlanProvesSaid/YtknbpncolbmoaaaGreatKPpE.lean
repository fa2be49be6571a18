/- Lemmas behind a claim. -/
import Derived.Test.YtknbpncolbmoaaaGreatKPpD
set_option linter.unusedSimpArgs false
set_option linter.unusedVariables false
open Go.Lift.Comp (Xj Yf zA Qm Xu zM vL)
noncomputable section
set_option maxRecDepth 20000
namespace Go.F
open Go Go.Lift Go.Den
abbrev A1:=Int×Int×Int×Unit
abbrev A2:=A1×Int×Unit
abbrev A3:=List A2
abbrev A4:=List A3×List A3×Int×List Int×Unit
abbrev A5:=List Bool×List Bool×List A3×Unit
abbrev A6:=List UInt8×List A3×List Int×Unit
abbrev A7:=vE×List A3×List Int×Unit
abbrev A8:=Int×Int×Int×Int×Unit
abbrev A9:=Bool×Unit
abbrev A10:=Int×Int×Unit
abbrev A11:=Int×Unit
abbrev A12:=List A2×Unit
abbrev A13:=A6×A5×List A4×Unit
abbrev A14:=List Int
abbrev A15:=List Int×Int×Unit
abbrev A16:=A7×A5×List A4×Unit
abbrev A17:=List Int×Int×List A10×Int×Unit
abbrev A18:=List A3
abbrev A19:=List A3×Unit
abbrev A20:=Bool×Int×Unit
abbrev A21:=List A3×Int
abbrev A22:=Unit⊕Bool
abbrev A23:=List A10×Unit
abbrev A24:=List A3×Int×Unit
abbrev A25:=A15×Unit
abbrev A26:=A25×Int×Unit
abbrev A27:=List Int×Unit
abbrev A28:=List Bool
abbrev A29:=Unit⊕Int
abbrev A30:=List A10
abbrev A31:=A2×Unit->Comp A9
abbrev A32:=A10×Unit
abbrev A33:=A1×Unit
abbrev A34:=Int×Int
abbrev A35:=List A2×Int
abbrev A36:=List Int×Int×List A10×Int->Comp A17
abbrev A37:=List A14×Unit
abbrev A38:=List A2×Unit->Comp A9
abbrev A39:=List Bool×Unit
abbrev A40:=List A3⊕List A3×Int
abbrev A41:=Bool×List Int×Int×Unit
abbrev A42:=List A8×Unit
abbrev A43:=List Int×Int⊕List Int×Int×List A10×Int
abbrev A44:=A5×List Bool×List Bool×List A3×Unit⊕Int×List Bool×List Bool×List A3×Unit
abbrev A45:=List Int×Int×List A10×Int
abbrev A46:=Option A3×Unit
abbrev A47:=List Int×Int
def zq:Int×Int×Int×Unit->Int×Int×Int×Unit->Comp A12:=fun x0 x1=>.pure ([((1,0,0,()),x1.1,()),((-1,0,0,()),Yw .i64 x0.1,()),((0,1,0,()),x1.2.1,()),((0, -1,0,()),Yw .i64 x0.2.1,()),((0,0,1,()),x1.2.2.1,()),((0,0, -1,()),Yw .i64 x0.2.2.1,())],())
def yd:Int->Int->Comp A12:=fun x0 x1=>(zq (x0,0,0,()) (x1,2,2,())).bind fun y=>.pure (y.1,())
def jL:vE×List A3×List Int×Unit->Comp (A5×Unit):=fun x0=>(mk (zD x0.2.1) false).bind fun x=>(mk (zD x0.2.1) false).bind fun ys=>.pure ((ys,x,[],()),())
def y9:Comp (A16×Unit):=(yd 0 2).bind fun y=>(yd 2 4).bind fun y_1=>(yd 4 6).bind fun aB=>(jL ([],[y.1,y_1.1,aB.1],[1,2,2],())).bind fun x=>(yd 2 4).bind fun a=>(yd 4 6).bind fun b=>(yd 2 4).bind fun c=>(yd 4 6).bind fun d=>(yd 1 6).bind fun e=>.pure ((([],[y.1,y_1.1,aB.1],[1,2,2],()),x.1,[([a.1],[],3,[],()),([b.1],[],4,[],()),([c.1,d.1],[],9,[],()),([e.1],[],1,[],())],()),())
def gE:Int->Comp A9:=fun x0=>.pure (sel (ltI x0 1) true (gtI x0 3),())
def kQ:List Int->(Int×Unit->Comp A9)->Comp A11:=fun x0 x1=>(Comp.loop (fun (x:Int)=>if ltI x (zD x0)=true then (idx x0 x).bind fun a=>(x1 (a,())).bind fun b=>if b.1=true then .pure (.done (Sum.inr x)) else .pure (.next (zG .i64 x 1)) else .pure (.done (Sum.inl ()))) 0).bind fun (x:A29)=>match x with
   |.inl x=>.pure (-1,())
   |.inr x=>.pure (x,())
def zh:List Int->(Int×Unit->Comp A9)->Comp A9:=fun x0 x1=>(kQ x0 x1).bind fun x=>.pure (geI x.1 0,())
def yL:List A3->A38->Comp A11:=fun x0 x1=>(Comp.loop (fun (x:Int)=>if ltI x (zD x0)=true then (idx x0 x).bind fun a=>(x1 (a,())).bind fun b=>if b.1=true then .pure (.done (Sum.inr x)) else .pure (.next (zG .i64 x 1)) else .pure (.done (Sum.inl ()))) 0).bind fun (x:A29)=>match x with
   |.inl x=>.pure (-1,())
   |.inr x=>.pure (x,())
def zH:List A3->A38->Comp A9:=fun x0 x1=>(yL x0 x1).bind fun x=>.pure (geI x.1 0,())
def yK:List A2->A31->Comp A11:=fun x0 x1=>(Comp.loop (fun (x:Int)=>if ltI x (zD x0)=true then (idx x0 x).bind fun a=>(x1 (a,())).bind fun b=>if b.1=true then .pure (.done (Sum.inr x)) else .pure (.next (zG .i64 x 1)) else .pure (.done (Sum.inl ()))) 0).bind fun (x:A29)=>match x with
   |.inl x=>.pure (-1,())
   |.inr x=>.pure (x,())
def zW:List A2->A31->Comp A9:=fun x0 x1=>(yK x0 x1).bind fun x=>.pure (geI x.1 0,())
def jJ:Int->List Int->Comp A9:=fun x0 x1=>(Comp.loop (fun (x:Int)=>if ltI x (zD x1)=true then (idx x1 x).bind fun a=>if sel (ltI a (Yw .i64 x0)) true (gtI a x0)=true then .pure (.done (Sum.inr false)) else .pure (.next (zG .i64 x 1)) else .pure (.done (Sum.inl ()))) 0).bind fun (x:A22)=>match x with
   |.inl x=>.pure (true,())
   |.inr x=>.pure (x,())
def jo:Int->Comp A11:=fun x0=>.pure (rW x0 (Yw .i64 x0),())
def Zm:List Int->Comp A11:=fun x0=>(Comp.loop (fun (x:A34)=>if ltI x.2 (zD x0)=true then (idx x0 x.2).bind fun a=>if eqI a (-9223372036854775808)=true then .pure (.done (Sum.inr 0)) else (jo a).bind fun b=>(Comp.loop (fun (x:A34)=>if gtI x.2 0=true then (rem x.1 x.2).bind fun c=>.pure (.next (x.2,c)) else .pure (.done x.1)) (x.1,b.1)).bind fun c=>.pure (.next (c,zG .i64 x.2 1)) else .pure (.done (Sum.inl x.1))) (0,0)).bind fun (x:Int⊕Int)=>match x with
   |.inl x=>.pure (x,())
   |.inr x=>.pure (x,())
def Y3:A1×Int×Unit->Comp A9:=fun x0=>jn (fun (x:Bool)=>.pure (x,())) fun (j:Bool->Comp A9)=>(jJ (Int.ofNat 4608) [x0.1.1,x0.1.2.1,x0.1.2.2.1]).bind fun x=>if x.1=true then (Zm [x0.1.1,x0.1.2.1,x0.1.2.2.1]).bind fun x=>if eqI x.1 1=true then (jJ (Int.ofNat 2097152) [x0.2.1]).bind fun x=>j x.1 else j false else j false
def kW:A1×Int×Unit->Comp A9:=fun x0=>(Y3 x0).bind fun x=>.pure (ntB x.1,())
def gZ:List A2->Comp A11:=fun x0=>if gtI (zD x0) 48=true then .pure (2,()) else (zW x0 fun (z:A2×Unit)=>kW z.1).bind fun x=>if x.1=true then .pure (12,()) else .pure (0,())
def jP:List A2->Comp A9:=fun x0=>(gZ x0).bind fun x=>.pure (neI x.1 0,())
def Zf:List A3->Comp A9:=fun x0=>(zH x0 fun (z:A12)=>jP z.1).bind fun x=>.pure (ntB x.1,())
def vq:Int->Comp A12:=fun x0=>jn (fun (x:Unit)=>jn (fun (x:A3)=>.pure (x,())) fun (j:List A2->Comp A12)=>if gtI (vu .i64 x0 0) 0=true then jn (fun (x:A3)=>j x) fun (j:List A2->Comp A12)=>((sub [] 0 0).bind fun (x:List Unit)=>.pure ()).bind fun x=>(mk (vu .i64 x0 0) ((0,0,0,()),0,())).bind fun zs=>(sub zs 0 0).bind fun ys=>j ys else j []) fun (j:Unit->Comp A12)=>if ltI x0 0=true then Comp.fail else j ()
def zL:List A3->Comp A12:=fun x0=>(Comp.loop (fun (x:A34)=>if ltI x.2 (zD x0)=true then (idx x0 x.2).bind fun a=>jn (fun (b:Unit)=>.pure (.next (zG .i64 x.1 (zD a),zG .i64 x.2 1))) fun (j:Unit->Comp (Comp.Step A34 Int))=>if ltI (zG .i64 x.1 (zD a)) 0=true then Comp.fail else j () else .pure (.done x.1)) (0,0)).bind fun x=>(vq x).bind fun y=>(Comp.loop (fun (x:A35)=>if ltI x.2 (zD x0)=true then (idx x0 x.2).bind fun a=>(app x.1 a).bind fun zs=>.pure (.next (zs,zG .i64 x.2 1)) else .pure (.done x.1)) (y.1,0)).bind fun x=>.pure (x,())
def cell_of:List A3->Comp A12:=fun x0=>(zL x0).bind fun y=>(Comp.loop (fun (x:A35)=>if ltI x.2 (zD [(1,0,0,()),(-1,0,0,()),(0,1,0,()),(0, -1,0,()),(0,0,1,()),(0,0, -1,())])=true then (idx [(1,0,0,()),(-1,0,0,()),(0,1,0,()),(0, -1,0,()),(0,0,1,()),(0,0, -1,())] x.2).bind fun a=>(app x.1 [(a,24,())]).bind fun zs=>.pure (.next (zs,zG .i64 x.2 1)) else .pure (.done x.1)) (y.1,0)).bind fun x=>.pure (x,())
def vp:List A2->Comp (List A12):=fun x0=>((YJ (fun (x:Int)=>if ltI x (zD x0)=true then (idx x0 x).bind fun a=>(sub x0 (zG .i64 x 1) (zD x0)).bind fun b=>(YJ (fun (c:Int)=>if ltI c (zD b)=true then (idx b c).bind fun d=>(sub x0 (zG .i64 (zG .i64 x c) 2) (zD x0)).bind fun x=>(YJ (fun (e:Int)=>if ltI e (zD x)=true then (idx x e).bind fun x=>tell [([a,d,x],())] (Comp.pure ([],.next (zG .i64 e 1))) else .pure ([],.done (Sum.inl ()))) 0).bind fun (p:List A12×(Unit⊕Unit))=>tell p.1 (match p.2 with
              |.inl x=>.pure ([],.next (zG .i64 c 1))
              |.inr x=>.pure ([],.done (Sum.inr ()))) else .pure ([],.done (Sum.inl ()))) 0).bind fun (p:List A12×(Unit⊕Unit))=>tell p.1 (match p.2 with
         |.inl c=>.pure ([],.next (zG .i64 x 1))
         |.inr x=>.pure ([],.done (Sum.inr ()))) else .pure ([],.done (Sum.inl ()))) 0).bind fun (p:List A12×(Unit⊕Unit))=>tell p.1 (match p.2 with
    |.inl x=>.pure ([],())
    |.inr x=>.pure ([],()))).bind fun (p:List A12×Unit)=>.pure p.1
def kL:List A2->Comp (Comp (List A12)×Unit):=fun x0=>.pure (vp x0,())
def Zr:Int×Int×Int×Unit->Int×Int×Int×Unit->Comp A33:=fun x0 x1=>.pure ((vu .i64 (ku .i64 x0.2.1 x1.2.2.1) (ku .i64 x0.2.2.1 x1.2.1),vu .i64 (ku .i64 x0.2.2.1 x1.1) (ku .i64 x0.1 x1.2.2.1),vu .i64 (ku .i64 x0.1 x1.2.1) (ku .i64 x0.2.1 x1.1),()),())
def Zi:Int×Int×Int×Unit->Int×Int×Int×Unit->Comp A11:=fun x0 x1=>.pure (zG .i64 (zG .i64 (ku .i64 x0.1 x1.1) (ku .i64 x0.2.1 x1.2.1)) (ku .i64 x0.2.2.1 x1.2.2.1),())
def Yj:Int×Int×Int×Unit->Int->Comp A33:=fun x0 x1=>.pure ((ku .i64 x0.1 x1,ku .i64 x0.2.1 x1,ku .i64 x0.2.2.1 x1,()),())
def XU:Int×Int×Int×Unit->Int×Int×Int×Unit->Comp A33:=fun x0 x1=>.pure ((zG .i64 x0.1 x1.1,zG .i64 x0.2.1 x1.2.1,zG .i64 x0.2.2.1 x1.2.2.1,()),())
def Ko:List Int->Comp A11:=fun x0=>(Comp.loop (fun (x:A34)=>if ltI x.2 (zD x0)=true then (idx x0 x.2).bind fun a=>(Comp.loop (fun (x:A34)=>if neI x.2 0=true then (rem x.1 x.2).bind fun b=>.pure (.next (x.2,b)) else .pure (.done x.1)) (x.1,a)).bind fun b=>.pure (.next (b,zG .i64 x.2 1)) else .pure (.done x.1)) (0,0)).bind fun x=>.pure (rW x (Yw .i64 x),())
def XW:List A2->Comp (A8×Bool×Unit):=fun x0=>(Comp.loop (fun (x:Int×Int×Int×Int×Int×Unit)=>if ltI x.2.1 3=true then (idx x0 x.2.1).bind fun a=>(rem (zG .i64 x.2.1 1) 3).bind fun b=>(idx x0 b).bind fun c=>(rem (zG .i64 x.2.1 2) 3).bind fun d=>(idx x0 d).bind fun e=>(Zr c.1 e.1).bind fun f=>(Zi a.1 f.1).bind fun g=>(Yj f.1 a.2.1).bind fun h=>(XU x.2.2 h.1).bind fun i=>.pure (.next (g.1,zG .i64 x.2.1 1,i.1)) else .pure (.done (x.1,x.2.2))) (0,0,0,0,0,())).bind fun x=>if eqI x.1 0=true then .pure ((0,0,0,0,()),false,()) else (Ko [x.2.1,x.2.2.1,x.2.2.2.1,x.1]).bind fun a=>jn (fun (b:Int)=>(quo .i64 x.2.1 b).bind fun c=>(quo .i64 x.2.2.1 b).bind fun d=>(quo .i64 x.2.2.2.1 b).bind fun e=>(quo .i64 x.1 b).bind fun x=>.pure ((c,d,e,x,()),true,())) fun (j:Int->Comp (A8×Bool×Unit))=>if ltI x.1 0=true then j (Yw .i64 a.1) else j a.1
def Zl:A1×Int×Unit->Int×Int×Int×Int×Unit->Comp A11:=fun x0 x1=>(Zi x0.1 (x1.1,x1.2.1,x1.2.2.1,())).bind fun x=>.pure (vu .i64 (ku .i64 x0.2.1 x1.2.2.2.1) x.1,())
def jv:A1×Int×Unit->Int×Int×Int×Int×Unit->Comp A9:=fun x0 x1=>(Zl x0 x1).bind fun x=>.pure (ltI x.1 0,())
def Zv:List A2->Int×Int×Int×Int×Unit->Comp A9:=fun x0 x1=>(zW x0 fun (z:A2×Unit)=>jv z.1 x1).bind fun x=>.pure (ntB x.1,())
def vj:List A2->Comp A42:=fun x0=>(kL x0).bind fun (x:Comp (List A12)×Unit)=>x.1.bind fun xs=>(wA (fun (x:List A8×List (A8×Bool)) (d:A12)=>(XW d.1).bind fun a=>(Comp.gd (sel a.2.1 (ntB (match mgB (fun (x b:A8)=>adB (eqI x.1 b.1) (adB (eqI x.2.1 b.2.1) (adB (eqI x.2.2.1 b.2.2.1) (eqI x.2.2.2.1 b.2.2.2.1)))) x.2 a.1 with
          |some x=>x
          |none=>false)) false) (Zv x0 a.1) (false,())).bind fun b=>jn (fun (x:List A8×List (A8×Bool))=>.pure (.next (x.1,x.2))) fun (j:List A8×List (A8×Bool)->Comp (Comp.Step (List A8×List (A8×Bool)) Empty))=>if sel (sel a.2.1 (ntB (match mgB (fun (x c:A8)=>adB (eqI x.1 c.1) (adB (eqI x.2.1 c.2.1) (adB (eqI x.2.2.1 c.2.2.1) (eqI x.2.2.2.1 c.2.2.2.1)))) x.2 a.1 with
             |some x=>x
             |none=>false)) false) b.1 false=true then (app x.1 [a.1]).bind fun zs=>j (zs,mpB (fun (x c:A8)=>adB (eqI x.1 c.1) (adB (eqI x.2.1 c.2.1) (adB (eqI x.2.2.1 c.2.2.1) (eqI x.2.2.2.1 c.2.2.2.1)))) x.2 a.1 true) else j (x.1,x.2)) xs ([],[])).bind fun (r:Comp.Step (List A8×List (A8×Bool)) Empty)=>match r with
     |.next x=>.pure (x.1,())
     |.done e=>nomatch e
def yv:Int×Int×Int×Int×Unit->A1×Int×Unit->Comp A9:=fun x0 x1=>(Zl x1 x0).bind fun x=>.pure (gtI x.1 0,())
def vg:List A8->(A8×Unit->Comp A9)->Comp A11:=fun x0 x1=>(Comp.loop (fun (x:Int)=>if ltI x (zD x0)=true then (idx x0 x).bind fun a=>(x1 (a,())).bind fun b=>if b.1=true then .pure (.done (Sum.inr x)) else .pure (.next (zG .i64 x 1)) else .pure (.done (Sum.inl ()))) 0).bind fun (x:A29)=>match x with
   |.inl x=>.pure (-1,())
   |.inr x=>.pure (x,())
def yP:List A8->(A8×Unit->Comp A9)->Comp A9:=fun x0 x1=>(vg x0 x1).bind fun x=>.pure (geI x.1 0,())
def vA:A1×Int×Unit->List A8->Comp A9:=fun x0 x1=>(yP x1 fun (z:A8×Unit)=>yv z.1 x0).bind fun x=>.pure (ntB x.1,())
def vP:List A2->A31->Comp A11:=fun x0 x1=>(Comp.loop (fun (x:Int)=>if ltI x (zD x0)=true then (idx x0 x).bind fun a=>(x1 (a,())).bind fun b=>if b.1=true then .pure (.done (Sum.inr x)) else .pure (.next (zG .i64 x 1)) else .pure (.done (Sum.inl ()))) 0).bind fun (x:A29)=>match x with
   |.inl x=>.pure (-1,())
   |.inr x=>.pure (x,())
def yG:List A2->A31->Comp A9:=fun x0 x1=>(vP x0 x1).bind fun x=>.pure (geI x.1 0,())
def gw:List A2->Comp A9:=fun x0=>(vj x0).bind fun y=>(yG x0 fun (z:A2×Unit)=>vA z.1 y.1).bind fun x=>.pure (ntB x.1,())
def kH:List A2->Comp A9:=fun x0=>jn (fun (x:Bool)=>.pure (x,())) fun (j:Bool->Comp A9)=>(Zf [x0]).bind fun x=>if x.1=true then (cell_of [x0]).bind fun y=>(gw y.1).bind fun x=>j x.1 else j false
def kt:List A2->List A2->Comp A9:=fun x0 x1=>jn (fun (x:Bool)=>.pure (x,())) fun (j:Bool->Comp A9)=>(Zf [x0,x1]).bind fun x=>if ntB (ntB x.1)=true then (cell_of [x0,x1]).bind fun y=>(gw y.1).bind fun x=>j (ntB x.1) else j true
def jm:List A2->List A2->Comp A9:=fun x0 x1=>(kt x1 x0).bind fun x=>.pure (ntB x.1,())
def jF:List A2->List A3->Comp A9:=fun x0 x1=>(zH x1 fun (z:A12)=>jm z.1 x0).bind fun x=>.pure (ntB x.1,())
def Yy:vE×List A3×List Int×Unit->Comp A11:=fun x0=>if sel (eqI (zD x0.2.1) 0) true (gtI (zD x0.2.1) 16)=true then .pure (2,()) else (Comp.gd (ntB (neI (zD x0.2.2.1) (zD x0.2.1))) (zh x0.2.2.1 fun (z:A11)=>gE z.1) (false,())).bind fun x=>if sel (neI (zD x0.2.2.1) (zD x0.2.1)) true x.1=true then .pure (1,()) else (Comp.loop (fun (x:Int)=>if ltI x (zD x0.2.1)=true then (idx x0.2.1 x).bind fun a=>(kH a).bind fun b=>(Comp.gd (ntB (ntB b.1)) (sub x0.2.1 0 x) []).bind fun c=>(Comp.gd (ntB (ntB b.1)) (jF a c) (false,())).bind fun d=>if sel (ntB b.1) true (ntB d.1)=true then .pure (.done (Sum.inr 13)) else .pure (.next (zG .i64 x 1)) else .pure (.done (Sum.inl ()))) 0).bind fun (x:A29)=>match x with
      |.inl x=>.pure (0,())
      |.inr x=>.pure (x,())
def kF:List A2->Comp A9:=fun x0=>(gZ x0).bind fun x=>.pure (neI x.1 0,())
def JY:vE×List A3×List Int×Unit->List Bool×List Bool×List A3×Unit->Comp A9:=fun x0 x1=>(Comp.gd (sel (sel (eqI (zD x1.1) (zD x0.2.1)) (eqI (zD x1.2.1) (zD x0.2.1)) false) (leI (zD x1.2.2.1) 24) false) (zH x1.2.2.1 fun (z:A12)=>kF z.1) (false,())).bind fun x=>.pure (sel (sel (sel (eqI (zD x1.1) (zD x0.2.1)) (eqI (zD x1.2.1) (zD x0.2.1)) false) (leI (zD x1.2.2.1) 24) false) (ntB x.1) false,())
def vr:Int->Comp A19:=fun x0=>jn (fun (x:Unit)=>jn (fun (x:A18)=>.pure (x,())) fun (j:List A3->Comp A19)=>if gtI (vu .i64 x0 0) 0=true then jn (fun (x:A18)=>j x) fun (j:List A3->Comp A19)=>((sub [] 0 0).bind fun (x:List Unit)=>.pure ()).bind fun x=>(mk (vu .i64 x0 0) []).bind fun zs=>(sub zs 0 0).bind fun ys=>j ys else j []) fun (j:Unit->Comp A19)=>if ltI x0 0=true then Comp.fail else j ()
def yU:List A18->Comp A19:=fun x0=>(Comp.loop (fun (x:A34)=>if ltI x.2 (zD x0)=true then (idx x0 x.2).bind fun a=>jn (fun (b:Unit)=>.pure (.next (zG .i64 x.1 (zD a),zG .i64 x.2 1))) fun (j:Unit->Comp (Comp.Step A34 Int))=>if ltI (zG .i64 x.1 (zD a)) 0=true then Comp.fail else j () else .pure (.done x.1)) (0,0)).bind fun x=>(vr x).bind fun y=>(Comp.loop (fun (x:A21)=>if ltI x.2 (zD x0)=true then (idx x0 x.2).bind fun a=>(app x.1 a).bind fun zs=>.pure (.next (zs,zG .i64 x.2 1)) else .pure (.done x.1)) (y.1,0)).bind fun x=>.pure (x,())
def ju:List Int->Comp A9:=fun x0=>(Comp.loop (fun (x:Int)=>if ltI x (zD x0)=true then (idx x0 x).bind fun a=>(idx x0 (vu .i64 x 1)).bind fun b=>if leI a b=true then .pure (.done (Sum.inr false)) else .pure (.next (zG .i64 x 1)) else .pure (.done (Sum.inl ()))) 1).bind fun (x:A22)=>match x with
   |.inl x=>.pure (true,())
   |.inr x=>.pure (x,())
def Zs:List A4->Int->Comp A11:=fun x0 x1=>(idx x0 x1).bind fun x=>(yU [x.1,x.2.1]).bind fun y=>(Comp.loop (fun (a:Int)=>if ltI a (zD y.1)=true then (idx y.1 a).bind fun x=>(gZ x).bind fun x=>if neI x.1 0=true then .pure (.done (Sum.inr x.1)) else .pure (.next (zG .i64 a 1)) else .pure (.done (Sum.inl ()))) 0).bind fun (a:A29)=>match a with
     |.inl b=>if sel (ltI x.2.2.1 1) true (gtI x.2.2.1 1048576)=true then .pure (3,()) else (Comp.loop (fun (c:Int)=>if ltI c (zD x.2.2.2.1)=true then (idx x.2.2.2.1 c).bind fun d=>if sel (sel (ltI d 0) true (geI d (zD x0))) true (eqI d x1)=true then .pure (.done (Sum.inr 3)) else .pure (.next (zG .i64 c 1)) else .pure (.done (Sum.inl ()))) 0).bind fun (c:A29)=>match c with
        |.inl d=>(ju x.2.2.2.1).bind fun x=>if ntB x.1=true then .pure (7,()) else .pure (0,())
        |.inr x=>.pure (x,())
     |.inr x=>.pure (x,())
def km:A7×A5×List A4×Unit->Comp A11:=fun x0=>(Yy x0.1).bind fun x=>if neI x.1 0=true then .pure (x.1,()) else (JY x0.1 x0.2.1).bind fun x=>if ntB x.1=true then .pure (4,()) else if gtI (zD x0.2.2.1) 8=true then .pure (2,()) else (Comp.loop (fun (x:A34)=>if ltI x.2 (zD x0.2.2.1)=true then (idx x0.2.2.1 x.2).bind fun a=>(Zs x0.2.2.1 x.2).bind fun b=>if neI b.1 0=true then .pure (.done (Sum.inr b.1)) else .pure (.next (zG .i64 x.1 (zD a.1),zG .i64 x.2 1)) else .pure (.done (Sum.inl x.1))) (zD x0.2.1.2.2.1,0)).bind fun (x:Int⊕Int)=>match x with
        |.inl x=>if gtI x 24=true then .pure (2,()) else .pure (0,())
        |.inr x=>.pure (x,())
def YV:A7×A5×List A4×Unit->List Int->Comp (List Bool×Bool×Unit):=fun x0 x1=>(Comp.loop (fun (x:Int×List Bool)=>if ltI x.1 (zD x1)=true then (idx x1 x.1).bind fun a=>if sel (ltI a 0) true (geI a (zD x0.2.2.1))=true then .pure (.done (Sum.inr (false,[false,false,false,false,false,false,false,false]))) else (inb 8 a).bind fun b=>.pure (.next (zG .i64 x.1 1,jy x.2 a true)) else .pure (.done (Sum.inl x.2))) (0,[false,false,false,false,false,false,false,false])).bind fun (x:List Bool⊕Bool×List Bool)=>match x with
   |.inl x=>(ju x1).bind fun a=>.pure (x,a.1,())
   |.inr x=>.pure (x.2,x.1,())
def vw:List A2->List A3->Comp A9:=fun x0 x1=>(jF x0 x1).bind fun x=>.pure (ntB x.1,())
def kj:A7×A5×List A4×Unit->Comp ((A16×List Bool×Unit)×Unit):=fun x0=>(Comp.loop (fun (x:Int×List A3)=>if ltI x.1 (zD x0.1.2.1)=true then (idx x0.1.2.1 x.1).bind fun a=>(idx x0.1.2.2.1 x.1).bind fun b=>jn (fun (c:A18)=>.pure (.next (zG .i64 x.1 1,c))) fun (j:List A3->Comp (Comp.Step (Int×List A3) A18))=>if eqI b 1=true then (app x.2 [a]).bind fun zs=>j zs else j x.2 else .pure (.done x.2)) (0,[])).bind fun x=>(Comp.loop (fun (a:Int×A13×List Bool×Unit)=>if ltI a.1 (zD x0.2.2.1)=true then (idx x0.2.2.1 a.1).bind fun b=>(zH b.1 fun (z:A12)=>vw z.1 x).bind fun c=>(Comp.gd (ntB c.1) (zH b.2.1 fun (z:A12)=>vw z.1 x) (false,())).bind fun x=>(inb 8 a.1).bind fun d=>.pure (.next (zG .i64 a.1 1,a.2.1,jy a.2.2.1 a.1 (sel c.1 true x.1),())) else .pure (.done a.2)) (0,x0,[false,false,false,false,false,false,false,false],())).bind fun x=>.pure (x,())
def vv:List Bool->Comp A27:=fun x0=>(Comp.loop (fun (x:A47)=>if ltI x.2 8=true then (idx x0 x.2).bind fun a=>jn (fun (b:A14)=>.pure (.next (b,zG .i64 x.2 1))) fun (j:List Int->Comp (Comp.Step A47 A14))=>if a=true then (app x.1 [x.2]).bind fun zs=>j zs else j x.1 else .pure (.done x.1)) ([],0)).bind fun x=>.pure (x,())
def yw:Int->List Bool->Comp A9:=fun x0 x1=>(idx x1 x0).bind fun x=>.pure (ntB x,())
def jr:A16×List Bool×Unit->List Bool->Comp A39:=fun x0 x1=>(Comp.loop (fun (x:Int×List Bool)=>if ltI x.1 (zD x0.1.2.2.1)=true then (idx x1 x.1).bind fun a=>(Comp.gd (ntB a) (idx x0.2.1 x.1) false).bind fun b=>(inb 8 x.1).bind fun c=>.pure (.next (zG .i64 x.1 1,jy x.2 x.1 (sel (ntB a) (ntB b) false))) else .pure (.done x.2)) (0,[false,false,false,false,false,false,false,false])).bind fun x=>(Comp.loop (fun (a:List Bool×List Bool)=>if ntB (eqA (fun (x b:Bool)=>eqB x b) a.1 a.2)=true then (vv a.2).bind fun y=>(Comp.loop (fun (b:Int×List Bool)=>if ltI b.1 (zD y.1)=true then (idx y.1 b.1).bind fun x=>(idx x0.1.2.2.1 x).bind fun c=>(zh c.2.2.2.1 fun (z:A11)=>yw z.1 b.2).bind fun d=>(inb 8 x).bind fun e=>.pure (.next (zG .i64 b.1 1,jy b.2 x (ntB d.1))) else .pure (.done b.2)) (0,a.2)).bind fun x=>.pure (.next (a.2,x)) else .pure (.done a.2)) ([false,false,false,false,false,false,false,false],x)).bind fun x=>.pure (x,())
def vX:A16×List Bool×Unit->List Bool->Comp A9:=fun x0 x1=>(Comp.loop (fun (x:Int×List Bool)=>if ltI x.1 (zD x0.1.2.2.1)=true then (idx x1 x.1).bind fun a=>(inb 8 x.1).bind fun b=>.pure (.next (zG .i64 x.1 1,jy x.2 x.1 (ntB a))) else .pure (.done x.2)) (0,[false,false,false,false,false,false,false,false])).bind fun x=>(jr x0 x).bind fun x=>.pure (eqA (fun (x a:Bool)=>eqB x a) x.1 x1,())
def zu:A7×A5×List A4×Unit->List Int->Comp A9:=fun x0 x1=>(km x0).bind fun x=>if neI x.1 0=true then .pure (false,()) else (YV x0 x1).bind fun x=>(Comp.gd x.2.1 (kj x0) (((([],[],[],()),([],[],[],()),[],()),[],()),())).bind fun (a:(A13×List Bool×Unit)×Unit)=>(Comp.gd x.2.1 (vX a.1 x.1) (false,())).bind fun b=>.pure (sel x.2.1 b.1 false,())
def gV:Comp (A16×Unit):=y9.bind fun y=>(inb y.1.2.2.1.length 1).bind fun x=>(idx y.1.2.2.1 1).bind fun (z:A4)=>.pure ((y.1.1,y.1.2.1,jy y.1.2.2.1 1 (z.1,z.2.1,z.2.2.1,[2],z.2.2.2.2),()),())
def zf:List A3->Comp A19:=fun x0=>amb (uS x0) (Comp.pure ([],())) ((app [] x0).bind fun zs=>.pure (zs,()))
def y6:List A2->List A2->Comp A9:=fun x0 x1=>(kt x0 x1).bind fun x=>.pure (x.1,())
def zl:List A3->A38->Comp A18:=fun xs x0=>(yL xs x0).bind fun x=>if eqI x.1 (-1)=true then .pure xs else (Comp.loop (fun (x:List A3×Int×Int)=>if ltI x.2.2 (zD x.1)=true then (idx x.1 x.2.2).bind fun a=>(x0 (a,())).bind fun b=>jn (fun (c:A21)=>.pure (.next (c.1,c.2,zG .i64 x.2.2 1))) fun (j:List A3×Int->Comp (Comp.Step (List A3×Int×Int) A21))=>if ntB b.1=true then (inb x.1.length x.2.1).bind fun c=>j (jy x.1 x.2.1 a,zG .i64 x.2.1 1) else j (x.1,x.2.1) else .pure (.done (x.1,x.2.1))) (xs,x.1,zG .i64 x.1 1)).bind fun x=>((sub x.1 x.2 (zD x.1)).bind fun x=>.pure ()).bind fun a=>(sub x.1 (Int.ofNat x.2.toNat) (zD x.1)).bind fun b=>jn (fun (x:A18)=>.pure x) fun (j:List A3->Comp A18)=>(sub (List.take x.2.toNat x.1++List.replicate (x.1.length.sub x.2.toNat) []) 0 x.2).bind fun ys=>j ys
def Y0:List A3->Comp A11:=fun x0=>if gtI (zD x0) 16=true then .pure (2,()) else (Comp.loop (fun (x:Int)=>if ltI x (zD x0)=true then (idx x0 x).bind fun a=>(gZ a).bind fun b=>if neI b.1 0=true then .pure (.done (Sum.inr b.1)) else .pure (.next (zG .i64 x 1)) else .pure (.done (Sum.inl ()))) 0).bind fun (x:A29)=>match x with
    |.inl x=>.pure (0,())
    |.inr x=>.pure (x,())
def Y6:List A2->Comp A42:=fun x0=>(Zf [x0]).bind fun x=>if ntB x.1=true then .pure ([],()) else (cell_of [x0]).bind fun y=>(vj y.1).bind fun y=>.pure (y.1,())
def ya:List A2->Comp A12:=fun x0=>amb (uS x0) (Comp.pure ([],())) ((app [] x0).bind fun zs=>.pure (zs,()))
def kG:A1×Int×Unit->List A8->Comp A9:=fun x0 x1=>(Comp.loop (fun (x:A34)=>if ltI x.2 (zD x1)=true then (idx x1 x.2).bind fun a=>(Zl x0 a).bind fun b=>jn (fun (c:Int)=>.pure (.next (c,zG .i64 x.2 1))) fun (j:Int->Comp (Comp.Step A34 Int))=>if eqI b.1 0=true then j (zG .i64 x.1 1) else j x.1 else .pure (.done x.1)) (0,0)).bind fun x=>.pure (ltI x 3,())
def yF:List A2->A31->Comp A3:=fun xs x0=>(yK xs x0).bind fun x=>if eqI x.1 (-1)=true then .pure xs else (Comp.loop (fun (x:List A2×Int×Int)=>if ltI x.2.2 (zD x.1)=true then (idx x.1 x.2.2).bind fun a=>(x0 (a,())).bind fun b=>jn (fun (c:A35)=>.pure (.next (c.1,c.2,zG .i64 x.2.2 1))) fun (j:List A2×Int->Comp (Comp.Step (List A2×Int×Int) A35))=>if ntB b.1=true then (inb x.1.length x.2.1).bind fun c=>j (jy x.1 x.2.1 a,zG .i64 x.2.1 1) else j (x.1,x.2.1) else .pure (.done (x.1,x.2.1))) (xs,x.1,zG .i64 x.1 1)).bind fun x=>((sub x.1 x.2 (zD x.1)).bind fun x=>.pure ()).bind fun a=>(sub x.1 (Int.ofNat x.2.toNat) (zD x.1)).bind fun b=>jn (fun (x:A3)=>.pure x) fun (j:List A2->Comp A3)=>(sub (List.take x.2.toNat x.1++List.replicate (x.1.length.sub x.2.toNat) ((0,0,0,()),0,())) 0 x.2).bind fun ys=>j ys
def z7:List A2->(A2×A2×Unit->Comp A11)->Comp A3:=Cj
def Zq:Int->Int->Comp A11:=fun x0 x1=>if ltI x0 x1=true then .pure (-1,()) else if gtI x0 x1=true then .pure (1,()) else .pure (0,())
def kS:A1×Int×Unit->A1×Int×Unit->Comp A11:=fun x0 x1=>(Comp.loop (fun (x:A34)=>if ltI x.2 (zD [[x0.1.1,x1.1.1],[x0.1.2.1,x1.1.2.1],[x0.1.2.2.1,x1.1.2.2.1],[x0.2.1,x1.2.1]])=true then (idx [[x0.1.1,x1.1.1],[x0.1.2.1,x1.1.2.1],[x0.1.2.2.1,x1.1.2.2.1],[x0.2.1,x1.2.1]] x.2).bind fun a=>(idx a 0).bind fun b=>(idx a 1).bind fun c=>(Zq b c).bind fun d=>if eqI d.1 0=true then .pure (.next (d.1,zG .i64 x.2 1)) else .pure (.done d.1) else .pure (.done x.1)) (0,0)).bind fun x=>.pure (x,())
def yA:List A2->Comp A3:=fun xs=>if ltI (zD xs) 2=true then .pure xs else (Comp.loop (fun (x:A35)=>if ltI x.2 (zD x.1)=true then (idx x.1 x.2).bind fun a=>(idx x.1 (vu .i64 x.2 1)).bind fun b=>if adB (adB (eqI a.1.1 b.1.1) (adB (eqI a.1.2.1 b.1.2.1) (eqI a.1.2.2.1 b.1.2.2.1))) (eqI a.2.1 b.2.1)=true then ((sub x.1 x.2 (zD x.1)).bind fun x=>.pure ()).bind fun c=>(Comp.loop (fun (d:List A2×Int×Int)=>if ltI d.2.2 (zD (List.drop x.2.toNat d.1))=true then (idx (List.drop x.2.toNat d.1) d.2.2).bind fun e=>(idx (List.drop x.2.toNat d.1) (vu .i64 d.2.2 1)).bind fun f=>jn (fun (x:A35)=>.pure (.next (x.1,x.2,zG .i64 d.2.2 1))) fun (j:List A2×Int->Comp (Comp.Step (List A2×Int×Int) A35))=>if ntB (adB (adB (eqI e.1.1 f.1.1) (adB (eqI e.1.2.1 f.1.2.1) (eqI e.1.2.2.1 f.1.2.2.1))) (eqI e.2.1 f.2.1))=true then (idx (List.drop x.2.toNat d.1) d.2.2).bind fun x=>(inb d.1.length d.2.1).bind fun g=>j (jy d.1 d.2.1 x,zG .i64 d.2.1 1) else j (d.1,d.2.1) else .pure (.done (d.1,d.2.1))) (x.1,x.2,1)).bind fun x=>((sub x.1 x.2 (zD x.1)).bind fun x=>.pure ()).bind fun d=>(sub x.1 (Int.ofNat x.2.toNat) (zD x.1)).bind fun e=>jn (fun (x:A3)=>.pure (.done (Sum.inr x))) fun (j:List A2->Comp (Comp.Step A35 (List A2⊕List A2)))=>(sub (List.take x.2.toNat x.1++List.replicate (x.1.length.sub x.2.toNat) ((0,0,0,()),0,())) 0 x.2).bind fun ys=>j ys else .pure (.next (x.1,zG .i64 x.2 1)) else .pure (.done (Sum.inl x.1))) (xs,1)).bind fun (x:List A2⊕List A2)=>match x with
    |.inl x=>.pure x
    |.inr x=>.pure x
def gX:List A2->Comp A12:=fun x0=>(kH x0).bind fun x=>if ntB x.1=true then .pure ([],()) else (Y6 x0).bind fun y=>(ya x0).bind fun y_1=>(yF y_1.1 fun (z:A2×Unit)=>kG z.1 y.1).bind fun ys=>(z7 ys fun (z:A2×A2×Unit)=>kS z.1 z.2.1).bind fun ys=>(yA ys).bind fun ys=>.pure (ys,())
def wN:Int×Int×Int×Unit->Int×Int×Int×Unit->Comp A33:=fun x0 x1=>.pure ((vu .i64 x0.1 x1.1,vu .i64 x0.2.1 x1.2.1,vu .i64 x0.2.2.1 x1.2.2.1,()),())
def Ye:A1×Int×Unit->Comp (A2×Unit):=fun x0=>(wN (0,0,0,()) x0.1).bind fun x=>.pure ((x.1,Yw .i64 x0.2.1,()),())
def jl:List A2->List A2->Comp (List A46):=fun x0 x1=>((YJ (fun (x:A35)=>if ltI x.2 (zD x1)=true then (idx x1 x.2).bind fun a=>if geI (zD x.1) 48=true then tell [(none,())] (Comp.pure ([],.done (Sum.inr ()))) else (Ye a).bind fun b=>(zL [x.1,[b.1]]).bind fun y=>(gX y.1).bind fun y_1=>if gtI (zD y_1.1) 0=true then tell [(some y_1.1,())] ((zL [x.1,[a]]).bind fun y=>(gX y.1).bind fun y=>.pure ([],.next (y.1,zG .i64 x.2 1))) else (zL [x.1,[a]]).bind fun y=>(gX y.1).bind fun y=>.pure ([],.next (y.1,zG .i64 x.2 1)) else .pure ([],.done (Sum.inl ()))) (x0,0)).bind fun (p:List A46×(Unit⊕Unit))=>tell p.1 (match p.2 with
    |.inl x=>.pure ([],())
    |.inr x=>.pure ([],()))).bind fun (p:List A46×Unit)=>.pure p.1
def Zp:List A2->List A2->Comp (Comp (List A46)×Unit):=fun x0 x1=>.pure (jl x0 x1,())
def kR:List A3->List A2->Comp A24:=fun x0 x1=>(kH x1).bind fun x=>if ntB x.1=true then .pure (x0,0,()) else (gX x1).bind fun y=>(Comp.loop (fun (x:Int×List A3×Int×List A3)=>if ltI x.1 (zD x0)=true then jn (fun (a:List A3×Int×List A3)=>.pure (.next (zG .i64 x.1 1,a.1,a.2.1,a.2.2))) fun (j:List A3×Int×List A3->Comp (Comp.Step (Int×List A3×Int×List A3) (List A3×Int×List A3⊕List A3×Int)))=>(idx x0 x.1).bind fun a=>(kt a x1).bind fun b=>if b.1=true then (app x.2.2.2 [a]).bind fun zs=>j (x.2.1,x.2.2.1,zs) else (Zp a y.1).bind fun (c:Comp (List A46)×Unit)=>c.1.bind fun xs=>(wA (fun (x:List A3×Int×List A3) (d:A46)=>match d.1 with
                |none=>.pure (.done ([],Int.ofNat 9))
                |some xs=>amb (uS xs) (Comp.pure (.done ([],Int.ofNat 9))) ((app x.2.2 [xs]).bind fun zs=>.pure (.next (x.1,x.2.1,zs)))) xs (x.2.1,x.2.2.1,x.2.2.2)).bind fun (r:Comp.Step (List A3×Int×List A3) A21)=>match r with
               |.next x=>j (x.1,x.2.1,x.2.2)
               |.done e=>.pure (.done (Sum.inr (e.1,e.2))) else .pure (.done (Sum.inl (x.2.1,x.2.2.1,x.2.2.2)))) (0,[],0,[])).bind fun (a:List A3×Int×List A3⊕List A3×Int)=>match a with
      |.inl b=>if gtI (zD b.2.2) 200=true then .pure ([],9,()) else .pure (b.2.2,0,())
      |.inr x=>.pure (x.1,x.2,())
def Yz:List A2->List A3->Comp A24:=fun x0 x1=>(gZ x0).bind fun x=>if neI x.1 0=true then .pure ([],x.1,()) else (Y0 x1).bind fun x=>if neI x.1 0=true then .pure ([],x.1,()) else (kH x0).bind fun x=>if ntB x.1=true then .pure ([],0,()) else (gX x0).bind fun y=>(Comp.loop (fun (x:A21)=>if ltI x.2 (zD x1)=true then (idx x1 x.2).bind fun a=>(kR x.1 a).bind fun b=>if neI b.2.1 0=true then .pure (.done (Sum.inr ([],b.2.1))) else .pure (.next (b.1,zG .i64 x.2 1)) else .pure (.done (Sum.inl x.1))) ([y.1],0)).bind fun (x:A40)=>match x with
          |.inl x=>.pure (x,0,())
          |.inr x=>.pure (x.1,x.2,())
def ZH:List A3->List A2->Comp A20:=fun x0 x1=>(Yz x1 x0).bind fun x=>.pure (sel (eqI x.2.1 0) (eqI (zD x.1) 0) false,x.2.1,())
def vG:A16×List Bool×Unit->List Bool->Comp A20:=fun x0 x1=>(zf x0.1.2.1.2.2.1).bind fun y=>(vv x1).bind fun y_1=>(Comp.loop (fun (x:A21)=>if ltI x.2 (zD y_1.1)=true then (idx y_1.1 x.2).bind fun a=>(idx x0.1.2.2.1 a).bind fun b=>(app x.1 b.1).bind fun zs=>.pure (.next (zs,zG .i64 x.2 1)) else .pure (.done x.1)) (y.1,0)).bind fun x=>(Comp.loop (fun (a:Int)=>if ltI a (zD x0.1.1.2.1)=true then jn (fun (x:Unit)=>.pure (.next (zG .i64 a 1))) fun (j:Unit->Comp (Comp.Step Int (Unit⊕Bool×Int)))=>(idx x0.1.1.2.1 a).bind fun b=>(idx x0.1.1.2.2.1 a).bind fun c=>(Comp.gd (ntB (neI c 2)) (idx x0.1.2.1.1 a) false).bind fun d=>if sel (neI c 2) true d=true then j () else (zf x).bind fun y=>(zl y.1 fun (z:A12)=>y6 z.1 b).bind fun ys=>(ZH ys b).bind fun x=>if ntB x.1=true then .pure (.done (Sum.inr (false,x.2.1))) else j () else .pure (.done (Sum.inl ()))) 0).bind fun (x:Unit⊕Bool×Int)=>match x with
      |.inl x=>.pure (true,0,())
      |.inr x=>.pure (x.1,x.2,())
def jH:A7×A5×List A4×Unit->List Int->Comp A20:=fun x0 x1=>(km x0).bind fun x=>if neI x.1 0=true then .pure (false,x.1,()) else (YV x0 x1).bind fun x=>if ntB x.2.1=true then .pure (false,1,()) else (vG (x0,[false,false,false,false,false,false,false,false],()) x.1).bind fun x=>.pure (x.1,x.2.1,())
def yC:A7×A5×List A4×Unit->Bool->List Int->Comp A9:=fun x0 x1 x2=>(jH x0 x2).bind fun x=>.pure (sel (eqI x.2.1 0) (eqB x.1 x1) false,())
def vW:A16×List Bool×Unit->List Bool->Comp A11:=fun x0 x1=>(vv x1).bind fun y=>(Comp.loop (fun (x:A34)=>if ltI x.2 (zD y.1)=true then (idx y.1 x.2).bind fun a=>(idx x0.1.2.2.1 a).bind fun b=>.pure (.next (zG .i64 x.1 b.2.2.1,zG .i64 x.2 1)) else .pure (.done x.1)) (0,0)).bind fun x=>.pure (x,())
def Yc(recF:Int->List Bool->A16×List Bool×Unit->Int->List Bool->Comp (Sum Int (Int×List Bool×Unit))):Int->List Bool->A16×List Bool×Unit->Int->List Bool->Comp (Sum Int (Int×List Bool×Unit)):=fun x0 x1 c0 y0 y1=>(vX c0 x1).bind fun x=>jn (fun (x:Int×List Bool)=>(Comp.loop (fun (x:Int×Int×List Bool)=>if ltI x.1 (zD c0.1.2.2.1)=true then (inb 8 x.1).bind fun a=>(recF (zG .i64 x.1 1) (jy x1 x.1 true) c0 x.2.1 x.2.2).bind fun (r:Int⊕Int×List Bool×Unit)=>match r with
          |.inl z=>.pure (.done (Sum.inr z))
          |.inr y=>.pure (.next (zG .i64 x.1 1,y.1,y.2.1)) else .pure (.done (Sum.inl (x.2.1,x.2.2)))) (x0,x.1,x.2)).bind fun (x:Int×List Bool⊕Int)=>match x with
      |.inl x=>.pure (Sum.inr (x.1,x.2,()))
      |.inr x=>.pure (Sum.inl x)) fun (j:Int×List Bool->Comp (Int⊕Int×List Bool×Unit))=>if x.1=true then (vG c0 x1).bind fun x=>if neI x.2.1 0=true then .pure (Sum.inl x.2.1) else (vW c0 x1).bind fun a=>jn (fun (x:Int×List Bool)=>j (x.1,x.2)) fun (j:Int×List Bool->Comp (Int⊕Int×List Bool×Unit))=>if sel x.1 (sel (ltI y0 0) true (ltI a.1 y0)) false=true then j (a.1,x1) else j (y0,y1) else j (y0,y1)
def YM:Nat->Int->List Bool->A16×List Bool×Unit->Int->List Bool->Comp (Sum Int (Int×List Bool×Unit)):=nj (fun _ _ _ _ _=>Comp.fail) Yc
def gL:A16×List Bool×Unit->List Bool->List Bool->Comp A9:=fun x0 x1 x2=>(jr x0 x2).bind fun x=>(vv x1).bind fun y=>(Comp.loop (fun (a:Int)=>if ltI a (zD y.1)=true then (idx y.1 a).bind fun b=>(idx x.1 b).bind fun c=>if ntB c=true then .pure (.done (Sum.inr true)) else .pure (.next (zG .i64 a 1)) else .pure (.done (Sum.inl ()))) 0).bind fun (a:A22)=>match a with
     |.inl b=>(vG x0 x.1).bind fun x=>.pure (sel (eqI x.2.1 0) (ntB x.1) false,())
     |.inr x=>.pure (x,())
def kJ(recF:Int->List Bool->List Bool->Int->A16×List Bool×Unit->List A10->Comp (Sum Unit A23)):Int->List Bool->List Bool->Int->A16×List Bool×Unit->List A10->Comp (Sum Unit A23):=fun x0 x1 x2 c0 c1 y0=>(Comp.gd (gtI c0 0) (vW c1 x1) (0,())).bind fun x=>jn (fun (x:A30)=>.pure (Sum.inr (x,()))) fun (j:List A10->Comp (Unit⊕List A10×Unit))=>if sel (gtI c0 0) (geI x.1 c0) false=true then (app y0 [(2,0,())]).bind fun zs=>j zs else (Comp.gd (ntB (geI x0 (zD c1.1.2.2.1))) (gL c1 x1 x2) (false,())).bind fun x=>jn (fun (x:A30)=>j x) fun (j:List A10->Comp (Unit⊕List A10×Unit))=>if sel (geI x0 (zD c1.1.2.2.1)) true x.1=true then (app y0 [(3,0,())]).bind fun zs=>j zs else (app y0 [(1,x0,())]).bind fun zs=>(inb 8 x0).bind fun x=>(inb 8 x0).bind fun x=>(recF (zG .i64 x0 1) (jy x1 x0 true) x2 c0 c1 zs).bind fun (r:Unit⊕List A10×Unit)=>match r with
            |.inl z=>.pure (Sum.inl z)
            |.inr y=>(recF (zG .i64 x0 1) x1 (jy x2 x0 true) c0 c1 y.1).bind fun (r:Unit⊕List A10×Unit)=>match r with
              |.inl z=>.pure (Sum.inl z)
              |.inr y=>j y.1
def jX:Nat->Int->List Bool->List Bool->Int->A16×List Bool×Unit->List A10->Comp (Sum Unit A23):=nj (fun _ _ _ _ _ _=>Comp.fail) kJ
def jq:A16×List Bool×Unit->Int->Comp A23:=fun x0 x1=>(jX 40 0 [false,false,false,false,false,false,false,false] [false,false,false,false,false,false,false,false] x1 x0 []).bind fun (r:Unit⊕List A10×Unit)=>match r with
   |.inl z=>Comp.fail
   |.inr y=>.pure (y.1,())
def Zj:A7×A5×List A4×Unit->Comp A17:=fun x0=>(km x0).bind fun x=>if neI x.1 0=true then .pure ([],0,[],x.1,()) else (kj x0).bind fun (x:(A13×List Bool×Unit)×Unit)=>(YM 40 0 [false,false,false,false,false,false,false,false] x.1 (Int.negSucc 0) [false,false,false,false,false,false,false,false]).bind fun (r:Int⊕Int×List Bool×Unit)=>match r with
      |.inl z=>jn (fun (x:A45)=>.pure (x.1,x.2.1,x.2.2.1,x.2.2.2,())) fun (j:A36)=>j ([],0,[],z)
      |.inr y=>if eqI y.1 (-1)=true then (jq x.1 (Int.ofNat 0)).bind fun y=>jn (fun (x:A45)=>.pure (x.1,x.2.1,x.2.2.1,x.2.2.2,())) fun (j:A36)=>j ([],0,y.1,Int.ofNat 60) else if eqI y.1 0=true then jn (fun (x:A45)=>.pure (x.1,x.2.1,x.2.2.1,x.2.2.2,())) fun (j:A36)=>j ([],0,[],Int.ofNat 0) else (vv y.2.1).bind fun y_1=>(jq x.1 y.1).bind fun aB=>jn (fun (x:A45)=>.pure (x.1,x.2.1,x.2.2.1,x.2.2.2,())) fun (j:A36)=>j (y_1.1,y.1,aB.1,Int.ofNat 0)
def yg:List Int->List Int->Comp A9:=fun x0 x1=>if neI (zD x0) (zD x1)=true then .pure (false,()) else (Comp.loop (fun (x:Int)=>if ltI x (zD x0)=true then (idx x0 x).bind fun a=>(idx x1 x).bind fun b=>if neI a b=true then .pure (.done (Sum.inr false)) else .pure (.next (zG .i64 x 1)) else .pure (.done (Sum.inl ()))) 0).bind fun (x:A22)=>match x with
    |.inl x=>.pure (true,())
    |.inr x=>.pure (x,())
def YE(recF:List Bool->List Bool->List A10->A16×List Bool×Unit->Int->Int->Comp (Sum Unit A11)):List Bool->List Bool->List A10->A16×List Bool×Unit->Int->Int->Comp (Sum Unit A11):=fun x0 x1 c0 c1 c2 y0=>if geI y0 (zD c0)=true then .pure (Sum.inl ()) else (idx c0 y0).bind fun x=>(Comp.gd (sel (sel (eqI x.1 1) (geI x.2.1 0) false) (ltI x.2.1 (zD c1.1.2.2.1)) false) (idx x0 x.2.1) false).bind fun a=>(Comp.gd (sel (sel (sel (eqI x.1 1) (geI x.2.1 0) false) (ltI x.2.1 (zD c1.1.2.2.1)) false) (ntB a) false) (idx x1 x.2.1) false).bind fun b=>jn (fun (x:Int)=>.pure (Sum.inr (x,()))) fun (j:Int->Comp (Unit⊕Int×Unit))=>if sel (sel (sel (sel (eqI x.1 1) (geI x.2.1 0) false) (ltI x.2.1 (zD c1.1.2.2.1)) false) (ntB a) false) (ntB b) false=true then (inb 8 x.2.1).bind fun c=>(inb 8 x.2.1).bind fun d=>(recF (jy x0 x.2.1 true) x1 c0 c1 c2 (zG .i64 y0 1)).bind fun (r:Unit⊕Int×Unit)=>match r with
           |.inl z=>.pure (Sum.inl z)
           |.inr y=>(recF x0 (jy x1 x.2.1 true) c0 c1 c2 y.1).bind fun (r:Unit⊕Int×Unit)=>match r with
             |.inl z=>.pure (Sum.inl z)
             |.inr y=>j y.1 else (Comp.gd (sel (sel (eqI x.1 2) (eqI x.2.1 0) false) (gtI c2 0) false) (vW c1 x0) (0,())).bind fun c=>jn (fun (x:Unit)=>j (zG .i64 y0 1)) fun (j:Unit->Comp (Unit⊕Int×Unit))=>if sel (sel (sel (eqI x.1 2) (eqI x.2.1 0) false) (gtI c2 0) false) (geI c.1 c2) false=true then j () else (Comp.gd (sel (eqI x.1 3) (eqI x.2.1 0) false) (gL c1 x0 x1) (false,())).bind fun d=>if sel (sel (eqI x.1 3) (eqI x.2.1 0) false) d.1 false=true then j () else .pure (Sum.inl ())
def kU:Nat->List Bool->List Bool->List A10->A16×List Bool×Unit->Int->Int->Comp (Sum Unit A11):=nj (fun _ _ _ _ _ _=>Comp.fail) YE
def zg:A7×A5×List A4×Unit->Int->List A10->Comp A9:=fun x0 x1 x2=>(km x0).bind fun x=>if sel (neI x.1 0) true (ltI x1 0)=true then .pure (false,()) else (kj x0).bind fun (x:(A13×List Bool×Unit)×Unit)=>(kU 40 [false,false,false,false,false,false,false,false] [false,false,false,false,false,false,false,false] x2 x.1 x1 (Int.ofNat 0)).bind fun (r:Unit⊕Int×Unit)=>match r with
      |.inl z=>jn (fun (x:Bool)=>.pure (x,())) fun (j:Bool->Comp A9)=>j false
      |.inr y=>jn (fun (x:Bool)=>.pure (x,())) fun (j:Bool->Comp A9)=>j (eqI y.1 (zD x2))
def yW:A7×A5×List A4×Unit->Int->List Int->Comp A9:=fun x0 x1 x2=>(Zj x0).bind fun x=>(Comp.gd (sel (eqI x.2.2.2.1 0) (eqI x.2.1 x1) false) (yg x.1 x2) (false,())).bind fun a=>(Comp.gd (sel (sel (eqI x.2.2.2.1 0) (eqI x.2.1 x1) false) a.1 false) (zg x0 x1 x.2.2.1) (false,())).bind fun b=>.pure (sel (sel (sel (eqI x.2.2.2.1 0) (eqI x.2.1 x1) false) a.1 false) b.1 false,())
def zn:Comp A32:=.pure ((3,0,()),())
def yO:Int->Comp A32:=fun x0=>.pure ((1,x0,()),())
def y4:Comp A32:=.pure ((2,0,()),())
def jD:Comp A9:=y9.bind fun y=>jn (fun (x:Bool)=>(jH (y.1.1,y.1.2.1,y.1.2.2.1,()) [4]).bind fun a=>jn (fun (b:Bool)=>y9.bind fun y_1=>(idx y_1.1.2.2.1 0).bind fun c=>(idx y_1.1.2.2.1 3).bind fun d=>(Zj (y_1.1.1,y_1.1.2.1,[c,d],())).bind fun e=>(Comp.gd (eqI e.2.2.2.1 60) (zg (y_1.1.1,y_1.1.2.1,[c,d],()) (Int.ofNat 0) e.2.2.1) (false,())).bind fun f=>(Comp.gd (sel (eqI e.2.2.2.1 60) f.1 false) zn ((0,0,()),())).bind fun g=>(Comp.gd (sel (eqI e.2.2.2.1 60) f.1 false) (zg (y_1.1.1,y_1.1.2.1,[c,d],()) (Int.ofNat 0) [g.1]) (false,())).bind fun h=>(Comp.gd (sel (sel (eqI e.2.2.2.1 60) f.1 false) h.1 false) zn ((0,0,()),())).bind fun i=>(Comp.gd (sel (sel (eqI e.2.2.2.1 60) f.1 false) h.1 false) (zg (y.1.1,y.1.2.1,y.1.2.2.1,()) (Int.ofNat 0) [i.1]) (false,())).bind fun k=>(yO 2).bind fun l=>y4.bind fun m=>(yO 0).bind fun n=>(yO 1).bind fun o=>y4.bind fun p=>zn.bind fun q=>zn.bind fun r=>(yO 0).bind fun s=>(yO 1).bind fun u=>y4.bind fun v=>zn.bind fun w=>(yO 2).bind fun B=>y4.bind fun C=>zn.bind fun D=>match x with
                              |true=>match sel x b false with
                               |true=>match sel (sel x b false) (sel (sel (sel (eqI e.2.2.2.1 60) f.1 false) h.1 false) (ntB k.1) false) false with
                                |true=>(zg (y.1.1,y.1.2.1,y.1.2.2.1,()) (Int.ofNat 7) [l.1,m.1,n.1,o.1,p.1,q.1,r.1]).bind fun E=>match sel (sel (sel x b false) (sel (sel (sel (eqI e.2.2.2.1 60) f.1 false) h.1 false) (ntB k.1) false) false) E.1 false with
                                  |true=>(zg (y.1.1,y.1.2.1,y.1.2.2.1,()) (Int.ofNat 7) [s.1,u.1,v.1,w.1,B.1,C.1,D.1]).bind fun F=>match sel (sel (sel (sel x b false) (sel (sel (sel (eqI e.2.2.2.1 60) f.1 false) h.1 false) (ntB k.1) false) false) E.1 false) (ntB F.1) false with
                                    |true=>(zg (y.1.1,y.1.2.1,y.1.2.2.1,()) (Int.ofNat 8) [l.1,m.1,n.1,o.1,p.1,q.1,r.1]).bind fun G=>match sel (sel (sel (sel (sel x b false) (sel (sel (sel (eqI e.2.2.2.1 60) f.1 false) h.1 false) (ntB k.1) false) false) E.1 false) (ntB F.1) false) (ntB G.1) false with
                                      |true=>(sub [l.1,m.1,n.1,o.1,p.1,q.1,r.1] 0 6).bind fun H=>(zg (y.1.1,y.1.2.1,y.1.2.2.1,()) (Int.ofNat 7) H).bind fun I=>match sel (sel (sel (sel (sel (sel x b false) (sel (sel (sel (eqI e.2.2.2.1 60) f.1 false) h.1 false) (ntB k.1) false) false) E.1 false) (ntB F.1) false) (ntB G.1) false) (ntB I.1) false with
                                         |true=>(app [] [l.1,m.1,n.1,o.1,p.1,q.1,r.1]).bind fun zs=>zn.bind fun K=>(app zs [K.1]).bind fun zs=>(zg (y.1.1,y.1.2.1,y.1.2.2.1,()) (Int.ofNat 7) zs).bind fun L=>.pure (sel (sel (sel (sel (sel (sel (sel x b false) (sel (sel (sel (eqI e.2.2.2.1 60) f.1 false) h.1 false) (ntB k.1) false) false) E.1 false) (ntB F.1) false) (ntB G.1) false) (ntB I.1) false) (ntB L.1) false,())
                                         |false=>Comp.fail
                                      |false=>Comp.fail
                                    |false=>Comp.fail
                                  |false=>Comp.fail
                                |false=>Comp.fail
                               |false=>Comp.fail
                              |false=>Comp.fail) fun (j:Bool->Comp A9)=>(yC (y.1.1,y.1.2.1,y.1.2.2.1,()) false [0]).bind fun x=>if x.1=true then (yC (y.1.1,y.1.2.1,y.1.2.2.1,()) true [0,1]).bind fun x=>if x.1=true then (yC (y.1.1,y.1.2.1,y.1.2.2.1,()) true [3]).bind fun x=>if x.1=true then if eqI a.2.1 1=true then (yW (y.1.1,y.1.2.1,y.1.2.2.1,()) (Int.ofNat 7) [0,1]).bind fun x=>if x.1=true then gV.bind fun y=>(yW (y.1.1,y.1.2.1,y.1.2.2.1,()) (Int.ofNat 9) [2]).bind fun x=>j x.1 else j false else j false else j false else j false else j false) fun (j:Bool->Comp A9)=>(zu (y.1.1,y.1.2.1,y.1.2.2.1,()) [0,1]).bind fun x=>if x.1=true then (zu (y.1.1,y.1.2.1,y.1.2.2.1,()) [3]).bind fun x=>if ntB x.1=true then (zu (y.1.1,y.1.2.1,y.1.2.2.1,()) [1,0]).bind fun x=>if ntB x.1=true then gV.bind fun y=>(zu (y.1.1,y.1.2.1,y.1.2.2.1,()) [0,1]).bind fun x=>j (ntB x.1) else j false else j false else j false
def kZ:List A14->Comp A37:=fun x0=>(Comp.loop (fun (x:List A14×Int)=>if sel (ltI x.2 (zD x0)) (ltI x.2 7) false=true then (idx x0 x.2).bind fun a=>(idx x0 x.2).bind fun b=>(sub a 0 (D5 (zD b) 40)).bind fun c=>(app x.1 [c]).bind fun zs=>.pure (.next (zs,zG .i64 x.2 1)) else .pure (.done x.1)) ([],0)).bind fun x=>.pure (x,())
def yJ:Int->Int->Comp A11:=fun x0 x1=>if ltI x1 1=true then .pure (0,()) else (rem x0 x1).bind fun x=>(rem (zG .i64 x x1) x1).bind fun x=>.pure (x,())
def zF:List Int×Int×Unit->Int->Comp A26:=fun x0 x1=>if geI x0.2.1 (zD x0.1)=true then .pure ((x0,()),0,()) else (idx x0.1 (vu .i64 (zG .i64 x0.2.1 1) 1)).bind fun x=>(yJ x x1).bind fun x=>.pure (((x0.1,zG .i64 x0.2.1 1,()),()),x.1,())
def YF:Int×Int×Int×Unit->Int×Int×Int×Unit->Comp A33:=fun x0 x1=>.pure ((vu .i64 x0.1 x1.1,vu .i64 x0.2.1 x1.2.1,vu .i64 x0.2.2.1 x1.2.2.1,()),())
def vK:A1×Int×Unit->Comp (A2×Unit):=fun x0=>(YF (0,0,0,()) x0.1).bind fun x=>.pure ((x.1,Yw .i64 x0.2.1,()),())
def yB:Int×Int×Int×Unit->Comp A27:=fun x0=>.pure ([x0.1,x0.2.1,x0.2.2.1],())
def vS:Int->Comp A11:=fun x0=>if ltI x0 0=true then .pure (Yw .i64 x0,()) else .pure (x0,())
def gv:Int×Int×Int×Unit->Comp A2:=fun x0=>(yB x0).bind fun x=>(Comp.loop (fun (a:Int×Int×Int×Int×Int×Unit)=>if ltI a.2.1 3=true then (idx x.1 a.2.1).bind fun b=>if eqI b (-9223372036854775808)=true then .pure (.done (Sum.inr (0,0,0,0,()))) else (idx x.1 a.2.1).bind fun x=>(vS x).bind fun x=>(Comp.loop (fun (x:A34)=>if gtI x.2 0=true then (rem x.1 x.2).bind fun c=>.pure (.next (x.2,c)) else .pure (.done x.1)) (a.1,x.1)).bind fun x=>.pure (.next (x,zG .i64 a.2.1 1,a.2.2)) else .pure (.done (Sum.inl (a.1,a.2.2)))) (0,0,0,0,0,())).bind fun (x:Int×Int×Int×Int×Unit⊕Int×Int×Int×Int×Unit)=>match x with
    |.inl x=>if eqI x.1 0=true then .pure ((0,0,0,()),0,()) else (quo .i64 x0.1 x.1).bind fun a=>(quo .i64 x0.2.1 x.1).bind fun b=>(quo .i64 x0.2.2.1 x.1).bind fun c=>.pure ((a,b,c,()),x.1,())
    |.inr x=>.pure (x.2,x.1,())
def gR:A1×Int×Unit->Comp A9:=fun x0=>(yB x0.1).bind fun x=>(Comp.loop (fun (a:Int)=>if ltI a 3=true then (idx x.1 a).bind fun b=>(Comp.gd (ntB (ltI b (-4608))) (idx x.1 a) (Int.ofNat 0)).bind fun c=>if sel (ltI b (-4608)) true (gtI c 4608)=true then .pure (.done (Sum.inr false)) else .pure (.next (zG .i64 a 1)) else .pure (.done (Sum.inl ()))) 0).bind fun (x:A22)=>match x with
    |.inl x=>(gv x0.1).bind fun x=>.pure (sel (sel (eqI x.2.1 1) (geI x0.2.1 (-2097152)) false) (leI x0.2.1 2097152) false,())
    |.inr x=>.pure (x,())
def zX:List A2->Comp A11:=fun x0=>if gtI (zD x0) 48=true then .pure (2,()) else (Comp.loop (fun (x:Int)=>if ltI x (zD x0)=true then (idx x0 x).bind fun a=>(gR a).bind fun b=>if ntB b.1=true then .pure (.done (Sum.inr 12)) else .pure (.next (zG .i64 x 1)) else .pure (.done (Sum.inl ()))) 0).bind fun (x:A29)=>match x with
    |.inl x=>.pure (0,())
    |.inr x=>.pure (x,())
def gM:List A2->Comp A12:=fun x0=>(app [] x0).bind fun zs=>(zq (-24, -24, -24,()) (24,24,24,())).bind fun x=>(app zs x.1).bind fun zs=>.pure (zs,())
def vb:Int×Int×Int×Unit->Int×Int×Int×Unit->Comp A33:=fun x0 x1=>.pure ((vu .i64 (ku .i64 x0.2.1 x1.2.2.1) (ku .i64 x0.2.2.1 x1.2.1),vu .i64 (ku .i64 x0.2.2.1 x1.1) (ku .i64 x0.1 x1.2.2.1),vu .i64 (ku .i64 x0.1 x1.2.1) (ku .i64 x0.2.1 x1.1),()),())
def YG:Int×Int×Int×Unit->Int×Int×Int×Unit->Comp A11:=fun x0 x1=>.pure (zG .i64 (zG .i64 (ku .i64 x0.1 x1.1) (ku .i64 x0.2.1 x1.2.1)) (ku .i64 x0.2.2.1 x1.2.2.1),())
def yf:Int×Int×Int×Unit->Int->Comp A33:=fun x0 x1=>.pure ((ku .i64 x0.1 x1,ku .i64 x0.2.1 x1,ku .i64 x0.2.2.1 x1,()),())
def kY:Int×Int×Int×Unit->Int×Int×Int×Unit->Comp A33:=fun x0 x1=>.pure ((zG .i64 x0.1 x1.1,zG .i64 x0.2.1 x1.2.1,zG .i64 x0.2.2.1 x1.2.2.1,()),())
def zw:Int->Int->Comp A11:=fun x0 x1=>(Comp.loop (fun (x:A34)=>if neI x.2 0=true then (rem x.1 x.2).bind fun a=>.pure (.next (x.2,a)) else .pure (.done x.1)) (x0,x1)).bind fun x=>.pure (x,())
def vJ:A1×Int×Unit->A1×Int×Unit->A1×Int×Unit->Comp (A8×Bool×Unit):=fun x0 x1 x2=>(vb x1.1 x2.1).bind fun x=>(YG x0.1 x.1).bind fun x=>if eqI x.1 0=true then .pure ((0,0,0,0,()),false,()) else (vb x1.1 x2.1).bind fun a=>(yf a.1 x0.2.1).bind fun b=>(vb x2.1 x0.1).bind fun c=>(yf c.1 x1.2.1).bind fun d=>(kY b.1 d.1).bind fun e=>(vb x0.1 x1.1).bind fun f=>(yf f.1 x2.2.1).bind fun g=>(kY e.1 g.1).bind fun h=>jn (fun (x:A8)=>(zw (rW x.2.1 (Yw .i64 x.2.1)) (rW x.2.2.1 (Yw .i64 x.2.2.1))).bind fun i=>(zw (rW x.2.2.2.1 (Yw .i64 x.2.2.2.1)) x.1).bind fun k=>(zw i.1 k.1).bind fun l=>(quo .i64 x.2.1 l.1).bind fun m=>(quo .i64 x.2.2.1 l.1).bind fun n=>(quo .i64 x.2.2.2.1 l.1).bind fun o=>(quo .i64 x.1 l.1).bind fun x=>.pure ((m,n,o,x,()),true,())) fun (j:Int×Int×Int×Int×Unit->Comp (A8×Bool×Unit))=>if ltI x.1 0=true then (yf h.1 (Int.negSucc 0)).bind fun i=>j (Yw .i64 x.1,i.1) else j (x.1,h.1)
def zd:A1×Int×Unit->Int×Int×Int×Int×Unit->Comp A11:=fun x0 x1=>.pure (vu .i64 (vu .i64 (vu .i64 (ku .i64 x0.2.1 x1.2.2.2.1) (ku .i64 x0.1.1 x1.1)) (ku .i64 x0.1.2.1 x1.2.1)) (ku .i64 x0.1.2.2.1 x1.2.2.1),())
def gG:List A2->Int×Int×Int×Int×Unit->Comp A9:=fun x0 x1=>(Comp.loop (fun (x:Int)=>if ltI x (zD x0)=true then (idx x0 x).bind fun a=>(zd a x1).bind fun b=>if ltI b.1 0=true then .pure (.done (Sum.inr false)) else .pure (.next (zG .i64 x 1)) else .pure (.done (Sum.inl ()))) 0).bind fun (x:A22)=>match x with
   |.inl x=>.pure (true,())
   |.inr x=>.pure (x,())
def yy:List A8->Int×Int×Int×Int×Unit->Comp A9:=fun x0 x1=>(Comp.loop (fun (x:Int)=>if ltI x (zD x0)=true then (idx x0 x).bind fun a=>if adB (eqI a.1 x1.1) (adB (eqI a.2.1 x1.2.1) (adB (eqI a.2.2.1 x1.2.2.1) (eqI a.2.2.2.1 x1.2.2.2.1)))=true then .pure (.done (Sum.inr true)) else .pure (.next (zG .i64 x 1)) else .pure (.done (Sum.inl ()))) 0).bind fun (x:A22)=>match x with
   |.inl x=>.pure (false,())
   |.inr x=>.pure (x,())
def vi:List A2->Comp A42:=fun x0=>(Comp.loop (fun (x:List A8×Int)=>if ltI x.2 (zD x0)=true then (Comp.loop (fun (a:List A8×Int)=>if ltI a.2 (zD x0)=true then (Comp.loop (fun (b:List A8×Int)=>if ltI b.2 (zD x0)=true then (idx x0 x.2).bind fun x=>(idx x0 a.2).bind fun c=>(idx x0 b.2).bind fun d=>(vJ x c d).bind fun x=>(Comp.gd x.2.1 (gG x0 x.1) (false,())).bind fun e=>(Comp.gd (sel x.2.1 e.1 false) (yy b.1 x.1) (false,())).bind fun f=>jn (fun (x:List A8)=>.pure (.next (x,zG .i64 b.2 1))) fun (j:List A8->Comp (Comp.Step (List A8×Int) (List A8)))=>if sel (sel x.2.1 e.1 false) (ntB f.1) false=true then (app b.1 [x.1]).bind fun zs=>j zs else j b.1 else .pure (.done b.1)) (a.1,zG .i64 a.2 1)).bind fun x=>.pure (.next (x,zG .i64 a.2 1)) else .pure (.done a.1)) (x.1,zG .i64 x.2 1)).bind fun a=>.pure (.next (a,zG .i64 x.2 1)) else .pure (.done x.1)) ([],0)).bind fun x=>.pure (x,())
def gq:List A2->Comp A9:=fun x0=>(vi x0).bind fun y=>(Comp.loop (fun (x:Int)=>if ltI x (zD x0)=true then (Comp.loop (fun (a:Bool×Int)=>if ltI a.2 (zD y.1)=true then (Comp.gd (ntB a.1) (idx x0 x) ((0,0,0,()),0,())).bind fun x=>(Comp.gd (ntB a.1) (idx y.1 a.2) (0,0,0,0,())).bind fun b=>(Comp.gd (ntB a.1) (zd x b) (0,())).bind fun x=>.pure (.next (sel a.1 true (gtI x.1 0),zG .i64 a.2 1)) else .pure (.done a.1)) (false,0)).bind fun a=>if ntB a=true then .pure (.done (Sum.inr false)) else .pure (.next (zG .i64 x 1)) else .pure (.done (Sum.inl ()))) 0).bind fun (x:A22)=>match x with
    |.inl x=>.pure (true,())
    |.inr x=>.pure (x,())
def z6:List A2->Comp A9:=fun x0=>jn (fun (x:Bool)=>.pure (x,())) fun (j:Bool->Comp A9)=>(zX x0).bind fun x=>if eqI x.1 0=true then (gM x0).bind fun y=>(gq y.1).bind fun x=>j x.1 else j false
def j9:List A14->Comp (A7×Unit):=fun x0=>(Comp.loop (fun (x:Int×List A14)=>if sel (ltI x.1 (zD x0)) (ltI x.1 2) false=true then (idx x0 x.1).bind fun a=>(inb 2 x.1).bind fun b=>.pure (.next (zG .i64 x.1 1,jy x.2 x.1 a)) else .pure (.done x.2)) (0,[[],[]])).bind fun x=>(idx x 0).bind fun a=>(zF (a,0,()) (Int.ofNat 3)).bind fun y=>jn (fun (b:A41)=>(zF b.2 (Int.ofNat 3)).bind fun y_1=>(zF y_1.1.1 (Int.ofNat 3)).bind fun aB=>(Comp.loop (fun (x:Int×Int×A6×List Int×Int×Unit)=>if ltI x.2.1 (zG .i64 2 y.2.1)=true then (zF x.2.2.2 (Int.ofNat 4)).bind fun y=>(zq (x.1,0,0,()) (zG .i64 x.1 (zG .i64 1 y.2.1),3,zG .i64 2 aB.2.1,())).bind fun c=>(app x.2.2.1.2.1 [c.1]).bind fun zs=>jn (fun (d:A6)=>.pure (.next (zG .i64 x.1 (zG .i64 1 y.2.1),zG .i64 x.2.1 1,(d.1,d.2.1,d.2.2.1,()),y.1.1))) fun (j:List UInt8×List A3×List Int×Unit->Comp (Comp.Step (Int×Int×A6×List Int×Int×Unit) (A6×List Int×Int×Unit)))=>if b.1=true then (zq (x.1,3,0,()) (zG .i64 x.1 (zG .i64 1 y.2.1),6,zG .i64 2 aB.2.1,())).bind fun d=>(app zs [d.1]).bind fun zs=>j (x.2.2.1.1,zs,x.2.2.1.2.2.1,()) else j (x.2.2.1.1,zs,x.2.2.1.2.2.1,()) else .pure (.done ((x.2.2.1.1,x.2.2.1.2.1,x.2.2.1.2.2.1,()),x.2.2.2))) (zG .i64 (-6) y_1.2.1,0,([112],[],[],()),aB.1.1)).bind fun c=>jn (fun (d:A41)=>jn (fun (e:A6)=>(idx x 1).bind fun f=>(Comp.loop (fun (g:Int×A6×List Int×Int×Unit)=>if ltI g.1 (zD g.2.1.2.1)=true then (zF g.2.2 (Int.ofNat 4)).bind fun y=>(idx [2,1,3,2] y.2.1).bind fun x=>(app g.2.1.2.2.1 [x]).bind fun zs=>.pure (.next (zG .i64 g.1 1,(g.2.1.1,g.2.1.2.1,zs,()),y.1.1)) else .pure (.done (g.2.1.1,g.2.1.2.1,g.2.1.2.2.1,()))) (0,(e.1,e.2.1,e.2.2.1,()),f,0,())).bind fun x=>.pure ((x.1,x.2.1,x.2.2.1,()),())) fun (j:List UInt8×List A3×List Int×Unit->Comp (A6×Unit))=>if d.1=true then (zF d.2 (zD c.1.2.1)).bind fun y=>(zF y.1.1 (Int.ofNat 4)).bind fun oB=>(idx c.1.2.1 y.2.1).bind fun x=>(app [] x).bind fun zs=>(app zs [((0,1,1,()),zG .i64 2 oB.2.1,())]).bind fun zs=>(idx c.1.2.1 y.2.1).bind fun x=>(app [] x).bind fun zs_1=>(vK ((0,1,1,()),zG .i64 2 oB.2.1,())).bind fun x=>(app zs_1 [x.1]).bind fun dG=>(z6 zs).bind fun x=>(Comp.gd x.1 (z6 dG) (false,())).bind fun e=>jn (fun (x:A7)=>j (x.1,x.2.1,x.2.2.1,())) fun (j:List UInt8×List A3×List Int×Unit->Comp (A6×Unit))=>if sel x.1 e.1 false=true then (inb c.1.2.1.length y.2.1).bind fun x=>(app (jy c.1.2.1 y.2.1 zs) [dG]).bind fun zs=>j (c.1.1,zs,c.1.2.2.1,()) else j (c.1.1,c.1.2.1,c.1.2.2.1,()) else j (c.1.1,c.1.2.1,c.1.2.2.1,())) fun (j:Bool×List Int×Int×Unit->Comp (A6×Unit))=>(zF c.2 (Int.ofNat 4)).bind fun y=>if eqI y.2.1 3=true then j (ltI (zD c.1.2.1) 6,y.1.1) else j (false,y.1.1)) fun (j:Bool×List Int×Int×Unit->Comp (A6×Unit))=>(zF y.1.1 (Int.ofNat 3)).bind fun y_1=>if eqI y_1.2.1 2=true then j (ltI (zG .i64 2 y.2.1) 4,y_1.1.1) else j (false,y_1.1.1)
def vH:List A14->vE×List A3×List Int×Unit->Comp A19:=fun x0 x1=>(Comp.loop (fun (x:A21)=>if sel (ltI x.2 (zD x0)) (ltI x.2 4) false=true then (idx x0 x.2).bind fun a=>(zF (a,0,()) (Int.ofNat 4)).bind fun y=>(zF y.1.1 (zD x1.2.1)).bind fun y_1=>(idx x1.2.1 y_1.2.1).bind fun b=>(Mn [] b).bind fun zs=>jn (fun (c:List A2×List Int×Int×Unit)=>jn (fun (d:A3)=>(app x.1 [d]).bind fun zs=>.pure (.next (zs,zG .i64 x.2 1))) fun (j:List A2->Comp (Comp.Step A21 A18))=>if eqI y.2.1 2=true then (zF c.2 (Int.ofNat 14)).bind fun y=>(zF y.1.1 (Int.ofNat 3)).bind fun aB=>(zF aB.1.1 (Int.ofNat 2)).bind fun oB=>(zF oB.1.1 (Int.ofNat 6)).bind fun y_4=>(zF y_4.1.1 (Int.ofNat 6)).bind fun y_5=>(zF y_5.1.1 (Int.ofNat 6)).bind fun y_6=>(zq (vu .i64 y.2.1 7,vu .i64 aB.2.1 1,vu .i64 oB.2.1 1,()) (zG .i64 (zG .i64 (vu .i64 y.2.1 7) 1) y_4.2.1,zG .i64 (zG .i64 (vu .i64 aB.2.1 1) 2) y_5.2.1,zG .i64 (zG .i64 (vu .i64 oB.2.1 1) 2) y_6.2.1,())).bind fun y=>j y.1 else j c.1) fun (j:List A2×List Int×Int×Unit->Comp (Comp.Step A21 A18))=>if eqI y.2.1 1=true then (zF y_1.1.1 (Int.ofNat 2)).bind fun y=>(zF y.1.1 (Int.ofNat 2)).bind fun aB=>(app zs [((0,0,vu .i64 1 (ku .i64 2 y.2.1),()),ku .i64 (vu .i64 1 (ku .i64 2 y.2.1)) (zG .i64 1 aB.2.1),())]).bind fun zs=>j (zs,aB.1.1) else j (zs,y_1.1.1) else .pure (.done x.1)) ([],0)).bind fun x=>.pure (x,())
def zZ:List A2->List A2->Comp A9:=fun x0 x1=>(zX x0).bind fun x=>(Comp.gd (ntB (neI x.1 0)) (zX x1) (0,())).bind fun a=>if sel (neI x.1 0) true (neI a.1 0)=true then .pure (true,()) else (app [] x0).bind fun zs=>(app zs x1).bind fun zs=>(gM zs).bind fun y=>(gq y.1).bind fun x=>.pure (ntB x.1,())
def gP:vE×List A3×List Int×Unit->Comp A11:=fun x0=>if sel (ltI (zD x0.2.1) 1) true (gtI (zD x0.2.1) 16)=true then .pure (2,()) else if neI (zD x0.2.2.1) (zD x0.2.1)=true then .pure (1,()) else (Comp.loop (fun (x:Int)=>if ltI x (zD x0.2.2.1)=true then (idx x0.2.2.1 x).bind fun a=>(Comp.gd (ntB (ltI a 1)) (idx x0.2.2.1 x) (Int.ofNat 0)).bind fun b=>if sel (ltI a 1) true (gtI b 3)=true then .pure (.done (Sum.inr 1)) else .pure (.next (zG .i64 x 1)) else .pure (.done (Sum.inl ()))) 0).bind fun (x:A29)=>match x with
     |.inl x=>(Comp.loop (fun (x:Int)=>if ltI x (zD x0.2.1)=true then (idx x0.2.1 x).bind fun a=>(z6 a).bind fun b=>if ntB b.1=true then .pure (.done (Sum.inr 13)) else (Comp.loop (fun (c:Int)=>if ltI c x=true then (idx x0.2.1 c).bind fun d=>(idx x0.2.1 x).bind fun x=>(zZ d x).bind fun x=>if ntB x.1=true then .pure (.done (Sum.inr 13)) else .pure (.next (zG .i64 c 1)) else .pure (.done (Sum.inl ()))) 0).bind fun (c:A29)=>match c with
             |.inl d=>.pure (.next (zG .i64 x 1))
             |.inr x=>.pure (.done (Sum.inr x)) else .pure (.done (Sum.inl ()))) 0).bind fun (x:A29)=>match x with
       |.inl x=>.pure (0,())
       |.inr x=>.pure (x,())
     |.inr x=>.pure (x,())
def yb:List A3->Comp A11:=fun x0=>(Comp.loop (fun (x:Int)=>if ltI x (zD x0)=true then (idx x0 x).bind fun a=>(zX a).bind fun b=>if neI b.1 0=true then .pure (.done (Sum.inr b.1)) else .pure (.next (zG .i64 x 1)) else .pure (.done (Sum.inl ()))) 0).bind fun (x:A29)=>match x with
   |.inl x=>.pure (0,())
   |.inr x=>.pure (x,())
def gl:vE×List A3×List Int×Unit->List Bool×List Bool×List A3×Unit->Comp A9:=fun x0 x1=>(Comp.gd (sel (sel (eqI (zD x1.1) (zD x0.2.1)) (eqI (zD x1.2.1) (zD x0.2.1)) false) (leI (zD x1.2.2.1) 24) false) (yb x1.2.2.1) (0,())).bind fun x=>.pure (sel (sel (sel (eqI (zD x1.1) (zD x0.2.1)) (eqI (zD x1.2.1) (zD x0.2.1)) false) (leI (zD x1.2.2.1) 24) false) (eqI x.1 0) false,())
def gm:List A3->Comp A19:=fun x0=>(Comp.loop (fun (x:A21)=>if ltI x.2 (zD x0)=true then (idx x0 x.2).bind fun a=>(app [] a).bind fun zs=>(app x.1 [zs]).bind fun zs=>.pure (.next (zs,zG .i64 x.2 1)) else .pure (.done x.1)) ([],0)).bind fun x=>.pure (x,())
def yN:List A2->List A3->Comp A9:=fun x0 x1=>(Comp.loop (fun (x:Int)=>if ltI x (zD x1)=true then (idx x1 x).bind fun a=>(zZ x0 a).bind fun b=>if ntB b.1=true then .pure (.done (Sum.inr false)) else .pure (.next (zG .i64 x 1)) else .pure (.done (Sum.inl ()))) 0).bind fun (x:A22)=>match x with
   |.inl x=>.pure (true,())
   |.inr x=>.pure (x,())
def vZ:List A3->List A2->Comp A19:=fun x0 x1=>(Comp.loop (fun (x:A21)=>if ltI x.2 (zD x0)=true then (idx x0 x.2).bind fun a=>(zZ a x1).bind fun b=>jn (fun (c:A18)=>.pure (.next (c,zG .i64 x.2 1))) fun (j:List A3->Comp (Comp.Step A21 A18))=>if ntB b.1=true then (idx x0 x.2).bind fun c=>(app x.1 [c]).bind fun zs=>j zs else j x.1 else .pure (.done x.1)) ([],0)).bind fun x=>.pure (x,())
def jc:List A3->Comp A11:=fun x0=>if gtI (zD x0) 16=true then .pure (2,()) else (Comp.loop (fun (x:Int)=>if ltI x (zD x0)=true then (idx x0 x).bind fun a=>(zX a).bind fun b=>if neI b.1 0=true then .pure (.done (Sum.inr b.1)) else .pure (.next (zG .i64 x 1)) else .pure (.done (Sum.inl ()))) 0).bind fun (x:A29)=>match x with
    |.inl x=>.pure (0,())
    |.inr x=>.pure (x,())
def jC:List A2->Comp A42:=fun x0=>(zX x0).bind fun x=>if neI x.1 0=true then .pure ([],()) else (gM x0).bind fun y=>(vi y.1).bind fun y=>.pure (y.1,())
def y8:A1×Int×Unit->A1×Int×Unit->Comp A11:=fun x0 x1=>(Comp.loop (fun (x:Int)=>if ltI x 4=true then (idx [x0.1.1,x0.1.2.1,x0.1.2.2.1,x0.2.1] x).bind fun a=>(idx [x1.1.1,x1.1.2.1,x1.1.2.2.1,x1.2.1] x).bind fun b=>if ltI a b=true then .pure (.done (Sum.inr (-1))) else (idx [x0.1.1,x0.1.2.1,x0.1.2.2.1,x0.2.1] x).bind fun c=>(idx [x1.1.1,x1.1.2.1,x1.1.2.2.1,x1.2.1] x).bind fun d=>if gtI c d=true then .pure (.done (Sum.inr 1)) else .pure (.next (zG .i64 x 1)) else .pure (.done (Sum.inl ()))) 0).bind fun (x:A29)=>match x with
   |.inl x=>.pure (0,())
   |.inr x=>.pure (x,())
def jM:List A2->A1×Int×Unit->Comp A12:=fun x0 x1=>(Comp.loop (fun (x:Int)=>(Comp.gd (ltI x (zD x0)) (idx x0 x) ((0,0,0,()),0,())).bind fun a=>(Comp.gd (ltI x (zD x0)) (y8 a x1) (0,())).bind fun b=>if sel (ltI x (zD x0)) (ltI b.1 0) false=true then .pure (.next (zG .i64 x 1)) else .pure (.done x)) 0).bind fun x=>(Comp.gd (ltI x (zD x0)) (idx x0 x) ((0,0,0,()),0,())).bind fun a=>if sel (ltI x (zD x0)) (adB (adB (eqI a.1.1 x1.1.1) (adB (eqI a.1.2.1 x1.1.2.1) (eqI a.1.2.2.1 x1.1.2.2.1))) (eqI a.2.1 x1.2.1)) false=true then .pure (x0,()) else (sub x0 0 x).bind fun b=>(app [] b).bind fun zs=>(app zs [x1]).bind fun zs=>(sub x0 x (zD x0)).bind fun x=>(app zs x).bind fun zs=>.pure (zs,())
def zm:List A2->Comp A12:=fun x0=>(z6 x0).bind fun x=>if ntB x.1=true then .pure ([],()) else (jC x0).bind fun y=>(Comp.loop (fun (a:A35)=>if ltI a.2 (zD x0)=true then (Comp.loop (fun (b:A34)=>if ltI b.2 (zD y.1)=true then (idx x0 a.2).bind fun x=>(idx y.1 b.2).bind fun c=>(zd x c).bind fun x=>jn (fun (x:Int)=>.pure (.next (x,zG .i64 b.2 1))) fun (j:Int->Comp (Comp.Step A34 Int))=>if eqI x.1 0=true then j (zG .i64 b.1 1) else j b.1 else .pure (.done b.1)) (0,0)).bind fun x=>jn (fun (x:A3)=>.pure (.next (x,zG .i64 a.2 1))) fun (j:List A2->Comp (Comp.Step A35 A3))=>if geI x 3=true then (idx x0 a.2).bind fun x=>(jM a.1 x).bind fun x=>j x.1 else j a.1 else .pure (.done a.1)) ([],0)).bind fun x=>.pure (x,())
def yM:List A2->A1×Int×Unit->Comp A12:=fun x0 x1=>(app [] x0).bind fun zs=>(app zs [x1]).bind fun zs=>.pure (zs,())
def gQ:List A2->List A2->Comp A24:=fun x0 x1=>(Comp.loop (fun (x:List A3×List A2×Int)=>if ltI x.2.2 (zD x1)=true then if geI (zD x.2.1) 48=true then .pure (.done (Sum.inr ([],9))) else (idx x1 x.2.2).bind fun a=>(vK a).bind fun b=>(yM x.2.1 b.1).bind fun y=>(zm y.1).bind fun c=>jn (fun (d:A18)=>(idx x1 x.2.2).bind fun e=>(yM x.2.1 e).bind fun y=>(zm y.1).bind fun f=>.pure (.next (d,f.1,zG .i64 x.2.2 1))) fun (j:List A3->Comp (Comp.Step (List A3×List A2×Int) A40))=>if gtI (zD c.1) 0=true then (app x.1 [c.1]).bind fun zs=>j zs else j x.1 else .pure (.done (Sum.inl x.1))) ([],x0,0)).bind fun (x:A40)=>match x with
   |.inl x=>.pure (x,0,())
   |.inr x=>.pure (x.1,x.2,())
def y7:List A3->List A2->Comp A24:=fun x0 x1=>(z6 x1).bind fun x=>if ntB x.1=true then .pure (x0,0,()) else (Comp.loop (fun (x:A21)=>if ltI x.2 (zD x0)=true then jn (fun (a:A18)=>.pure (.next (a,zG .i64 x.2 1))) fun (j:List A3->Comp (Comp.Step A21 A40))=>(idx x0 x.2).bind fun a=>(zZ a x1).bind fun b=>if b.1=true then (idx x0 x.2).bind fun c=>(app x.1 [c]).bind fun zs=>j zs else (idx x0 x.2).bind fun c=>(zm x1).bind fun d=>(gQ c d.1).bind fun e=>if neI e.2.1 0=true then .pure (.done (Sum.inr ([],e.2.1))) else (app x.1 e.1).bind fun zs=>j zs else .pure (.done (Sum.inl x.1))) ([],0)).bind fun (a:A40)=>match a with
     |.inl b=>if gtI (zD b) 200=true then .pure ([],9,()) else .pure (b,0,())
     |.inr x=>.pure (x.1,x.2,())
def ja:List A2->List A3->Comp A24:=fun x0 x1=>(zX x0).bind fun x=>jn (fun (x:Int)=>if neI x 0=true then .pure ([],x,()) else (z6 x0).bind fun x=>jn (fun (x:A18)=>(Comp.loop (fun (x:A21)=>if ltI x.2 (zD x1)=true then (idx x1 x.2).bind fun a=>(y7 x.1 a).bind fun b=>if neI b.2.1 0=true then .pure (.done (Sum.inr ([],b.2.1))) else .pure (.next (b.1,zG .i64 x.2 1)) else .pure (.done (Sum.inl x.1))) (x,0)).bind fun (x:A40)=>match x with
          |.inl x=>.pure (x,0,())
          |.inr x=>.pure (x.1,x.2,())) fun (j:List A3->Comp A24)=>if x.1=true then (zm x0).bind fun x=>(app [] [x.1]).bind fun zs=>j zs else j []) fun (j:Int->Comp A24)=>if eqI x.1 0=true then (jc x1).bind fun x=>j x.1 else j x.1
def ye:List A3->List A2->Comp A20:=fun x0 x1=>(ja x1 x0).bind fun x=>.pure (sel (eqI x.2.1 0) (eqI (zD x.1) 0) false,x.2.1,())
def jZ:vE×List A3×List Int×Unit->List Bool×List Bool×List A3×Unit->List A3->List A3->Comp (A5×Int×Unit):=fun x0 x1 x2 x3=>(gP x0).bind fun x=>if neI x.1 0=true then .pure (([],[],[],()),x.1,()) else (gl x0 x1).bind fun x=>if ntB x.1=true then .pure (([],[],[],()),4,()) else (yb x2).bind fun x=>jn (fun (x:Int)=>if neI x 0=true then .pure (([],[],[],()),x,()) else if gtI (zG .i64 (zD x1.2.2.1) (zD x2)) 24=true then .pure (([],[],[],()),2,()) else (gm x1.2.2.1).bind fun y=>(gm x2).bind fun y_1=>(app y.1 y_1.1).bind fun zs=>(Comp.loop (fun (x:Int×A5×List Bool×List Bool×List A3×Unit)=>if ltI x.1 (zD x0.2.1)=true then (idx x0.2.1 x.1).bind fun a=>(idx x1.2.1 x.1).bind fun b=>(Comp.gd (ntB b) (yN a x2) (false,())).bind fun c=>(Comp.gd (ntB (sel b true (ntB c.1))) (yN a x3) (false,())).bind fun d=>(app x.2.2.2.1 [sel (sel b true (ntB c.1)) true (ntB d.1)]).bind fun zs=>(idx x1.1 x.1).bind fun e=>jn (fun (f:Bool×List Bool×List Bool×List A3×Unit)=>(app x.2.2.1 [f.1]).bind fun zs_1=>.pure (.next (zG .i64 x.1 1,f.2,zs_1,zs,x.2.2.2.2.1,()))) fun (j:Bool×List Bool×List Bool×List A3×Unit->Comp (Comp.Step (Int×A5×List Bool×List Bool×List A3×Unit) A44))=>if ntB e=true then (vZ x.2.2.2.2.1 a).bind fun y=>(ye y.1 a).bind fun f=>if neI f.2.1 0=true then .pure (.done (Sum.inr (f.2.1,[],[],[],()))) else j (f.1,x.2.1) else j (e,x.2.1) else .pure (.done (Sum.inl (x.2.1,x.2.2.1,x.2.2.2.1,x.2.2.2.2.1,())))) (0,([],[],[],()),[],[],zs,())).bind fun (x:A5×List Bool×List Bool×List A3×Unit⊕Int×List Bool×List Bool×List A3×Unit)=>match x with
               |.inl x=>.pure ((x.2.1,x.2.2.1,x.2.2.2.1,()),0,())
               |.inr x=>.pure (x.2,x.1,())) fun (j:Int->Comp (A5×Int×Unit))=>if eqI x.1 0=true then (yb x3).bind fun x=>j x.1 else j x.1
def vF:vE×List A3×List Int×Unit->List Int->Int->Comp (A4×Unit):=fun x0 x1 x2=>(zF (x1,0,()) (Int.ofNat 6)).bind fun y=>jn (fun (x:A41)=>jn (fun (a:A4)=>(zF x.2 (Int.ofNat 5)).bind fun y=>(Comp.loop (fun (x:Int×A4×List Int×Int×Unit)=>if ltI x.1 (zD x0.2.1)=true then (zF x.2.2 (Int.ofNat 2)).bind fun y_1=>(idx x0.2.2.1 x.1).bind fun b=>jn (fun (c:A41)=>jn (fun (d:List A3×List A3×Int×List Int×Unit)=>.pure (.next (zG .i64 x.1 1,(d.1,d.2.1,d.2.2.1,d.2.2.2.1,()),c.2))) fun (j:List A3×List A3×Int×List Int×Unit->Comp (Comp.Step (Int×A4×List Int×Int×Unit) A4))=>if c.1=true then (idx x0.2.1 x.1).bind fun d=>(app [] d).bind fun zs=>(app x.2.1.1 [zs]).bind fun zs=>j (zs,x.2.1.2.1,x.2.1.2.2.1,x.2.1.2.2.2.1,()) else j (x.2.1.1,x.2.1.2.1,x.2.1.2.2.1,x.2.1.2.2.2.1,())) fun (j:Bool×List Int×Int×Unit->Comp (Comp.Step (Int×A4×List Int×Int×Unit) A4))=>if eqI b 1=true then jn (fun (x:A41)=>j (x.1,x.2)) fun (j:Bool×List Int×Int×Unit->Comp (Comp.Step (Int×A4×List Int×Int×Unit) A4))=>if eqI y.2.1 4=true then (zF y_1.1.1 (Int.ofNat 3)).bind fun y=>j (eqI y.2.1 2,y.1.1) else j (false,y_1.1.1) else j (eqI y_1.2.1 1,y_1.1.1) else .pure (.done (x.2.1.1,x.2.1.2.1,x.2.1.2.2.1,x.2.1.2.2.2.1,()))) (0,(a.1,a.2.1,a.2.2.1,a.2.2.2.1,()),y.1.1)).bind fun x=>jn (fun (x:List A3×List A3×Int×List Int×Unit)=>jn (fun (x:List A3×List A3×Int×List Int×Unit)=>.pure ((x.1,x.2.1,x.2.2.1,x.2.2.2.1,()),())) fun (j:List A3×List A3×Int×List Int×Unit->Comp (A4×Unit))=>if eqI y.2.1 2=true then (sub x1 (D5 (zD x1) 5) (zD x1)).bind fun b=>(vH [b] x0).bind fun y=>j (x.1,y.1,x.2.2.1,x.2.2.2.1,()) else j (x.1,x.2.1,x.2.2.1,x.2.2.2.1,())) fun (j:List A3×List A3×Int×List Int×Unit->Comp (A4×Unit))=>if eqI y.2.1 3=true then (sub x1 (D5 (zD x1) 4) (zD x1)).bind fun b=>(vH [b] x0).bind fun c=>(app x.1 c.1).bind fun zs=>j (zs,x.2.1,x.2.2.1,x.2.2.2.1,()) else j (x.1,x.2.1,x.2.2.1,x.2.2.2.1,())) fun (j:List A3×List A3×Int×List Int×Unit->Comp (A4×Unit))=>if x.1=true then j ([],[],zG .i64 1 y.2.1,[vu .i64 x2 1],()) else j ([],[],zG .i64 1 y.2.1,[],())) fun (j:Bool×List Int×Int×Unit->Comp (A4×Unit))=>if gtI x2 0=true then (zF y.1.1 (Int.ofNat 5)).bind fun y=>j (eqI y.2.1 4,y.1.1) else j (false,y.1.1)
def jQ:List Int->Comp A9:=fun x0=>(Comp.loop (fun (x:Int)=>if ltI x (zD x0)=true then (idx x0 x).bind fun a=>(idx x0 (vu .i64 x 1)).bind fun b=>if leI a b=true then .pure (.done (Sum.inr false)) else .pure (.next (zG .i64 x 1)) else .pure (.done (Sum.inl ()))) 1).bind fun (x:A22)=>match x with
   |.inl x=>.pure (true,())
   |.inr x=>.pure (x,())
def gA:List A4->Int->Comp A11:=fun x0 x1=>(idx x0 x1).bind fun x=>(app [] x.1).bind fun zs=>(app zs x.2.1).bind fun zs_1=>(Comp.loop (fun (a:Int)=>if ltI a (zD zs_1)=true then (idx zs_1 a).bind fun x=>(zX x).bind fun x=>if neI x.1 0=true then .pure (.done (Sum.inr x.1)) else .pure (.next (zG .i64 a 1)) else .pure (.done (Sum.inl ()))) 0).bind fun (a:A29)=>match a with
      |.inl b=>if sel (ltI x.2.2.1 1) true (gtI x.2.2.1 1048576)=true then .pure (3,()) else (Comp.loop (fun (c:Int)=>if ltI c (zD x.2.2.2.1)=true then (idx x.2.2.2.1 c).bind fun d=>(Comp.gd (ntB (ltI d 0)) (idx x.2.2.2.1 c) (Int.ofNat 0)).bind fun e=>(Comp.gd (ntB (sel (ltI d 0) true (geI e (zD x0)))) (idx x.2.2.2.1 c) (Int.ofNat 0)).bind fun f=>if sel (sel (ltI d 0) true (geI e (zD x0))) true (eqI f x1)=true then .pure (.done (Sum.inr 3)) else .pure (.next (zG .i64 c 1)) else .pure (.done (Sum.inl ()))) 0).bind fun (c:A29)=>match c with
         |.inl d=>(jQ x.2.2.2.1).bind fun x=>if ntB x.1=true then .pure (7,()) else .pure (0,())
         |.inr x=>.pure (x,())
      |.inr x=>.pure (x,())
def yx:A7×A5×List A4×Unit->Comp A11:=fun x0=>(gP x0.1).bind fun x=>if neI x.1 0=true then .pure (x.1,()) else (gl x0.1 x0.2.1).bind fun x=>if ntB x.1=true then .pure (4,()) else if gtI (zD x0.2.2.1) 8=true then .pure (2,()) else (Comp.loop (fun (x:A34)=>if ltI x.2 (zD x0.2.2.1)=true then (gA x0.2.2.1 x.2).bind fun a=>if neI a.1 0=true then .pure (.done (Sum.inr a.1)) else (idx x0.2.2.1 x.2).bind fun b=>.pure (.next (zG .i64 x.1 (zD b.1),zG .i64 x.2 1)) else .pure (.done (Sum.inl x.1))) (zD x0.2.1.2.2.1,0)).bind fun (x:Int⊕Int)=>match x with
        |.inl x=>if gtI x 24=true then .pure (2,()) else .pure (0,())
        |.inr x=>.pure (x,())
def j8:List A14->Comp (A16×Unit):=fun x0=>(sub x0 0 (D5 (zD x0) 2)).bind fun x=>(j9 x).bind fun a=>(jL a.1).bind fun b=>jn (fun (c:A6×A5×List A4×Unit)=>(Comp.loop (fun (x:Int×A6×A5×List A4×Unit)=>if sel (ltI x.1 (zD x0)) (ltI x.1 7) false=true then (idx x0 x.1).bind fun d=>(vF a.1 d (vu .i64 x.1 3)).bind fun e=>(app x.2.2.2.1 [e.1]).bind fun zs=>.pure (.next (zG .i64 x.1 1,x.2.1,x.2.2.1,zs,())) else .pure (.done (x.2.1,x.2.2.1,x.2.2.2.1,()))) (3,c.1,c.2.1,c.2.2.1,())).bind fun d=>jn (fun (e:A6×A5×List A4×Unit)=>(Comp.loop (fun (f:A6×A5×List A4×Unit)=>(Comp.gd (gtI (zD f.2.2.1) 1) (yx (f.1,f.2.1,f.2.2.1,())) (0,())).bind fun g=>if sel (gtI (zD f.2.2.1) 1) (eqI g.1 2) false=true then jn (fun (x:A6×A5×List A4×Unit)=>.pure (.next (x.1,x.2.1,x.2.2.1,()))) fun (j:A6×A5×List A4×Unit->Comp (Comp.Step A13 A13))=>(sub f.2.2.1 0 (vu .i64 (zD f.2.2.1) 1)).bind fun ys=>j (f.1,f.2.1,ys,()) else .pure (.done (f.1,f.2.1,f.2.2.1,()))) (e.1,e.2.1,e.2.2.1,())).bind fun x=>.pure ((x.1,x.2.1,x.2.2.1,()),())) fun (j:A6×A5×List A4×Unit->Comp (A13×Unit))=>if eqI (zD d.2.2.1) 0=true then (vF a.1 [] (Int.ofNat 0)).bind fun x=>(app d.2.2.1 [x.1]).bind fun zs=>j (d.1,d.2.1,zs,()) else j (d.1,d.2.1,d.2.2.1,())) fun (j:A6×A5×List A4×Unit->Comp (A13×Unit))=>if gtI (zD x0) 2=true then (idx x0 2).bind fun x=>(zF (x,0,()) (Int.ofNat 3)).bind fun y=>jn (fun (x:A6×A5×List A4×Unit)=>j (x.1,x.2.1,x.2.2.1,())) fun (j:A6×A5×List A4×Unit->Comp (A13×Unit))=>if eqI y.2.1 2=true then (idx x0 2).bind fun x=>(idx x0 2).bind fun c=>(sub x (D5 (zD c) 1) (zD x)).bind fun x=>(vH [x] a.1).bind fun x=>(jZ a.1 b.1 x.1 []).bind fun x=>jn (fun (x:A6×A5×List A4×Unit)=>j (x.1,x.2.1,x.2.2.1,())) fun (j:A6×A5×List A4×Unit->Comp (A13×Unit))=>if eqI x.2.1 0=true then j (a.1,x.1,[],()) else j (a.1,b.1,[],()) else j (a.1,b.1,[],()) else j (a.1,b.1,[],())
def kK(recF:Int->Int->Comp A37):Int->Int->Comp A37:=fun x0 x1=>(Comp.loop (fun (x:List A14×Int)=>if ltI x.2 x1=true then (recF (zG .i64 x.2 1) x1).bind fun y=>(Comp.loop (fun (a:List A14×Int)=>if ltI a.2 (zD y.1)=true then (idx y.1 a.2).bind fun b=>(app [x.2] b).bind fun zs=>(app a.1 [zs]).bind fun zs=>.pure (.next (zs,zG .i64 a.2 1)) else .pure (.done a.1)) (x.1,0)).bind fun a=>.pure (.next (a,zG .i64 x.2 1)) else .pure (.done x.1)) ([[]],x0)).bind fun x=>.pure (x,())
def jY:Nat->Int->Int->Comp A37:=nj (fun _ _=>Comp.fail) kK
def jB:A7×A5×List A4×Unit->List A3×List A3×Int×List Int×Unit->Comp A9:=fun x0 x1=>(Comp.loop (fun (x:Int)=>if ltI x (zD x0.1.2.1)=true then (idx x0.1.2.2.1 x).bind fun a=>(Comp.gd (eqI a 1) (idx x0.1.2.1 x) []).bind fun b=>(Comp.gd (eqI a 1) (yN b x1.1) (false,())).bind fun c=>(Comp.gd (adB (ntB (ntB c.1)) (eqI a 1)) (idx x0.1.2.1 x) []).bind fun d=>(Comp.gd (adB (ntB (ntB c.1)) (eqI a 1)) (yN d x1.2.1) (false,())).bind fun e=>if sel (eqI a 1) (sel (ntB c.1) true (ntB e.1)) false=true then .pure (.done (Sum.inr true)) else .pure (.next (zG .i64 x 1)) else .pure (.done (Sum.inl ()))) 0).bind fun (x:A22)=>match x with
   |.inl x=>.pure (false,())
   |.inr x=>.pure (x,())
def gC:A7×A5×List A4×Unit->Comp A39:=fun x0=>(Comp.loop (fun (x:List Bool×Int)=>if ltI x.2 (zD x0.2.2.1)=true then (idx x0.2.2.1 x.2).bind fun a=>(jB x0 a).bind fun b=>(app x.1 [b.1]).bind fun zs=>.pure (.next (zs,zG .i64 x.2 1)) else .pure (.done x.1)) ([],0)).bind fun x=>.pure (x,())
def yI:List Int->Int->Comp A9:=fun x0 x1=>(Comp.loop (fun (x:Int)=>if ltI x (zD x0)=true then (idx x0 x).bind fun a=>if eqI a x1=true then .pure (.done (Sum.inr true)) else .pure (.next (zG .i64 x 1)) else .pure (.done (Sum.inl ()))) 0).bind fun (x:A22)=>match x with
   |.inl x=>.pure (false,())
   |.inr x=>.pure (x,())
def gh:A7×A5×List A4×Unit->List Bool->List Int->Comp A9:=fun x0 x1 x2=>(Comp.loop (fun (x:Int)=>if ltI x (zD x2)=true then (idx x2 x).bind fun a=>(idx x0.2.2.1 a).bind fun b=>(idx x2 x).bind fun c=>(idx x1 c).bind fun d=>if d=true then .pure (.done (Sum.inr false)) else (Comp.loop (fun (x:Int)=>if ltI x (zD b.2.2.2.1)=true then (idx b.2.2.2.1 x).bind fun e=>(yI x2 e).bind fun f=>if ntB f.1=true then .pure (.done (Sum.inr false)) else .pure (.next (zG .i64 x 1)) else .pure (.done (Sum.inl ()))) 0).bind fun (e:A22)=>match e with
           |.inl f=>.pure (.next (zG .i64 x 1))
           |.inr x=>.pure (.done (Sum.inr x)) else .pure (.done (Sum.inl ()))) 0).bind fun (x:A22)=>match x with
   |.inl x=>.pure (true,())
   |.inr x=>.pure (x,())
def vz:A7×A5×List A4×Unit->List Int->Comp A20:=fun x0 x1=>(app [] x0.2.1.2.2.1).bind fun zs=>(Comp.loop (fun (x:A21)=>if ltI x.2 (zD x1)=true then (idx x1 x.2).bind fun a=>(idx x0.2.2.1 a).bind fun b=>(app x.1 b.1).bind fun zs=>.pure (.next (zs,zG .i64 x.2 1)) else .pure (.done x.1)) (zs,0)).bind fun x=>(Comp.loop (fun (a:Int)=>if ltI a (zD x0.1.2.1)=true then jn (fun (x:Unit)=>.pure (.next (zG .i64 a 1))) fun (j:Unit->Comp (Comp.Step Int (Unit⊕Bool×Int)))=>(idx x0.1.2.2.1 a).bind fun b=>(Comp.gd (ntB (neI b 2)) (idx x0.2.1.1 a) false).bind fun c=>if sel (neI b 2) true c=true then j () else (Comp.loop (fun (d:A21)=>if ltI d.2 (zD x)=true then (idx x d.2).bind fun e=>(idx x0.1.2.1 a).bind fun f=>(zZ e f).bind fun g=>jn (fun (x:A18)=>.pure (.next (x,zG .i64 d.2 1))) fun (j:List A3->Comp (Comp.Step A21 A18))=>if ntB g.1=true then (idx x d.2).bind fun x=>(app d.1 [x]).bind fun zs=>j zs else j d.1 else .pure (.done d.1)) ([],0)).bind fun x=>(idx x0.1.2.1 a).bind fun d=>(ye x d).bind fun x=>if sel (neI x.2.1 0) true (ntB x.1)=true then .pure (.done (Sum.inr (false,x.2.1))) else j () else .pure (.done (Sum.inl ()))) 0).bind fun (x:Unit⊕Bool×Int)=>match x with
     |.inl x=>.pure (true,0,())
     |.inr x=>.pure (x.1,x.2,())
def yV:A7×A5×List A4×Unit->List Int->Comp A11:=fun x0 x1=>(Comp.loop (fun (x:A34)=>if ltI x.2 (zD x1)=true then (idx x1 x.2).bind fun a=>(idx x0.2.2.1 a).bind fun b=>.pure (.next (zG .i64 x.1 b.2.2.1,zG .i64 x.2 1)) else .pure (.done x.1)) (0,0)).bind fun x=>.pure (x,())
def j7:A7×A5×List A4×Unit->List Bool->List Int->Comp A27:=fun x0 x1 x2=>(Comp.loop (fun (x:A47)=>if ltI x.2 (zD x0.2.2.1)=true then (yI x2 x.2).bind fun a=>(Comp.gd (ntB a.1) (idx x1 x.2) false).bind fun b=>jn (fun (c:A14)=>.pure (.next (c,zG .i64 x.2 1))) fun (j:List Int->Comp (Comp.Step A47 A14))=>if sel (ntB a.1) (ntB b) false=true then (app x.1 [x.2]).bind fun zs=>j zs else j x.1 else .pure (.done x.1)) ([],0)).bind fun x=>(Comp.loop (fun (a:A14)=>(Comp.loop (fun (b:A34)=>if sel (ltI b.2 (zD a)) (ltI b.1 0) false=true then (idx a b.2).bind fun x=>(idx x0.2.2.1 x).bind fun x=>(Comp.loop (fun (c:A34)=>if ltI c.2 (zD x.2.2.2.1)=true then (idx x.2.2.2.1 c.2).bind fun x=>(yI a x).bind fun x=>jn (fun (x:Int)=>.pure (.next (x,zG .i64 c.2 1))) fun (j:Int->Comp (Comp.Step A34 Int))=>if ntB x.1=true then j b.2 else j c.1 else .pure (.done c.1)) (b.1,0)).bind fun x=>.pure (.next (x,zG .i64 b.2 1)) else .pure (.done b.1)) (-1,0)).bind fun x=>if ltI x 0=true then .pure (.done a) else (sub a 0 x).bind fun b=>(sub a (zG .i64 x 1) (zD a)).bind fun x=>(app [] b).bind fun zs=>(app zs x).bind fun zs=>.pure (.next zs)) x).bind fun x=>.pure (x,())
def vY:A7×A5×List A4×Unit->List Bool->List Int->List Int->Comp A9:=fun x0 x1 x2 x3=>(j7 x0 x1 x3).bind fun y=>(Comp.loop (fun (x:Int)=>if ltI x (zD x2)=true then (idx x2 x).bind fun a=>(yI y.1 a).bind fun b=>if ntB b.1=true then .pure (.done (Sum.inr true)) else .pure (.next (zG .i64 x 1)) else .pure (.done (Sum.inl ()))) 0).bind fun (x:A22)=>match x with
    |.inl x=>(vz x0 y.1).bind fun x=>.pure (sel (eqI x.2.1 0) (ntB x.1) false,())
    |.inr x=>.pure (x,())
def kb(recF:A7×A5×List A4×Unit->List Bool->Int->List Int->List Int->Int->Comp A23):A7×A5×List A4×Unit->List Bool->Int->List Int->List Int->Int->Comp A23:=fun x0 x1 x2 x3 x4 x5=>(Comp.gd (gtI x2 0) (yV x0 x3) (0,())).bind fun x=>if sel (gtI x2 0) (geI x.1 x2) false=true then .pure ([(2,0,())],()) else (vY x0 x1 x3 x4).bind fun x=>if sel x.1 true (geI x5 (zD x0.2.2.1))=true then .pure ([(3,0,())],()) else (app [] x3).bind fun zs=>(app zs [x5]).bind fun zs=>(recF x0 x1 x2 zs x4 (zG .i64 x5 1)).bind fun y=>(Mn [(1,x5,())] y.1).bind fun zs=>(app [] x4).bind fun zs_1=>(app zs_1 [x5]).bind fun dG=>(recF x0 x1 x2 x3 dG (zG .i64 x5 1)).bind fun y=>(app zs y.1).bind fun zs=>.pure (zs,())
def vy:Nat->A7×A5×List A4×Unit->List Bool->Int->List Int->List Int->Int->Comp A23:=nj (fun _ _ _ _ _ _=>Comp.fail) kb
def gk:A7×A5×List A4×Unit->Comp A17:=fun x0=>(yx x0).bind fun x=>if neI x.1 0=true then .pure ([],0,[],x.1,()) else (jY 40 (Int.ofNat 0) (zD x0.2.2.1)).bind fun y=>(gC x0).bind fun y_1=>(Comp.loop (fun (a:List Int×Int×Int)=>if ltI a.2.2 (zD y.1)=true then jn (fun (x:A47)=>.pure (.next (x.1,x.2,zG .i64 a.2.2 1))) fun (j:List Int×Int->Comp (Comp.Step (List Int×Int×Int) A43))=>(idx y.1 a.2.2).bind fun x=>(gh x0 y_1.1 x).bind fun x=>if ntB x.1=true then j (a.1,a.2.1) else (idx y.1 a.2.2).bind fun x=>(vz x0 x).bind fun x=>if neI x.2.1 0=true then .pure (.done (Sum.inr ([],0,[],x.2.1))) else (Comp.gd (adB (ntB (ltI a.2.1 0)) x.1) (idx y.1 a.2.2) []).bind fun b=>(Comp.gd (adB (ntB (ltI a.2.1 0)) x.1) (yV x0 b) (0,())).bind fun c=>jn (fun (x:A47)=>j (x.1,x.2)) fun (j:List Int×Int->Comp (Comp.Step (List Int×Int×Int) A43))=>if sel x.1 (sel (ltI a.2.1 0) true (ltI c.1 a.2.1)) false=true then (idx y.1 a.2.2).bind fun x=>(yV x0 x).bind fun d=>j (x,d.1) else j (a.1,a.2.1) else .pure (.done (Sum.inl (a.1,a.2.1)))) ([], -1,0)).bind fun (x:A43)=>match x with
       |.inl x=>if ltI x.2 0=true then (vy 40 x0 y_1.1 (Int.ofNat 0) [] [] (Int.ofNat 0)).bind fun y=>.pure ([],0,y.1,60,()) else if eqI x.2 0=true then .pure ([],0,[],0,()) else (vy 40 x0 y_1.1 x.2 [] [] (Int.ofNat 0)).bind fun y=>.pure (x.1,x.2,y.1,0,())
       |.inr x=>.pure (x.1,x.2.1,x.2.2.1,x.2.2.2,())
def gU:List Int->Comp A23:=fun x0=>(Comp.loop (fun (x:List A10×Int)=>if sel (ltI x.2 (zD x0)) (ltI x.2 15) false=true then (idx x0 x.2).bind fun a=>(rem (IB .i64 a) 3).bind fun b=>(Comp.gd (ntB (eqI (zG .i64 1 b) 1)) (idx x0 x.2) (Int.ofNat 0)).bind fun c=>jn (fun (d:A10)=>(app x.1 [d]).bind fun zs=>.pure (.next (zs,zG .i64 x.2 1))) fun (j:Int×Int×Unit->Comp (Comp.Step (List A10×Int) A30))=>if sel (eqI (zG .i64 1 b) 1) true (gtI c 250)=true then (idx x0 x.2).bind fun x=>(quo .i64 (IB .i64 x) 3).bind fun x=>(rem x 5).bind fun x=>j (zG .i64 1 b,x,()) else j (zG .i64 1 b,0,()) else .pure (.done x.1)) ([],0)).bind fun x=>.pure (x,())
def vR(recF:A7×A5×List A4×Unit->List Bool->Int->List A10->Int->List Int->List Int->Comp A11):A7×A5×List A4×Unit->List Bool->Int->List A10->Int->List Int->List Int->Comp A11:=fun x0 x1 x2 x3 x4 x5 x6=>if sel (ltI x4 0) true (geI x4 (zD x3))=true then .pure (-1,()) else (idx x3 x4).bind fun x=>(Comp.gd (sel (sel (eqI x.1 1) (geI x.2.1 0) false) (ltI x.2.1 (zD x0.2.2.1)) false) (yI x5 x.2.1) (false,())).bind fun a=>(Comp.gd (sel (sel (sel (eqI x.1 1) (geI x.2.1 0) false) (ltI x.2.1 (zD x0.2.2.1)) false) (ntB a.1) false) (yI x6 x.2.1) (false,())).bind fun b=>if sel (sel (sel (sel (eqI x.1 1) (geI x.2.1 0) false) (ltI x.2.1 (zD x0.2.2.1)) false) (ntB a.1) false) (ntB b.1) false=true then (app [] x5).bind fun zs=>(app zs [x.2.1]).bind fun zs=>(recF x0 x1 x2 x3 (zG .i64 x4 1) zs x6).bind fun c=>(app [] x6).bind fun zs=>(app zs [x.2.1]).bind fun zs=>(recF x0 x1 x2 x3 c.1 x5 zs).bind fun x=>.pure (x.1,()) else (Comp.gd (sel (eqI x.1 2) (gtI x2 0) false) (yV x0 x5) (0,())).bind fun c=>(Comp.gd (adB (eqI x.1 3) (adB (ntB (sel (sel (eqI x.1 2) (gtI x2 0) false) (geI c.1 x2) false)) (eqI x.2.1 0))) (vY x0 x1 x5 x6) (false,())).bind fun d=>if sel (eqI x.2.1 0) (sel (sel (sel (eqI x.1 2) (gtI x2 0) false) (geI c.1 x2) false) true (sel (eqI x.1 3) d.1 false)) false=true then .pure (zG .i64 x4 1,()) else .pure (-1,())
def yQ:Nat->A7×A5×List A4×Unit->List Bool->Int->List A10->Int->List Int->List Int->Comp A11:=nj (fun _ _ _ _ _ _ _=>Comp.fail) vR
def gO:A7×A5×List A4×Unit->Int->List A10->Comp A9:=fun x0 x1 x2=>(yx x0).bind fun x=>(Comp.gd (sel (sel (eqI x.1 0) (geI x1 0) false) (gtI (zD x2) 0) false) (gC x0) ([],())).bind fun a=>(Comp.gd (sel (sel (eqI x.1 0) (geI x1 0) false) (gtI (zD x2) 0) false) (yQ 40 x0 a.1 x1 x2 (Int.ofNat 0) [] []) (0,())).bind fun b=>.pure (sel (sel (sel (eqI x.1 0) (geI x1 0) false) (gtI (zD x2) 0) false) (eqI b.1 (zD x2)) false,())
def jA:List A14->List Int->Int->List Int->List A10->Comp A9:=fun x0 x1 x2 x3 x4=>jD.bind fun x=>(kZ x0).bind fun y=>(j8 y.1).bind fun y_1=>(gk (y_1.1.1,y_1.1.2.1,y_1.1.2.2.1,())).bind fun a=>(app [] a.2.2.1).bind fun zs=>jn (fun (b:A30)=>(gU x3).bind fun c=>(sub x4 0 (D5 (zD x4) 5)).bind fun d=>(gU x3).bind fun aB=>(app aB.1 a.2.2.1).bind fun zs_1=>(Comp.loop (fun (e:Int)=>if ltI e (zD [a.2.2.1,b,c.1,d,zs_1])=true then (idx [a.2.2.1,b,c.1,d,zs_1] e).bind fun f=>(yJ x2 (Int.ofNat 30)).bind fun g=>(Comp.loop (fun (h:Int)=>if ltI h (zD [a.2.1,zG .i64 a.2.1 1,vu .i64 a.2.1 1,0,x2,g.1])=true then (idx [a.2.1,zG .i64 a.2.1 1,vu .i64 a.2.1 1,0,x2,g.1] h).bind fun x=>(zg (y_1.1.1,y_1.1.2.1,y_1.1.2.2.1,()) x f).bind fun i=>(gO (y_1.1.1,y_1.1.2.1,y_1.1.2.2.1,()) x f).bind fun x=>if neB i.1 x.1=true then .pure (.done (Sum.inr false)) else .pure (.next (zG .i64 h 1)) else .pure (.done (Sum.inl ()))) 0).bind fun (x:A22)=>match x with
                   |.inl x=>.pure (.next (zG .i64 e 1))
                   |.inr x=>.pure (.done (Sum.inr x)) else .pure (.done (Sum.inl ()))) 0).bind fun (e:A22)=>match e with
              |.inl f=>.pure (x.1,())
              |.inr x=>.pure (x,())) fun (j:List A10->Comp A9)=>if gtI (zD zs) 0=true then (idx x1 0).bind fun x=>(yJ x (zD zs)).bind fun x=>(idx x1 1).bind fun b=>(yJ b (Int.ofNat 4)).bind fun c=>jn (fun (x:A30)=>j x) fun (j:List A10->Comp A9)=>if eqI c.1 0=true then (idx x1 2).bind fun d=>(yJ d (Int.ofNat 4)).bind fun e=>(inb zs.length x.1).bind fun f=>(idx zs x.1).bind fun (z:A10)=>j (jy zs x.1 (zG .i64 1 e.1,z.2)) else jn (fun (x:A30)=>j x) fun (j:List A10->Comp A9)=>if eqI c.1 1=true then (idx x1 2).bind fun d=>(yJ d (Int.ofNat 6)).bind fun e=>(inb zs.length x.1).bind fun f=>(idx zs x.1).bind fun (z:A10)=>j (jy zs x.1 (z.1,vu .i64 e.1 1,z.2.2)) else jn (fun (x:A30)=>j x) fun (j:List A10->Comp A9)=>if eqI c.1 2=true then ((sub zs 0 x.1).bind fun x=>.pure ()).bind fun d=>((sub zs (zG .i64 x.1 1) (zD zs)).bind fun x=>.pure ()).bind fun e=>(sub zs 0 (Int.ofNat x.1.toNat)).bind fun xs=>(app xs (List.drop (zG .i64 x.1 1).toNat zs)).bind fun zs=>j zs else jn (fun (x:A30)=>j x) fun (j:List A10->Comp A9)=>if eqI c.1 3=true then (idx x1 2).bind fun x=>(yJ x (Int.ofNat 3)).bind fun x=>(app zs [(zG .i64 1 x.1,0,())]).bind fun zs=>j zs else j zs else j zs
end Go.F
end
section
namespace Go.Geo
open Go Go.Eng Go.Lift Go.Den Go.F
variable {α β γ δ ε σ τ:Type}
abbrev V3:=Int×Int×Int×Unit
abbrev Pnt:=Int×Int×Int×Int×Unit
def okv(k n:Int):Bool:=decide (-k<=n/\n<=k)
def uV(v:V3):Nat:=Nat.gcd (Nat.gcd v.1.natAbs v.2.1.natAbs) v.2.2.1.natAbs
def okN(v:V3):Bool:=okv 4608 v.1 && (okv 4608 v.2.1 && okv 4608 v.2.2.1)
def okP(p:Pln):Bool:=okN p.1 && (decide (uV p.1=1) && okv 2097152 p.2.1)
theorem Rx:∀(b a:Nat),(Comp.loop
   (fun (x:Int×Int)=>if gtI x.2 0=true then (rem x.1 x.2).bind fun x_3=>Comp.pure (.next (x.2,x_3))
    else Comp.pure (.done x.1)) ((a:Int),(b:Int))).val=some ((Nat.gcd a b:Nat):Int):=by
 intro b
 induction b using Nat.strongRecOn with
 |_ b ih =>
  intro a
  conv=>lhs;rw[zM]
  by_cases hb:0<b
  ·have h1:(0:Int)<(b:Int):=by omega
   have h2:(rem (a:Int) (b:Int)).val=some ((a % b:Nat):Int):=by grind [XG]
   have:=ih (a % b) (Nat.mod_lt _ hb) b;simp only[Jv,h1,if_true,zA,h2,zLX,Comp.zB];rw[show Nat.gcd a b=Nat.gcd b (a % b) by grind [Nat.gcd_comm,Nat.gcd_rec]]
   simp_all [Jv]
  simp_all [gtI]
theorem HD:∀(b a:Int),∃r,r.natAbs=Nat.gcd a.natAbs b.natAbs/\(Comp.loop
   (fun (x:Int×Int)=>if neI x.2 0=true then (rem x.1 x.2).bind fun x_2=>Comp.pure (.next (x.2,x_2)) else Comp.pure (.done x.1)) (a,b)).val=some r:=by
 intro b;generalize hn:b.natAbs=n
 induction n using Nat.strongRecOn generalizing b with
 |_ n ih =>
  intro a;by_cases hb:b=0
  ·refine⟨a,?_,?_⟩
   ·subst hb;grind
   ·conv=>lhs;rw[zM]
    simp[neI,hb]
  ·have gF:(a.tmod b).natAbs<n:=by rw[Int.natAbs_tmod,<-hn];exact Nat.mod_lt _ (by omega)
   obtain⟨r,h1,h2⟩:=ih _ gF (a.tmod b) rfl b;refine⟨r,?_,?_⟩
   ·grind [Int.natAbs_tmod,Nat.gcd_comm,Nat.gcd_rec]
   ·conv=>lhs;rw[zM]
    simp only[je,ne_eq,hb,not_false_eq_true,if_true,zA,XG hb,zLX,Comp.zB];grind
theorem q6{n:Int}(h : -9223372036854775808<n/\n<9223372036854775808):rW n (Yw .i64 n)=(n.natAbs:Int):=by
 grind [Ji,rW]
theorem nJ{n:Int}(h : -9223372036854775808<n/\n<9223372036854775808):(jo n).val=some ((n.natAbs:Int),()):=by
 grind [jo,Comp.zB,q6]
theorem Ao{l:List Int}(hl:l.length<9223372036854775807)(h:∀n∈l, -9223372036854775808<n/\n<9223372036854775808):(Zm l).val=some (((l.foldl (fun g n=>Nat.gcd g n.natAbs) 0:Nat):Int),()):=by
 unfold Zm;have h1:=wK (fun (s:Nat) i=>(((s:Nat):Int),((i:Nat):Int))) l (fun (s:Nat) n=>.next (Nat.gcd s n.natAbs)) (fun s=>(Sum.inl ((s:Nat):Int):Int⊕Int)) 0
  (body:=fun (x:Int×Int)=>if ltI x.2 (zD l)=true then
       (idx l x.2).bind fun x_1=>if eqI x_1 (-9223372036854775808)=true then Comp.pure (.done (Sum.inr 0))
        else
         (Go.F.jo x_1).bind fun x_2=>(Comp.loop
             (fun (x:Int×Int)=>if gtI x.2 0=true then (rem x.1 x.2).bind fun x_3=>Comp.pure (.next (x.2,x_3))
              else Comp.pure (.done x.1))
             (x.1,x_2.1)).bind fun x_3=>Comp.pure (.next (x_3,zG .i64 x.2 1))
      else Comp.pure (.done (Sum.inl x.1)))
  (fun s i n hx=>by
   have gF:=zN hx;have hn:=h n (zLe hx)
   have h1:(i:Int)<zD l:=by grind
   rw[zLz (by grind),zA,zO hx,zLX,zMA (by grind),zA,nJ hn,zLX,zA,Rx,zLX,Comp.zB,zJ (show i<9223372036854775807 by omega)]
   rfl)
  (fun s=>by
   simp[zQ,zY])
 rw[Xj]at h1;rw[zA];simp_all
theorem tN{k:Int}{l:List Int}(hk:0<=k/\k<9223372036854775808)(hl:l.length<9223372036854775807):(jJ k l).val=some (l.all fun n=>okv k n,()):=by
 unfold jJ;have h1:=Z1 l (okv k) (c:=(Sum.inr false:Unit⊕Bool)) (d:=Sum.inl ())
  (body:=fun (x:Int)=>if ltI x (zD l)=true then
       (idx l x).bind fun x_1=>if sel (ltI x_1 (Yw .i64 k)) true (gtI x_1 k)=true then Comp.pure (.done (Sum.inr false))
        else Comp.pure (.next (zG .i64 x 1))
      else Comp.pure (.done (Sum.inl ())))
  (fun i n hx=>by
   have gF:=zN hx;have h1:(i:Int)<zD l:=by grind
   rw[zLz (by grind),zA,zO hx,zLX,Ji (by omega),zJ (show i<9223372036854775807 by omega),Xu]
   have e:sel (ltI n (-k)) true (gtI n k) = !okv k n:=by
    grind [okv]
   rw[e];cases okv k n<;>simp)
  (by
   simp[zQ,zY])
 rw[zA];refine(zLq (fun o=>Option.bind o _) h1).trans ?_
 grind [Comp.zB]
theorem Ew{v:V3}(h:okN v=true):∀n∈[v.1,v.2.1,v.2.2.1], -4608<=n/\n<=4608:=by
 unfold okN okv at h;grind
theorem uL(p:Pln):(Y3 p).val=some (okP p,()):=by
 unfold Y3;have h1:(jJ (Int.ofNat 4608) [p.1.1,p.1.2.1,p.1.2.2.1]).val=some (okN p.1,()):=by
  grind [tN,okN]
 have h2:(jJ (Int.ofNat 2097152) [p.2.1]).val=some (okv 2097152 p.2.1,()):=by
  grind [tN]
 rw[vo,zA,h1,zLX,Xu]
 cases hN:okN p.1 with
 |false=>simp[okP,hN]
 |true =>
  rw[zLz rfl];have h3:=Ao (l:=[p.1.1,p.1.2.1,p.1.2.2.1]) (by simp) (fun n hn=>by have:=Ew hN n hn;omega)
  have h4:[p.1.1,p.1.2.1,p.1.2.2.1].foldl (fun g n=>Nat.gcd g n.natAbs) 0=uV p.1:=by simp[uV]
  rw[h4]at h3;rw[zA,h3,zLX,Xu];by_cases hg:uV p.1=1
  ·have:eqI ((uV p.1:Nat):Int) 1=true:=by grind
   simp_all [zA,okP]
  ·have:eqI ((uV p.1:Nat):Int) 1=false:=by grind
   simp_all [okP]
def chk(c:List Pln):Int:=if 48<c.length then 2 else bif c.all okP then 0 else 12
theorem E7{c:List Pln}:chk c=0↔c.length<=48/\c.all okP=true:=by
 grind [chk]
theorem Wh(c:List Pln):(c.any fun p=>!okP p) = !c.all okP:=by grind
theorem jw(c:List Pln):(gZ c).val=some (chk c,()):=by
 unfold gZ chk;by_cases h:48<c.length
 ·rw[zLz (by grind),zLz h,Comp.zB]
 ·rw[zMA (by grind),zMA h]
  have h1:(zW c fun z=>kW z.1).val=some (c.any fun p=>!okP p,()) :=
   Z0 (xs:=c) (f:=fun z=>kW z.1) (p:=fun p=>!okP p) (by omega) fun p _=>by
    grind [kW,zA,uL,Comp.zB]
  rw[zA,h1,zLX,Wh,Xu];cases c.all okP<;>simp
theorem Yd(l:List (List Pln))(hl:l.length<9223372036854775807):(Zf l).val=some (l.all fun c=>decide (chk c=0),()):=by
 unfold Zf;have h1:(zH l fun z=>jP z.1).val=some (l.any fun c=>!decide (chk c=0),()) :=
  Z0 (xs:=l) (f:=fun z=>jP z.1) (p:=fun c=>!decide (chk c=0)) hl fun c _=>by
   show (jP c).val=_
   grind [jP,zA,jw,Comp.zB]
 rw[zA,h1,zLX,Comp.zB,yS,List.all_eq_not_any_not]
theorem Ni{n:Int}(h : -9223372036854775808<n/\n<9223372036854775808):(vS n).val=some ((n.natAbs:Int),()):=by
 unfold vS;by_cases h0:n<0
 ·rw[zLz (by grind),Comp.zB,Ji h];grind
 ·rw[zMA (by grind),Comp.zB];grind
theorem Ip{v:V3}(h:okN v=true):∃u,(gv v).val=some (u,((uV v:Nat):Int),()):=by
 have fE:=Ew h;unfold gv;have hc:(yB v).val=some ([v.1,v.2.1,v.2.2.1],()):=by grind [yB,Comp.zB]
 rw[zA,hc,zLX];simp only;generalize hl:[v.1,v.2.1,v.2.2.1]=l at fE;have fA:l.length=3:=by grind
 have h1:=wK (fun (s:Nat) i=>((((s:Nat):Int),((i:Nat):Int),(0,0,0,())):Int×Int×Int×Int×Int×Unit)) l (fun (s:Nat) n=>.next (Nat.gcd s n.natAbs)) (fun s=>(Sum.inl ((((s:Nat):Int),(0,0,0,())):Int×Int×Int×Int×Unit):(Int×Int×Int×Int×Unit)⊕(Int×Int×Int×Int×Unit))) 0
  (body:=(fun (x_1:Int×Int×Int×Int×Int×Unit)=>if ltI x_1.2.1 3=true then
        (idx l x_1.2.1).bind fun x_2=>if eqI x_2 (-9223372036854775808)=true then Comp.pure (.done (Sum.inr (0,0,0,0,())))
         else
          (idx l x_1.2.1).bind fun x=>(Go.F.vS x).bind fun x=>(Comp.loop
               (fun (x:Int×Int)=>if gtI x.2 0=true then (rem x.1 x.2).bind fun x_3=>Comp.pure (.next (x.2,x_3))
                else Comp.pure (.done x.1))
               (x_1.1,x.1)).bind fun x=>Comp.pure (.next (x,zG .i64 x_1.2.1 1,x_1.2.2))
       else Comp.pure (.done (Sum.inl (x_1.1,x_1.2.2)))))
  (fun s i n hx=>by
   have gF:=zN hx;have hn:=fE n (zLe hx)
   rw[zLz (by grind),zA,zO hx,zLX,zMA (by grind),zA,zO hx,zLX,zA,Ni (by omega),zLX,zA,Rx,zLX,Comp.zB,zJ (show i<9223372036854775807 by omega)]
   rfl)
  (fun s=>by
   simp_all [zY])
 rw[Xj]at h1;have hg:l.foldl (fun g n=>Nat.gcd g n.natAbs) 0=uV v:=by grind [uV]
 rw[hg]at h1;rw[zA]
 have h2:=zLq (fun o=>Option.bind o fun (x:(Int×Int×Int×Int×Unit)⊕(Int×Int×Int×Int×Unit))=>(match x with
    |Sum.inl x =>
     if eqI x.1 0=true then Comp.pure ((0,0,0,()),0,())
     else
      (quo .i64 v.1 x.1).bind fun x_1=>(quo .i64 v.2.1 x.1).bind fun x_2=>(quo .i64 v.2.2.1 x.1).bind fun x_3=>Comp.pure ((x_1,x_2,x_3,()),x.1,())
    |Sum.inr x=>Comp.pure (x.2,x.1,()):Comp Pln).val) h1
 by_cases h0:uV v=0
 ·simp_all [Z6]
 ·have hq:∀n,∃m,(quo .i64 n ((uV v:Nat):Int)).val=some m:=fun n=>by
   simp_all [quo]
  obtain⟨a,ha⟩:=hq v.1;obtain⟨b,hb⟩:=hq v.2.1;obtain⟨c,hc⟩:=hq v.2.2.1;refine⟨(a,b,c,()),h2.trans ?_⟩;show (if eqI ((uV v:Nat):Int) 0=true then _ else _:Comp Pln).val=_
  simp_all [Z6,zA]
theorem Dc(p:Pln):(gR p).val=some (okP p,()):=by
 unfold gR;have hc:(yB p.1).val=some ([p.1.1,p.1.2.1,p.1.2.2.1],()):=by grind [yB,Comp.zB]
 rw[zA,hc,zLX];have h1:=Z1 [p.1.1,p.1.2.1,p.1.2.2.1] (okv 4608) (c:=(Sum.inr false:Unit⊕Bool)) (d:=Sum.inl ())
  (body:=(fun (x_1:Int)=>if ltI x_1 3=true then
        (idx [p.1.1,p.1.2.1,p.1.2.2.1] x_1).bind fun x_2=>(Comp.gd (ntB (ltI x_2 (-4608))) (idx [p.1.1,p.1.2.1,p.1.2.2.1] x_1) (Int.ofNat 0)).bind fun x_3=>if sel (ltI x_2 (-4608)) true (gtI x_3 4608)=true then Comp.pure (.done (Sum.inr false))
          else Comp.pure (.next (zG .i64 x_1 1))
       else Comp.pure (.done (Sum.inl ()))))
  (fun i n hx=>by
   have gF:=zN hx;have hlt3:i<3:=gF
   rw[zLz (by grind),zA,zO hx,zLX,zA,Qm,zO hx,zJ (show i<9223372036854775807 by omega)]
   unfold okv;by_cases h1:n < -4608
   ·have:ltI n (-4608)=true:=by grind
    have h2:¬(-4608<=n/\n<=4608):=by omega
    simp[this,yS,sel,h2]
   ·have:ltI n (-4608)=false:=by grind
    by_cases h3:n > 4608
    ·simp_all [Jv,yS,sel]
    ·have h2:(-4608<=n/\n<=4608):=by omega
     have h4:gtI n 4608=false:=by grind
     simp[this,yS,sel,h2,h4])
  (by simp[zY])
 rw[zA];have fH:[p.1.1,p.1.2.1,p.1.2.2.1].all (okv 4608)=okN p.1:=by simp[okN]
 rw[fH]at h1;refine(zLq (fun o=>Option.bind o _) h1).trans ?_
 rw[zLX]
 cases hN:okN p.1 with
 |false=>grind [Comp.zB,okP]
 |true =>
  obtain⟨u,hu⟩:=Ip hN;show ((gv p.1).bind fun x=>Comp.pure (sel (sel (eqI x.2.1 1) (geI p.2.1 (-2097152)) false) (leI p.2.1 2097152) false,())).val=_
  rw[zA,hu,zLX,Comp.zB];unfold okP okv;rw[hN,kB,kB];unfold eqI geI leI
  congr 2
  grind
theorem j0(c:List Pln):(zX c).val=some (chk c,()):=by
 unfold zX chk;by_cases h:48<c.length
 ·rw[zLz (by grind),zLz h,Comp.zB]
 ·rw[zMA (by grind),zMA h]
  have h1:=Z1 c okP (c:=(Sum.inr 12:Unit⊕Int)) (d:=Sum.inl ())
   (body:=(fun (x:Int)=>if ltI x (zD c)=true then
        (idx c x).bind fun x_1=>(Go.F.gR x_1).bind fun x_2=>if ntB x_2.1=true then Comp.pure (.done (Sum.inr 12)) else Comp.pure (.next (zG .i64 x 1))
       else Comp.pure (.done (Sum.inl ()))))
   (fun i p hx=>by
    have gF:=zN hx;rw[zLz (by grind),zA,zO hx,zLX,zA,Dc,zLX,Xu,yS,zJ (show i<9223372036854775807 by omega)]
    cases okP p<;>simp)
   (by simp[zY,zQ])
  rw[zA];refine(zLq (fun o=>Option.bind o _) h1).trans ?_
  grind [Comp.zB]
def cr(a b:V3):V3:=(a.2.1 * b.2.2.1-a.2.2.1 * b.2.1,a.2.2.1 * b.1-a.1 * b.2.2.1,a.1 * b.2.1-a.2.1 * b.1,())
def dt(a b:V3):Int:=a.1 * b.1+a.2.1 * b.2.1+a.2.2.1 * b.2.2.1
def ad(a b:V3):V3:=(a.1+b.1,a.2.1+b.2.1,a.2.2.1+b.2.2.1,())
def sc(a:V3)(n:Int):V3:=(a.1 * n,a.2.1 * n,a.2.2.1 * n,())
def Bd(k:Int)(v:V3):Prop:=(-k<=v.1/\v.1<=k)/\(-k<=v.2.1/\v.2.1<=k)/\(-k<=v.2.2.1/\v.2.2.1<=k)
theorem vn{a b A B:Int}(ha : -A<=a/\a<=A)(hb : -B<=b/\b<=B) : -(A * B)<=a * b/\a * b<=A * B:=by
 have hA:0<=A:=by omega
 have hB:0<=B:=by omega
 have h1:(a * b).natAbs<=(A * B).natAbs:=by
  rw[Int.natAbs_mul,Int.natAbs_mul];exact Nat.mul_le_mul (by omega) (by omega)
 grind [Int.mul_nonneg]
theorem zDZ{v:V3}(h:okN v=true):Bd 4608 v:=by
 have:=Ew h;exact⟨this v.1 (by simp),this v.2.1 (by simp),this v.2.2.1 (by simp)⟩
theorem KI{a b:V3}(ha:Bd 4608 a)(hb:Bd 4608 b):Bd 42467328 (cr a b):=by
 obtain⟨a1,a2,a3⟩:=ha;obtain⟨b1,b2,b3⟩:=hb;have e1:=vn a2 b3;have e2:=vn a3 b2;have e3:=vn a3 b1;have e4:=vn a1 b3;have e5:=vn a1 b2;have e6:=vn a2 b1
 unfold cr Bd;grind
theorem K6{a:V3}{n A B:Int}(ha:Bd A a)(hn : -B<=n/\n<=B):Bd (A * B) (sc a n):=⟨vn ha.1 hn,vn ha.2.1 hn,vn ha.2.2 hn⟩
theorem Bd.le{A B:Int}{v:V3}(h:Bd A v)(xD:A<=B):Bd B v:=by
 obtain⟨h1,h2,h3⟩:=h;refine⟨?_,?_,?_⟩<;>omega
theorem Jc{a b:V3}(ha:Bd 4608 a)(hb:Bd 4608 b):(Zr a b).val=some (cr a b,()):=by
 obtain⟨a1,a2,a3⟩:=ha;obtain⟨b1,b2,b3⟩:=hb;have e1:=vn a2 b3;have e2:=vn a3 b2;have e3:=vn a3 b1;have e4:=vn a1 b3;have e5:=vn a1 b2;have e6:=vn a2 b1
 unfold Zr;rw[Comp.zB,XM (m:=a.2.1) (by omega),XM (m:=a.2.2.1) (by omega),XM (m:=a.2.2.1) (by omega),XM (m:=a.1) (by omega),XM (m:=a.1) (by omega),XM (m:=a.2.1) (by omega),
  Jg (by omega),Jg (by omega),Jg (by omega)]
 rfl
theorem Xi{a b:V3}(ha:Bd 4608 a)(hb:Bd 4608 b):(vb a b).val=some (cr a b,()):=Jc ha hb
theorem tA{a b:V3}(ha:Bd 4608 a)(hb:Bd 42467328 b):(Zi a b).val=some (dt a b,()):=by
 obtain⟨a1,a2,a3⟩:=ha;obtain⟨b1,b2,b3⟩:=hb;have e1:=vn a1 b1;have e2:=vn a2 b2;have e3:=vn a3 b3
 unfold Zi;rw[Comp.zB,XM (m:=a.1) (by omega),XM (m:=a.2.1) (by omega),XM (m:=a.2.2.1) (by omega),jS (m:=a.1 * b.1) (by omega),jS (by omega)]
 rfl
theorem Nf{a b:V3}(ha:Bd 4608 a)(hb:Bd 42467328 b):(YG a b).val=some (dt a b,()):=tA ha hb
theorem JU{a:V3}{n:Int}(h:Bd 9223372036854775807 (sc a n)):(Yj a n).val=some (sc a n,()):=by
 obtain⟨h1,h2,h3⟩:=h;grind [sc,Yj,Comp.zB,XM]
theorem Y1{a:V3}{n:Int}(h:Bd 9223372036854775807 (sc a n)):(yf a n).val=some (sc a n,()):=JU h
theorem tF{a b:V3}(h:Bd 9223372036854775807 (ad a b)):(XU a b).val=some (ad a b,()):=by
 obtain⟨h1,h2,h3⟩:=h;grind [ad,XU,Comp.zB]
theorem BR{a b:V3}(h:Bd 9223372036854775807 (ad a b)):(kY a b).val=some (ad a b,()):=tF h
theorem rL{a b:V3}{A B:Int}(ha:Bd A a)(hb:Bd B b):Bd (A+B) (ad a b):=by
 obtain⟨a1,a2,a3⟩:=ha;obtain⟨b1,b2,b3⟩:=hb;unfold ad Bd;grind
def det(p q r:Pln):Int:=dt p.1 (cr q.1 r.1)
def num(p q r:Pln):V3:=ad (ad (sc (cr q.1 r.1) p.2.1) (sc (cr r.1 p.1) q.2.1)) (sc (cr p.1 q.1) r.2.1)
theorem HP(p q r:Pln):det p q r=dt r.1 (cr p.1 q.1):=by
 grind [det,dt,cr]
def okB(p:Pln):Prop:=Bd 4608 p.1/\(-2097152<=p.2.1/\p.2.1<=2097152)
theorem zGE{p:Pln}(h:okP p=true):okB p:=by
 unfold okP okv at h;simp only[zLZ,zLr]at h;exact⟨zDZ h.1,h.2.2⟩
theorem E5{p q r:Pln}(hp:okB p)(hq:okB q)(hr:okB r) : -600000000000<=det p q r/\det p q r<=600000000000:=by
 have hc:=KI hq.1 hr.1;have e1:=vn hp.1.1 hc.1;have e2:=vn hp.1.2.1 hc.2.1;have e3:=vn hp.1.2.2 hc.2.2
 unfold det dt;omega
theorem Ex{p q r:Pln}(hp:okB p)(hq:okB q)(hr:okB r):Bd 300000000000000 (num p q r):=by
 have h1:=K6 (KI hq.1 hr.1) hp.2;have h2:=K6 (KI hr.1 hp.1) hq.2
 have h3:=K6 (KI hp.1 hq.1) hr.2;exact(rL (rL h1 h2) h3).le (by decide)
def YB(v:V3)(w:Int):Nat:=Nat.gcd (Nat.gcd v.1.natAbs v.2.1.natAbs) (Nat.gcd v.2.2.1.natAbs w.natAbs)
def mkP(v:V3)(w:Int):Pnt :=
 let g:Int:=(YB v w:Nat)
 if w<0 then ((-v.1).tdiv g,(-v.2.1).tdiv g,(-v.2.2.1).tdiv g,(-w).tdiv g,()) else (v.1.tdiv g,v.2.1.tdiv g,v.2.2.1.tdiv g,w.tdiv g,())
def mt(p q r:Pln):Option Pnt:=if det p q r=0 then none else some (mkP (num p q r) (det p q r))
def uQ:Option Pnt->Pnt×Bool×Unit
 |some x=>(x,true,())
 |none=>((0,0,0,0,()),false,())
theorem Bz{v:V3}{w:Int}(h:w≠0):0<YB v w:=by
 grind [YB]
theorem GO{a b:Int}:(a.tdiv b).natAbs<=a.natAbs:=by rw[Int.natAbs_tdiv];exact Nat.div_le_self _ _
theorem kP{a b:Int}(hb:b≠0)(ha : -9223372036854775808<a/\a<9223372036854775808):(quo .i64 a b).val=some (a.tdiv b):=by
 unfold quo;rw[zMA hb,Comp.zB];have:=GO (a:=a) (b:=b)
 exact zLq some (EF (by omega))
theorem nI{v:V3}{w:Int}(hv:Bd 300000000000000 v)(hw : -600000000000<=w/\w<=600000000000):(Ko [v.1,v.2.1,v.2.2.1,w]).val=some (((YB v w:Nat):Int),()):=by
 unfold Ko;generalize hl:[v.1,v.2.1,v.2.2.1,w]=l;have fA:l.length=4:=by grind
 have key:∀(ys zs:List Int) (g:Int),l=zs++ys->∃r,r.natAbs=ys.foldl (fun g n=>Nat.gcd g n.natAbs) g.natAbs/\(Comp.loop
     (fun (x:Int×Int)=>if ltI x.2 (zD l)=true then
       (idx l x.2).bind fun x_1=>(Comp.loop
           (fun (x:Int×Int)=>if neI x.2 0=true then (rem x.1 x.2).bind fun x_2=>Comp.pure (.next (x.2,x_2)) else Comp.pure (.done x.1))
           (x.1,x_1)).bind fun x_2=>Comp.pure (.next (x_2,zG .i64 x.2 1))
      else Comp.pure (.done x.1)) (g,(zs.length:Int))).val=some r:=by
  intro ys
  induction ys with
  |nil =>
   intro zs g hx;refine⟨g,rfl,?_⟩;rw[zM,zMA (by grind),Comp.zB,zLX]
  |cons y ys ih =>
   intro zs g hx;have hy:l[zs.length]?=some y:=by grind
   have gF:=zN hy;obtain⟨r1,h1,h2⟩:=HD y g;obtain⟨r,h3,h4⟩:=ih (zs++[y]) r1 (by grind)
   refine⟨r,by grind,?_⟩
   rw[zM,zLz (by grind),zA,zO hy,zLX,zA,h2,zLX,Comp.zB,zJ (by omega),zLX]
   simpa using h4
 obtain⟨r,h1,h2⟩:=key l [] 0 rfl;rw[zA];refine(zLq (fun o=>Option.bind o _) h2).trans ?_
 rw[zLX,Comp.zB];have hg:r.natAbs=YB v w:=by
  grind [YB]
 have hgw:(YB v w)<=900000000000000:=by
  unfold YB;by_cases hw0:w=0
  ·by_cases h3:v.2.2.1=0
   ·by_cases h2:v.2.1=0
    ·rw[hw0,h3,h2];simp;have:=hv.1;omega
    ·refine zLg (Nat.le_of_dvd (by omega) (Nat.dvd_trans (Nat.gcd_dvd_left _ _) (Nat.gcd_dvd_right _ _)):_<=v.2.1.natAbs) ?_
     have:=hv.2.1;omega
   ·refine zLg (Nat.le_of_dvd (by omega) (Nat.dvd_trans (Nat.gcd_dvd_right _ _) (Nat.gcd_dvd_left _ _)):_<=v.2.2.1.natAbs) ?_
    have:=hv.2.2;omega
  ·refine zLg (Nat.le_of_dvd (by omega) (Nat.dvd_trans (Nat.gcd_dvd_right _ _) (Nat.gcd_dvd_right _ _)):_<=w.natAbs) ?_
   omega
 grind [q6]
theorem J9(a b:Nat):(zw (a:Int) (b:Int)).val=some (((Nat.gcd a b:Nat):Int),()):=by
 unfold zw;obtain⟨r,h1,h2⟩:=HD (b:Int) (a:Int);have key:∀(b a:Nat),(Comp.loop
   (fun (x:Int×Int)=>if neI x.2 0=true then (rem x.1 x.2).bind fun x_2=>Comp.pure (.next (x.2,x_2)) else Comp.pure (.done x.1)) ((a:Int),(b:Int))).val=some ((Nat.gcd a b:Nat):Int):=by
  intro b
  induction b using Nat.strongRecOn with
  |_ b ih =>
   intro a;rw[zM];by_cases hb:b=0
   ·simp_all [je]
   ·have h2:(rem (a:Int) (b:Int)).val=some ((a % b:Nat):Int):=by grind [XG]
    rw[zLz (by grind),zA,h2,zLX,Comp.zB,zLX]
    refine(ih (a % b) (Nat.mod_lt _ (by omega)) b).trans ?_
    grind [Nat.gcd_comm,Nat.gcd_rec]
 rw[zA,key,zLX,Comp.zB]
theorem zDe{v:V3}{k:Int}(h:Bd k v):Bd k (sc v (-1)):=by
 obtain⟨h1,h2,h3⟩:=h;unfold sc Bd;grind
theorem rR{p q r:Pln}(hp:okB p)(hq:okB q)(hr:okB r):(XW [p,q,r]).val=some (uQ (mt p q r)):=by
 unfold XW;have hd:=E5 hp hq hr
 have hn:=Ex hp hq hr;have c1:=KI hq.1 hr.1;have c2:=KI hr.1 hp.1;have c3:=KI hp.1 hq.1
 have s1:=K6 c1 hp.2;have s2:=K6 c2 hq.2;have s3:=K6 c3 hr.2
 have z:Bd 0 (0,0,0,()):=by unfold Bd;simp
 have a1:=rL z s1;have a2:=rL a1 s2;have a3:=rL a2 s3
 have hz:ad (0,0,0,()) (sc (cr q.1 r.1) p.2.1)=sc (cr q.1 r.1) p.2.1:=by grind [ad]
 have r1:(rem (zG .i64 0 1) 3).val=some 1:=by grind [XG]
 have r2:(rem (zG .i64 0 2) 3).val=some 2:=by grind [XG]
 have r3:(rem (zG .i64 1 1) 3).val=some 2:=by grind
 have r4:(rem (zG .i64 1 2) 3).val=some 0:=by grind [XG]
 have r5:(rem (zG .i64 2 1) 3).val=some 0:=by grind
 have r6:(rem (zG .i64 2 2) 3).val=some 1:=by grind [XG]
 have i0:(idx [p,q,r] 0).val=some p:=Kz rfl;have i1:(idx [p,q,r] 1).val=some q:=Kz rfl
 have i2:(idx [p,q,r] 2).val=some r:=Kz rfl;have cH:(Comp.loop
     (fun (x:Int×Int×Int×Int×Int×Unit)=>if ltI x.2.1 3=true then
       (idx [p,q,r] x.2.1).bind fun x_1=>(rem (zG .i64 x.2.1 1) 3).bind fun x_2=>(idx [p,q,r] x_2).bind fun x_3=>(rem (zG .i64 x.2.1 2) 3).bind fun x_4=>(idx [p,q,r] x_4).bind fun x_5=>(Go.F.Zr x_3.1 x_5.1).bind fun x_6=>(Go.F.Zi x_1.1 x_6.1).bind fun x_7=>(Go.F.Yj x_6.1 x_1.2.1).bind fun x_8=>(Go.F.XU x.2.2 x_8.1).bind fun x_9=>Comp.pure (.next (x_7.1,zG .i64 x.2.1 1,x_9.1))
      else Comp.pure (.done (x.1,x.2.2)))
     (0,0,0,0,0,())).val=some ((det p q r,num p q r):Int×V3):=by
  rw[zM,zLz (by grind)]
  simp only[zA,i0,r1,i1,r2,i2,Jc hq.1 hr.1,tA hp.1 c1,JU (s1.le (by decide)),zLX,Comp.zB]
  rw[tF (a1.le (by decide)),zLX,zLX]
  simp only;rw[zM,zLz (by grind)]
  simp only[show zG .i64 0 1=1 from rfl,zA,i1,r3,i2,r4,i0,Jc hr.1 hp.1,tA hq.1 c2,JU (s2.le (by decide)),zLX,Comp.zB]
  rw[tF (a2.le (by decide)),zLX,zLX]
  simp only;rw[zM,zLz (by grind)]
  simp only[show zG .i64 1 1=2 from rfl,zA,i2,r5,i0,r6,i1,Jc hp.1 hq.1,tA hr.1 c3,JU (s3.le (by decide)),zLX,Comp.zB]
  rw[tF (a3.le (by decide)),zLX,zLX]
  simp only;rw[zM,zMA (by grind),Comp.zB,zLX,hz,HP]
  rfl
 rw[zA];refine(zLq (fun o=>Option.bind o _) cH).trans ?_
 rw[zLX];simp only;unfold mt;by_cases h0:det p q r=0
 ·rw[zLz (by grind),zLz h0,Comp.zB];rfl
 ·rw[zMA (by grind),zMA h0,zA,nI hn hd,zLX,vo]
  have hg:=Bz (v:=num p q r) h0;have cS:YB (num p q r) (det p q r)<=600000000000:=by
   refine zLg (Nat.le_of_dvd (by omega) (Nat.dvd_trans (Nat.gcd_dvd_right _ _) (Nat.gcd_dvd_right _ _)):_<=(det p q r).natAbs) ?_
   omega
  obtain⟨n1,n2,n3⟩:=hn;by_cases bC:det p q r<0
  ·rw[zLz (by grind),Ji (by omega)]
   rw[zA,kP (by omega) (by omega),zLX,zA,kP (by omega) (by omega),zLX,zA,kP (by omega) (by omega),zLX,zA,kP (by omega) (by omega),zLX,Comp.zB]
   unfold mkP;simp only[zLz bC,Int.tdiv_neg,Int.neg_tdiv];rfl
  ·rw[zMA (by grind)]
   rw[zA,kP (by omega) (by omega),zLX,zA,kP (by omega) (by omega),zLX,zA,kP (by omega) (by omega),zLX,zA,kP (by omega) (by omega),zLX,Comp.zB]
   unfold mkP;simp only[zMA bC];rfl
theorem Il{p q r:Pln}(hp:okB p)(hq:okB q)(hr:okB r):(vJ p q r).val=some (uQ (mt p q r)):=by
 unfold vJ;have hd:=E5 hp hq hr
 have hn:=Ex hp hq hr;have c1:=KI hq.1 hr.1;have c2:=KI hr.1 hp.1;have c3:=KI hp.1 hq.1
 have s1:=K6 c1 hp.2;have s2:=K6 c2 hq.2;have s3:=K6 c3 hr.2
 have a2:=rL s1 s2;have a3:=rL a2 s3
 rw[zA,Xi hq.1 hr.1,zLX,zA,Nf hp.1 c1,zLX];unfold mt;by_cases h0:det p q r=0
 ·rw[zLz (by rw[Z6];exact h0),zLz h0,Comp.zB];rfl
 ·rw[zMA (by rw[Z6];exact h0),zMA h0]
  rw[zA,Xi hq.1 hr.1,zLX,zA,Y1 (s1.le (by decide)),zLX,zA,Xi hr.1 hp.1,zLX,zA,Y1 (s2.le (by decide)),zLX,
   zA,BR (a2.le (by decide)),zLX,zA,Xi hp.1 hq.1,zLX,zA,Y1 (s3.le (by decide)),zLX,zA,BR (a3.le (by decide)),zLX,vo]
  change (if ltI (det p q r) 0=true then (yf (num p q r) (Int.negSucc 0)).bind _ else _:Comp (Pnt×Bool×Unit)).val=_
  have key:∀(w:Int) (v:V3),w≠0->(0<w/\w<=600000000000)->Bd 300000000000000 v->((zw (rW v.1 (Yw .i64 v.1)) (rW v.2.1 (Yw .i64 v.2.1))).bind fun x_9=>(Go.F.zw (rW v.2.2.1 (Yw .i64 v.2.2.1)) w).bind fun x_10=>(Go.F.zw x_9.1 x_10.1).bind fun dH=>(quo .i64 v.1 dH.1).bind fun x_12=>(quo .i64 v.2.1 dH.1).bind fun x_13=>(quo .i64 v.2.2.1 dH.1).bind fun x_14=>(quo .i64 w dH.1).bind fun x=>(Comp.pure ((x_12,x_13,x_14,x,()),true,()):Comp (Pnt×Bool×Unit))).val =
     some ((v.1.tdiv (YB v w:Nat),v.2.1.tdiv (YB v w:Nat),v.2.2.1.tdiv (YB v w:Nat),w.tdiv (YB v w:Nat),()),true,()):=by
   intro w v hw0 hw hv;obtain⟨n1,n2,n3⟩:=hv;have hg:=Bz (v:=v) hw0
   have ew:w=((w.natAbs:Nat):Int):=by omega
   rw[q6 (by omega),q6 (by omega),q6 (by omega)]
   rw[zA,J9,zLX,zA];have h2:(zw ((v.2.2.1.natAbs:Nat):Int) w).val=some (((Nat.gcd v.2.2.1.natAbs w.natAbs:Nat):Int),()):=by
    grind [J9]
   rw[h2,zLX,zA,J9,zLX]
   change ((quo .i64 v.1 ((YB v w:Nat):Int)).bind _).val=_
   rw[zA,kP (by omega) (by omega),zLX]
   change ((quo .i64 v.2.1 ((YB v w:Nat):Int)).bind _).val=_
   rw[zA,kP (by omega) (by omega),zLX]
   change ((quo .i64 v.2.2.1 ((YB v w:Nat):Int)).bind _).val=_
   rw[zA,kP (by omega) (by omega),zLX]
   change ((quo .i64 w ((YB v w:Nat):Int)).bind _).val=_
   grind [zA,kP,Comp.zB]
  by_cases bC:det p q r<0
  ·rw[zLz (by grind)]
   have hb:Bd 300000000000000 (sc (num p q r) (Int.negSucc 0)):=zDe hn;rw[zA,Y1 (hb.le (by decide)),zLX,show Yw .i64 (dt p.1 (cr q.1 r.1)) = -det p q r from Ji (m:=det p q r) (by omega)]
   refine(key (-det p q r) (sc (num p q r) (Int.negSucc 0)) (by omega) (by omega) hb).trans ?_
   have hg:YB (sc (num p q r) (Int.negSucc 0)) (-det p q r)=YB (num p q r) (det p q r):=by
    unfold YB sc;simp_all
   unfold uQ mkP;simp only[zLz bC,hg];unfold sc;grind
  ·rw[zMA (by grind)]
   refine(key (det p q r) (num p q r) h0 (by omega) hn).trans ?_
   simp_all [uQ,mkP,zMA]
theorem Ym(ys:List τ)(c:Comp (List τ×β)):(tell ys c).val=c.val.map fun p=>(ys++p.1,p.2):=by
 unfold tell;rw[zA];cases c.val<;>simp
theorem tc{body:σ->Comp (List τ×Comp.Step σ ε)}{s s':σ}{ys zs:List τ}{e:ε}(h1:(body s).val=some (ys,.next s'))(h2:(YJ body s').val=some (zs,e)):(YJ body s).val=some (ys++zs,e):=by
 obtain⟨n,hn⟩:=vL.1 h1;obtain⟨m,hm⟩:=vL.1 h2;refine vL.2 ⟨max n m+1,?_⟩;have a1:=(body s).mono (show n<=max n m+1 by omega) hn
 have a2:ZV body (max n m+1) (max n m) s'=some (zs,e):=wy (by omega) (by omega) hm
 show ZV body (max n m+1) (max n m+1) s=_
 grind [ZV]
theorem J6{body:σ->Comp (List τ×Comp.Step σ ε)}{s:σ}{ys:List τ}{e:ε}(h1:(body s).val=some (ys,.done e)):(YJ body s).val=some (ys,e):=by
 obtain⟨n,hn⟩:=vL.1 h1;refine vL.2 ⟨n+1,?_⟩;have a1:=(body s).mono (show n<=n+1 by omega) hn
 show ZV body (n+1) (n+1) s=_
 grind [ZV]
theorem J1{body:Int->Comp (List τ×Comp.Step Int ε)}(xs:List α)(g:Nat->List τ){e:ε}(hb:∀(i:Nat) x,xs[i]?=some x->(body (i:Int)).val=some (g i,.next ((i+1:Nat):Int)))(he:(body (xs.length:Int)).val=some ([],.done e)) :
  (YJ body 0).val=some ((List.range xs.length).flatMap g,e):=by
 have key:∀(m k:Nat),k+m=xs.length->(YJ body (k:Int)).val=some ((List.range' k m).flatMap g,e):=by
  intro m
  induction m with
  |zero =>
   grind [J6]
  |succ m ih =>
   intro k hk;obtain⟨x,hx⟩:=zK (xs:=xs) (k:=k) (by omega)
   rw[List.range'_succ,List.flatMap_cons];grind [tc]
 grind [List.range_eq_range']
def prs:List α->List (α×α)
 | []=>[]
 |q::l=>l.map (fun s=>(q,s))++prs l
def tri:List α->List (α×α×α)
 | []=>[]
 |p::l=>(prs l).map (fun t=>(p,t))++tri l
theorem I9(l:List α)(f:α->List β)(i:Nat)(g:Nat->List β)(h:∀(k:Nat) x,l[k]?=some x->g (i+k)=f x):(List.range' i l.length).flatMap g=l.flatMap f:=by
 induction l generalizing i with
 |nil=>rfl
 |cons x l ih =>
  rw[zLh,List.range'_succ,List.flatMap_cons,List.flatMap_cons];have h0:=h 0 x rfl
  rw[Nat.add_zero]at h0;rw[h0,ih (i+1) fun k y hk=>by rw[<-h (k+1) y (by grind)];grind]
theorem Am(l:List α)(f:α->β):l.flatMap (fun s=>[f s])=l.map f:=by
 induction l with
 |nil=>rfl
 |cons x l ih=>grind
theorem Iq(l:List α)(g:Nat->List β)(f:α×α->β)(i:Nat)(h:∀(k:Nat) q,l[k]?=some q->g (i+k)=(l.drop (k+1)).map fun s=>f (q,s)):(List.range' i l.length).flatMap g=(prs l).map f:=by
 induction l generalizing i with
 |nil=>rfl
 |cons x l ih =>
  rw[zLh,List.range'_succ,List.flatMap_cons];have h0:=h 0 x rfl
  rw[Nat.add_zero]at h0;rw[h0,prs,List.map_append,List.map_map]
  congr 1
  grind
theorem IY(l:List α)(g:Nat->List β)(f:α×α×α->β)(i:Nat)(h:∀(k:Nat) p,l[k]?=some p->g (i+k)=(prs (l.drop (k+1))).map fun t=>f (p,t)):(List.range' i l.length).flatMap g=(tri l).map f:=by
 induction l generalizing i with
 |nil=>rfl
 |cons x l ih =>
  rw[zLh,List.range'_succ,List.flatMap_cons];have h0:=h 0 x rfl
  rw[Nat.add_zero]at h0;rw[h0,tri,List.map_append,List.map_map]
  congr 1
  grind
theorem mC{xs:List α}{k:Nat}(h:k<=xs.length):(sub xs (k:Int) (zD xs)).val=some (xs.drop k):=by
 simp_all [YS,zQ]
theorem AW{r:List Pln}(hl:r.length<4611686018427387904):(vp r).val=some ((tri r).map fun t=>([t.1,t.2.1,t.2.2],())):=by
 unfold vp;have inner:∀(p q:Pln) (l:List Pln),l.length<4611686018427387904->(YJ
                     (fun (x_5:Int)=>if ltI x_5 (zD l)=true then
                       (idx l x_5).bind fun x=>tell [([p,q,x],())] (Comp.pure ([],.next (zG .i64 x_5 1)))
                      else Comp.pure ([],.done (Sum.inl ():Unit⊕Unit)))
                     0).val=some (l.map fun s=>([p,q,s],()),Sum.inl ()):=by
  intro p q l hl;have h1:=J1 l (fun i=>match l[i]? with|some s=>[([p,q,s],())]|none=>[]) (e:=(Sum.inl ():Unit⊕Unit)) (body:=(fun (x_5:Int)=>if ltI x_5 (zD l)=true then
                       (idx l x_5).bind fun x=>tell [([p,q,x],())] (Comp.pure ([],.next (zG .i64 x_5 1)))
                      else Comp.pure ([],.done (Sum.inl ():Unit⊕Unit))))
   (fun i x hx=>by
    have gF:=zN hx;rw[zLz (by grind),zA,zO hx,zLX,Ym,Comp.zB,zJ (by omega),hx]
    rfl)
   (by simp[zY,zQ])
  rw[h1,List.range_eq_range',I9 l (fun s=>[([p,q,s],())]) 0 _ (fun k x hk=>by grind)]
  rw[Am]
 have mid:∀(p:Pln) (i:Nat),i<r.length->(YJ
              (fun (x_3:Int)=>if ltI x_3 (zD (r.drop (i+1)))=true then
                (idx (r.drop (i+1)) x_3).bind fun x_4=>(sub r (zG .i64 (zG .i64 (i:Int) x_3) 2) (zD r)).bind fun x=>(YJ
                     (fun (x_5:Int)=>if ltI x_5 (zD x)=true then
                       (idx x x_5).bind fun x=>tell [([p,x_4,x],())] (Comp.pure ([],.next (zG .i64 x_5 1)))
                      else Comp.pure ([],.done (Sum.inl ():Unit⊕Unit)))
                     0).bind fun (p:List (List (Pln)×Unit)×(Unit⊕Unit))=>tell p.1
                    (match p.2 with
                    |Sum.inl x=>Comp.pure ([],.next (zG .i64 x_3 1))
                    |Sum.inr x=>Comp.pure ([],.done (Sum.inr ():Unit⊕Unit)))
               else Comp.pure ([],.done (Sum.inl ():Unit⊕Unit)))
              0).val=some ((prs (r.drop (i+1))).map fun t=>([p,t.1,t.2],()),Sum.inl ()):=by
  intro p i hi;have hdl:(r.drop (i+1)).length=r.length-(i+1):=List.length_drop ..
  have h1:=J1 (r.drop (i+1)) (fun j=>match (r.drop (i+1))[j]? with|some q=>((r.drop (i+1)).drop (j+1)).map fun s=>([p,q,s],())|none=>[]) (e:=(Sum.inl ():Unit⊕Unit)) (body:=(fun (x_3:Int)=>if ltI x_3 (zD (r.drop (i+1)))=true then
                (idx (r.drop (i+1)) x_3).bind fun x_4=>(sub r (zG .i64 (zG .i64 (i:Int) x_3) 2) (zD r)).bind fun x=>(YJ
                     (fun (x_5:Int)=>if ltI x_5 (zD x)=true then
                       (idx x x_5).bind fun x=>tell [([p,x_4,x],())] (Comp.pure ([],.next (zG .i64 x_5 1)))
                      else Comp.pure ([],.done (Sum.inl ():Unit⊕Unit)))
                     0).bind fun (p:List (List (Pln)×Unit)×(Unit⊕Unit))=>tell p.1
                    (match p.2 with
                    |Sum.inl x=>Comp.pure ([],.next (zG .i64 x_3 1))
                    |Sum.inr x=>Comp.pure ([],.done (Sum.inr ():Unit⊕Unit)))
               else Comp.pure ([],.done (Sum.inl ():Unit⊕Unit))))
   (fun j q hq=>by
    have gF:=zN hq;have e1:zG .i64 (zG .i64 (i:Int) (j:Int)) 2=((i+j+2:Nat):Int):=by grind
    rw[zLz (by grind),zA,zO hq,zLX,e1,zA,mC (by omega),zLX,zA,inner p q _ (by grind),zLX,Ym]
    grind [Comp.zB,List.drop_drop])
   (by simp[zY,zQ])
  rw[h1,List.range_eq_range',Iq (r.drop (i+1)) _ (fun t=>([p,t.1,t.2],())) 0 (fun k q hk=>by grind)]
 have h1:=J1 r (fun i=>match r[i]? with|some p=>(prs (r.drop (i+1))).map fun t=>([p,t.1,t.2],())|none=>[]) (e:=(Sum.inl ():Unit⊕Unit)) (body:=(fun (x:Int)=>if ltI x (zD r)=true then
         (idx r x).bind fun x_1=>(sub r (zG .i64 x 1) (zD r)).bind fun x_2=>(YJ
              (fun (x_3:Int)=>if ltI x_3 (zD x_2)=true then
                (idx x_2 x_3).bind fun x_4=>(sub r (zG .i64 (zG .i64 x x_3) 2) (zD r)).bind fun x=>(YJ
                     (fun (x_5:Int)=>if ltI x_5 (zD x)=true then
                       (idx x x_5).bind fun x=>tell [([x_1,x_4,x],())] (Comp.pure ([],.next (zG .i64 x_5 1)))
                      else Comp.pure ([],.done (Sum.inl ())))
                     0).bind fun (p:List (List (Pln)×Unit)×(Unit⊕Unit))=>tell p.1
                    (match p.2 with
                    |Sum.inl x=>Comp.pure ([],.next (zG .i64 x_3 1))
                    |Sum.inr x=>Comp.pure ([],.done (Sum.inr ())))
               else Comp.pure ([],.done (Sum.inl ())))
              0).bind fun (p:List (List (Pln)×Unit)×(Unit⊕Unit))=>tell p.1
             (match p.2 with
             |Sum.inl x_3=>Comp.pure ([],.next (zG .i64 x 1))
             |Sum.inr x=>Comp.pure ([],.done (Sum.inr ())))
        else Comp.pure ([],.done (Sum.inl ()))))
  (fun i p hp=>by
   have gF:=zN hp;rw[zLz (by grind),zA,zO hp,zLX,zJ (by omega),zA,mC (by omega),zLX,zA,mid p i gF,zLX,Ym]
   grind [Comp.zB])
  (by simp[zY,zQ])
 rw[List.range_eq_range',IY r _ (fun t=>([t.1,t.2.1,t.2.2],())) 0 (fun k p hk=>by grind)]at h1
 rw[zA,zA];refine(zLq (fun o=>Option.bind (Option.bind o _) _) h1).trans ?_
 grind [Ym,Comp.zB]
def rm(p:Pln)(x:Pnt):Int:=W (p.2.1 * x.2.2.2.1-dt p.1 (x.1,x.2.1,x.2.2.1,()))
def ins(r:List Pln)(x:Pnt):Bool:=r.all fun p=>decide (0<=rm p x)
def ZX(r:List Pln)(l:List Pnt)(t:Pln×Pln×Pln):List Pnt:=match mt t.1 t.2.1 t.2.2 with
 |none=>l
 |some x=>if x∈l then l else bif ins r x then l++[x] else l
def crn(r:List Pln):List Pnt:=(tri r).foldl (ZX r) []
def full(r:List Pln):Bool:=r.all fun p=>(crn r).any fun x=>decide (0<rm p x)
theorem qP(p:Pln)(x:Pnt):(Zl p x).val=some (rm p x,()):=by
 unfold Zl Zi;rw[zA,Comp.zB,zLX,Comp.zB]
 congr 2
 unfold rm dt;grind [Qr,Ra,zEV,He,Hd,Wo,Wn]
theorem YH{r:List Pln}{x:Pnt}(hl:r.length<9223372036854775807):(Zv r x).val=some (ins r x,()):=by
 unfold Zv;have h1:(zW r fun z=>jv z.1 x).val=some (r.any fun p=>decide (rm p x<0),()) :=
  Z0 (xs:=r) (f:=fun z=>jv z.1 x) (p:=fun p=>decide (rm p x<0)) hl fun p _=>by
   grind [jv,val,zA,qP,Comp.zB]
 grind [zA,Comp.zB,ins,yS,List.all_eq_not_any_not,rm]
def lj(x y:Pnt):Bool:=adB (eqI x.1 y.1) (adB (eqI x.2.1 y.2.1) (adB (eqI x.2.2.1 y.2.2.1) (eqI x.2.2.2.1 y.2.2.2.1)))
theorem lD(x y:Pnt):lj x y=decide (x=y):=by
 simp[lj,eqI,adB,Bool.eq_iff_iff,Prod.ext_iff]
def kn(l:List Pnt):List (Pnt×Bool):=l.map fun x=>(x,true)
theorem zDs(l:List Pnt)(x:Pnt):mgB lj (kn l) x=if x∈l then some true else none:=by
 induction l with
 |nil=>rfl
 |cons y l ih =>
  grind [lj,mgB,kn,lD]
theorem zDr{l:List Pnt}{x:Pnt}(h:x ∉ l):mpB lj (kn l) x true=kn (l++[x]):=by
 induction l with
 |nil=>rfl
 |cons y l ih =>
  simp only[zLd,not_or]at h;show (bif lj x y then (x,true)::kn l else (y,true)::mpB lj (kn l) x true)=_
  rw[lD,zMB h.1,cond_false,ih h.2];rfl
theorem mB:∀ {r:List α} {t:α×α×α},t∈tri r->t.1∈r/\t.2.1∈r/\t.2.2∈r
 | [],_,h=>by cases h
 |p::l,t,h=>by
  have prs_mem:∀ {l:List α} {t:α×α},t∈prs l->t.1∈l/\t.2∈l:=by
   intro l
   induction l with
   |nil=>intro t h;cases h
   |cons q l ih =>
    intro t h;simp only[prs,zLi,List.mem_map]at h;grind
  simp only[tri,zLi,List.mem_map]at h;rcases h with ⟨s,h1,rfl⟩|h
  ·grind
  ·have:=mB h
   grind
theorem VL(l:List α):(prs l).length<=l.length * l.length:=by
 induction l with
 |nil=>simp[prs]
 |cons x l ih =>
  grind [prs,zLa,List.length_map,zLh,Nat.add_mul,Nat.mul_add]
theorem Kt(l:List α):(tri l).length<=l.length * (l.length * l.length):=by
 induction l with
 |nil=>simp[tri]
 |cons x l ih =>
  simp only[tri,zLa,List.length_map,zLh];have h1:=VL l
  grind
theorem Km{r:List Pln}{l:List Pnt}{t:Pln×Pln×Pln}:(ZX r l t).length<=l.length+1:=by
 grind [ZX,ins]
theorem lF(r:List Pln):(crn r).length<=(tri r).length:=by
 unfold crn;have key:∀(ts:List (Pln×Pln×Pln)) (l:List Pnt),(ts.foldl (ZX r) l).length<=l.length+ts.length:=by
  intro ts
  induction ts with
  |nil=>grind
  |cons t ts ih =>
   grind [ZX,Km,zLh]
 grind
theorem JT{b k i:Bool}{c:Comp (Bool×Unit)}(hc:b=true->k=false->c.val=some (i,())){A B:Comp β} :
  ((Comp.gd (sel b (ntB k) false) c (false,())).bind fun x2=>if sel (sel b (ntB k) false) x2.1 false=true then A else B).val=(bif b && (!k && i) then A else B).val:=by
 rw[zA]
 cases b with
 |false =>
  show (Option.bind (Comp.pure (false,())).val _)=_
  rw[Comp.zB,zLX];rfl
 |true =>
  cases k with
  |true =>
   show (Option.bind (Comp.pure (false,())).val _)=_
   rw[Comp.zB,zLX];rfl
  |false =>
   have:=hc rfl rfl;show (Option.bind c.val _)=_
   grind
theorem w8{r:List Pln}(hl:r.length<=1000)(hb:∀p∈r,okB p):(vj r).val=some (crn r,()):=by
 have hL:=YY;have h3:(tri r).length<=1000000000:=by
  refine zLg (Kt r) ?_;exact Nat.mul_le_mul hl (Nat.mul_le_mul hl hl)
 unfold vj kL;rw[zA,Comp.zB,zLX,zA,AW (by omega),zLX]
 -- the walk over a list of triples,from a list of vertices
 have key:∀(ts:List (Pln×Pln×Pln)) (l:List Pnt),(∀t∈ts,okB t.1/\okB t.2.1/\okB t.2.2)->l.length+ts.length<=1000000000->(wA
       (fun (x:List (Pnt)×List ((Pnt)×Bool))
         (d:List (Pln)×Unit) =>
        (Go.F.XW d.1).bind fun x_1=>(Comp.gd
            (sel x_1.2.1
             (ntB
              (match
               mgB
                (fun (x x_2:Pnt)=>adB (eqI x.1 x_2.1) (adB (eqI x.2.1 x_2.2.1) (adB (eqI x.2.2.1 x_2.2.2.1) (eqI x.2.2.2.1 x_2.2.2.2.1))))
                x.2 x_1.1 with
              |some x=>x
              |none=>false))
             false)
            (Go.F.Zv r x_1.1) (false,())).bind fun x_2=>jn (fun (x:List (Pnt)×List ((Pnt)×Bool))=>Comp.pure (.next (x.1,x.2)))
           fun (j :
             List (Pnt)×List ((Pnt)×Bool)->Comp (Comp.Step (List (Pnt)×List ((Pnt)×Bool)) Empty)) =>
           if
             sel
               (sel x_1.2.1
                (ntB
                 (match
                  mgB
                   (fun (x x_3:Pnt)=>adB (eqI x.1 x_3.1) (adB (eqI x.2.1 x_3.2.1) (adB (eqI x.2.2.1 x_3.2.2.1) (eqI x.2.2.2.1 x_3.2.2.2.1))))
                   x.2 x_1.1 with
                 |some x=>x
                 |none=>false))
                false)
               x_2.1 false =
              true then
            (app x.1 [x_1.1]).bind fun zs=>j
              (zs,
               mpB
                (fun (x x_3:Pnt)=>adB (eqI x.1 x_3.1) (adB (eqI x.2.1 x_3.2.1) (adB (eqI x.2.2.1 x_3.2.2.1) (eqI x.2.2.2.1 x_3.2.2.2.1))))
                x.2 x_1.1 true)
           else j (x.1,x.2))
       (ts.map fun t=>([t.1,t.2.1,t.2.2],())) (l,kn l)).val=some (.next (ts.foldl (ZX r) l,kn (ts.foldl (ZX r) l))):=by
  intro ts
  induction ts with
  |nil=>intro l _ _;exact Comp.zB _
  |cons t ts ih =>
   intro l bP fA;obtain⟨h1,h2,h3⟩:=bP t (by simp)
   simp only[zLh]at fA;rw[List.map_cons];unfold wA;have hmg:∀x,(match mgB (fun (x x_2:Pnt)=>adB (eqI x.1 x_2.1) (adB (eqI x.2.1 x_2.2.1) (adB (eqI x.2.2.1 x_2.2.2.1) (eqI x.2.2.2.1 x_2.2.2.2.1)))) (kn l) x with|some x=>x|none=>false)=decide (x∈l):=by
    intro x;show (match mgB lj (kn l) x with|some x=>x|none=>false)=_
    grind [zDs]
   have hlen':=Km (r:=r) (l:=l) (t:=t);have sM:=ih (ZX r l t) (fun t' ht'=>bP t' (zLj _ ht')) (by omega)
   rw[zA,zA,rR h1 h2 h3,zLX,List.foldl_cons]
   let B0:Comp (Comp.Step (List Pnt×List (Pnt×Bool)) Empty):=Comp.pure (.next (l,kn l))
   let A0:Pnt->Comp (Comp.Step (List Pnt×List (Pnt×Bool)) Empty):=fun x=>(app l [x]).bind fun zs=>Comp.pure (.next (zs,mpB lj (kn l) x true))
   cases hm:mt t.1 t.2.1 t.2.2 with
   |none =>
    have aU:ZX r l t=l:=by grind [ZX]
    rw[aU]at sM |-;refine(zLq (fun o=>Option.bind o _) ((JT (b:=false) (i:=false) (fun h=>nomatch h) (A:=A0 (0,0,0,0,())) (B:=B0)).trans (Comp.zB _))).trans ?_
    exact sM
   |some x =>
    have aU:ZX r l t=if x∈l then l else bif ins r x then l++[x] else l:=by grind [ZX]
    by_cases hx:x∈l
    ·rw[zLz hx]at aU
     rw[aU]at sM |-;have hk:=hmg x
     rw[zMC hx]at hk;have hv:∀k,k=true->(bif true && (!k && ins r x) then A0 x else B0).val=some (.next (l,kn l)):=fun k hk=>by grind [Comp.zB]
     refine(zLq (fun o=>Option.bind o _) ((JT (b:=true) (i:=ins r x) (fun _ _=>YH (by omega)) (A:=A0 x) (B:=B0)).trans (hv _ hk))).trans ?_
     exact sM
    ·rw[zMA hx]at aU
     have hk:=hmg x;rw[zMB hx]at hk
     cases fE:ins r x with
     |false =>
      rw[fE,cond_false]at aU;rw[aU]at sM |-;have hv:∀k,k=false->(bif true && (!k && ins r x) then A0 x else B0).val=some (.next (l,kn l)):=fun k hk=>by grind [Comp.zB]
      refine(zLq (fun o=>Option.bind o _) ((JT (b:=true) (i:=ins r x) (fun _ _=>YH (by omega)) (A:=A0 x) (B:=B0)).trans (hv _ hk))).trans ?_
      exact sM
     |true =>
      rw[fE,cond_true]at aU;rw[aU]at sM |-;have hv:∀k,k=false->(bif true && (!k && ins r x) then A0 x else B0).val=some (.next (l++[x],kn (l++[x]))):=fun k hk=>by
       subst hk;rw[fE];show ((app l [x]).bind fun zs=>(Comp.pure (.next (zs,mpB lj (kn l) x true)):Comp (Comp.Step (List Pnt×List (Pnt×Bool)) Empty))).val=_
       rw[zA,yY (by grind [zLc,LIM]),zLX,Comp.zB,zDr hx]
      refine(zLq (fun o=>Option.bind o _) ((JT (b:=true) (i:=ins r x) (fun _ _=>YH (by omega)) (A:=A0 x) (B:=B0)).trans (hv _ hk))).trans ?_
      exact sM
 have h1:=key (tri r) [] (fun t ht=>by
  grind [mB]) (by grind)
 rw[zA];refine(zLq (fun o=>Option.bind o _) h1).trans ?_
 rw[zLX];exact Comp.zB _
theorem B3{r:List Pln}(hl:r.length<=1000)(hb:∀p∈r,okB p):(gw r).val=some (full r,()):=by
 have hL:=YY;have h3:(crn r).length<=1000000000:=by
  refine zLg (lF r) (zLg (Kt r) ?_);exact Nat.mul_le_mul hl (Nat.mul_le_mul hl hl)
 unfold gw;rw[zA,w8 hl hb,zLX];have h1:(yG r fun z=>vA z.1 (crn r)).val=some (r.any fun p=>!(crn r).any fun x=>decide (0<rm p x),()) :=
  Z0 (xs:=r) (f:=fun z=>vA z.1 (crn r)) (p:=fun p=>!(crn r).any fun x=>decide (0<rm p x)) (by omega) fun p _=>by
   show (vA p (crn r)).val=_
   unfold vA;have h2:(yP (crn r) fun z=>yv z.1 p).val=some ((crn r).any fun x=>decide (0<rm p x),()) :=
    Z0 (xs:=crn r) (f:=fun z=>yv z.1 p) (p:=fun x=>decide (0<rm p x)) (by omega) fun x _=>by
     grind [yv,val,zA,qP,Comp.zB]
   grind [zA,Comp.zB]
 grind [zA,Comp.zB,yS,full,List.all_eq_not_any_not]
def bx0:List Pln:=[((1,0,0,()),24,()),((-1,0,0,()),24,()),((0,1,0,()),24,()),((0, -1,0,()),24,()),((0,0,1,()),24,()),((0,0, -1,()),24,())]
theorem rK:∀p∈bx0,okB p:=by
 intro p hp;unfold bx0 at hp;simp only[zLd,List.not_mem_nil,or_false]at hp;unfold okB Bd;rcases hp with rfl|rfl|rfl|rfl|rfl|rfl<;>simp
theorem zr{l:List (List Pln)}(hl:l.length<9223372036854775807)(h:l.flatten.length<=1000):(cell_of l).val=some (l.flatten++bx0,()):=by
 unfold cell_of;have h1:(zL l).val=some (l.flatten,()):=lK (z:=((0,0,0,()),0,())) (by grind [LIM]) hl
 rw[zA,h1,zLX];generalize l.flatten=c at h;have h2:=Yf (fun (s:List Pln) i=>(s,((i:Nat):Int))) [(1,0,0,()),(-1,0,0,()),(0,1,0,()),(0, -1,0,()),(0,0,1,()),(0,0, -1,())] (fun (s:List Pln) (x:V3)=>.next (s++[(x,24,())])) (fun s=>s) (fun s i=>s.length=c.length+i)
  (body:=(fun (x:List (Pln)×Int)=>if
         ltI x.2
           (zD
            [(1,0,0,()),(-1,0,0,()),(0,1,0,()),(0, -1,0,()),(0,0,1,()),
             (0,0, -1,())]) =
          true then
        (idx [(1,0,0,()),(-1,0,0,()),(0,1,0,()),(0, -1,0,()),(0,0,1,()),(0,0, -1,())]
           x.2).bind fun x_1=>(app x.1 [(x_1,24,())]).bind fun zs=>Comp.pure (.next (zs,zG .i64 x.2 1))
       else Comp.pure (.done x.1)))
  (fun s i x hx hs=>by
   have gF:=zN hx;simp only[zLh,List.length_nil]at gF;rw[zLz (by grind),zA,zO hx,zLX,zA,yY (by grind [zLc,LIM]),zLX,Comp.zB,zJ (by omega)]
   rfl)
  (fun s i x s' hx hs he=>by grind)
  (fun s hs=>by simp[zMA,zY,zQ,Comp.zB]) c (by simp)
 rw[Xj]at h2;rw[zA];refine(zLq (fun o=>Option.bind o _) h2).trans ?_
 simp[zLX,Comp.zB,bx0]
theorem Y8{c:List Pln}(h:chk c=0):c.length<=48/\∀p∈c,okB p:=by
 grind [E7,zGE,zME]
def ful(c:List Pln):Bool:=decide (chk c=0) && full (c++bx0)
def apa(a b:List Pln):Bool:=!(decide (chk a=0) && decide (chk b=0)) || !full (a++b++bx0)
theorem Zn(c:List Pln):(kH c).val=some (ful c,()):=by
 unfold kH;rw[vo,zA,Yd _ (by simp),zLX]
 simp only[List.all_cons,List.all_nil,Bool.and_true];unfold ful;by_cases h:chk c=0
 ·obtain⟨h1,h2⟩:=Y8 h
  rw[zLz (by grind),zA,zr (by simp) (by grind),zLX,zA]
  simp only[List.flatten_cons,List.flatten_nil,zMF];rw[B3 (by simp[bx0];omega) (fun p hp=>(zLi.1 hp).elim (h2 p) (rK p)),zLX,Comp.zB,zMC h,Bool.true_and]
 simp_all
theorem jx(a b:List Pln):(kt a b).val=some (apa a b,()):=by
 unfold kt;rw[vo,zA,Yd _ (by simp),zLX]
 simp only[List.all_cons,List.all_nil,Bool.and_true,yS,Bool.not_not];unfold apa;by_cases h:(decide (chk a=0) && decide (chk b=0))=true
 ·rw[zLz h,h]
  simp only[zLZ,zLr]at h;obtain⟨h1,h2⟩:=Y8 h.1;obtain⟨h3,h4⟩:=Y8 h.2;rw[zA,zr (by simp) (by grind),zLX,zA]
  simp only[List.flatten_cons,List.flatten_nil,zMF];rw[B3 (by simp[bx0];omega) (fun p hp=>(zLi.1 hp).elim (fun hp=>(zLi.1 hp).elim (h2 p) (h4 p)) (rK p)),zLX,Comp.zB]
  rfl
 ·have h':(decide (chk a=0) && decide (chk b=0))=false:=by grind
  rw[zMA h,h',Comp.zB];rfl
theorem wL(p:Pln)(x:Pnt):(zd p x).val=some (rm p x,()):=by
 unfold zd;rw[Comp.zB]
 congr 2
 unfold rm dt;grind [Qr,Ra,He,Hd]
theorem VG{r:List Pln}{x:Pnt}(hl:r.length<9223372036854775807):(gG r x).val=some (ins r x,()):=by
 unfold gG;have h1:=Z1 r (fun p=>decide (0<=rm p x)) (c:=(Sum.inr false:Unit⊕Bool)) (d:=Sum.inl ())
  (body:=(fun (x_1:Int)=>if ltI x_1 (zD r)=true then
       (idx r x_1).bind fun x_2=>(Go.F.zd x_2 x).bind fun x_3=>if ltI x_3.1 0=true then Comp.pure (.done (Sum.inr false)) else Comp.pure (.next (zG .i64 x_1 1))
      else Comp.pure (.done (Sum.inl ()))))
  (fun i p hp=>by
   have gF:=zN hp;rw[zLz (by grind),zA,zO hp,zLX,zA,wL,zLX,zJ (by omega)]
   by_cases h:rm p x<0
   ·simp_all [zY]
   simp_all [zMA,zY])
  (by simp[zY,zQ])
 rw[zA];refine(zLq (fun o=>Option.bind o _) h1).trans ?_
 grind [ins,Comp.zB]
theorem DR{l:List Pnt}{x:Pnt}(hl:l.length<9223372036854775807):(yy l x).val=some (decide (x∈l),()):=by
 unfold yy;have h1:=Z1 l (fun y=>!decide (y=x)) (c:=(Sum.inr true:Unit⊕Bool)) (d:=Sum.inl ())
  (body:=(fun (i:Int)=>if ltI i (zD l)=true then
       (idx l i).bind fun x_1=>if adB (eqI x_1.1 x.1) (adB (eqI x_1.2.1 x.2.1) (adB (eqI x_1.2.2.1 x.2.2.1) (eqI x_1.2.2.2.1 x.2.2.2.1)))=true then
         Comp.pure (.done (Sum.inr true))
        else Comp.pure (.next (zG .i64 i 1))
      else Comp.pure (.done (Sum.inl ()))))
  (fun i p hp=>by
   have gF:=zN hp;have he:adB (eqI p.1 x.1) (adB (eqI p.2.1 x.2.1) (adB (eqI p.2.2.1 x.2.2.1) (eqI p.2.2.2.1 x.2.2.2.1)))=decide (p=x):=lD p x
   rw[zLz (by grind),zA,zO hp,zLX,zJ (by omega)]
   by_cases h:p=x
   ·simp_all
   simp_all)
  (by simp[zY,zQ])
 rw[zA];refine(zLq (fun o=>Option.bind o _) h1).trans ?_
 grind [Comp.zB]
theorem ZJ{body:σ×Int->Comp (Comp.Step (σ×Int) σ)}(n:Nat)(G F:Nat->σ->σ)(I:σ->Nat->Prop)
  (hb:∀s (i:Nat),i<n->I s i->(body (s,(i:Int))).val=some (.next (G i s,((i+1:Nat):Int)))/\I (G i s) (i+1)/\F i s=F (i+1) (G i s)) (he:∀s,(body (s,(n:Int))).val=some (.done s)) (hF:∀s,F n s=s) :
  ∀(k:Nat) (s:σ),k<=n->I s k->(Comp.loop body (s,(k:Int))).val=some (F k s):=by
 have key:∀(m k:Nat) (s:σ),k+m=n->I s k->(Comp.loop body (s,(k:Int))).val=some (F k s):=by
  intro m
  induction m with
  |zero =>
   grind [zM]
  |succ m ih =>
   grind [zM]
 exact fun k s hk hI=>key (n-k) k s (by omega) hI
theorem drop_cons{xs:List α}{k:Nat}{x:α}(h:xs[k]?=some x):xs.drop k=x::xs.drop (k+1):=by
 grind [List.drop_eq_getElem_cons]
theorem pX{r:List Pln}(ts:List (Pln×Pln×Pln)):∀(l:List Pnt),(ts.foldl (ZX r) l).length<=l.length+ts.length:=by
 induction ts with
 |nil=>grind
 |cons t ts ih =>
  grind [Km]
theorem wb{b i h:Bool}{c:Comp (Bool×Unit)}{d:Comp (Bool×Unit)}(hc:b=true->c.val=some (i,()))(hd:b=true->i=true->d.val=some (h,())){A B:Comp β} :
  ((Comp.gd b c (false,())).bind fun x5=>(Comp.gd (sel b x5.1 false) d (false,())).bind fun x6=>if sel (sel b x5.1 false) (ntB x6.1) false=true then A else B).val=(bif b && (i && !h) then A else B).val:=by
 rw[zA]
 cases b with
 |false =>
  show (Option.bind (Comp.pure (false,())).val _)=_
  rw[Comp.zB,zLX,zA];show (Option.bind (Comp.pure (false,())).val _)=_
  rw[Comp.zB,zLX];rfl
 |true =>
  have h1:=hc rfl;show (Option.bind c.val _)=_
  rw[h1,zLX,zA]
  cases i with
  |false =>
   show (Option.bind (Comp.pure (false,())).val _)=_
   rw[Comp.zB,zLX];rfl
  |true =>
   have h2:=hd rfl rfl;show (Option.bind d.val _)=_
   grind
theorem KQ{r:List Pln}(hl:r.length<=1000)(hb:∀p∈r,okB p):(vi r).val=some (crn r,()):=by
 have hL:=YY;have h3:(tri r).length<=1000000000:=by
  refine zLg (Kt r) ?_;exact Nat.mul_le_mul hl (Nat.mul_le_mul hl hl)
 unfold vi
 -- the innermost walk
 have inner:∀(i j:Nat) (p q:Pln),r[i]?=some p->r[j]?=some q->∀(k:Nat) (l:List Pnt),k<=r.length->l.length+(r.length-k)<=1000000000->(Comp.loop
               (fun (x_2:List (Pnt)×Int)=>if ltI x_2.2 (zD r)=true then
                 (idx r (i:Int)).bind fun x=>(idx r (j:Int)).bind fun x_3=>(idx r x_2.2).bind fun x_4=>(Go.F.vJ x x_3 x_4).bind fun x=>(Comp.gd x.2.1 (Go.F.gG r x.1) (false,())).bind fun x_5=>(Comp.gd (sel x.2.1 x_5.1 false) (Go.F.yy x_2.1 x.1) (false,())).bind fun x_6=>jn (fun (x:List (Pnt))=>Comp.pure (.next (x,zG .i64 x_2.2 1)))
                        fun (j :
                          List (Pnt)->Comp (Comp.Step (List (Pnt)×Int) (List (Pnt)))) =>
                        if sel (sel x.2.1 x_5.1 false) (ntB x_6.1) false=true then
                         (app x_2.1 [x.1]).bind fun zs=>j zs
                        else j x_2.1
                else Comp.pure (.done x_2.1)) (l,(k:Int))).val=some ((r.drop k).foldl (fun l s=>ZX r l (p,q,s)) l):=by
  intro i j p q hp hq;refine ZJ r.length (fun k l=>match r[k]? with|some s=>ZX r l (p,q,s)|none=>l) (fun k l=>(r.drop k).foldl (fun l s=>ZX r l (p,q,s)) l) (fun l k=>l.length+(r.length-k)<=1000000000)
   (fun l k hk hI=>?_) (fun l=>by simp[zY,zQ]) (fun l=>by grind)
  obtain⟨s,hs⟩:=zK (xs:=r) (k:=k) hk;have fA:=Km (r:=r) (l:=l) (t:=(p,q,s))
  refine⟨?_,by grind,by rw[drop_cons hs,hs];rfl⟩
  rw[hs];simp only;rw[zLz (by grind),zA,zO hp,zLX,zA,zO hq,zLX,zA,zO hs,zLX,zA,
   Il (hb p (zLe hp)) (hb q (zLe hq)) (hb s (zLe hs)),zLX]
  let A0:Pnt->Comp (Comp.Step (List Pnt×Int) (List Pnt)):=fun x=>(app l [x]).bind fun zs=>Comp.pure (.next (zs,zG .i64 (k:Int) 1))
  let B0:Comp (Comp.Step (List Pnt×Int) (List Pnt)):=Comp.pure (.next (l,zG .i64 (k:Int) 1))
  cases hm:mt p q s with
  |none =>
   have aU:ZX r l (p,q,s)=l:=by grind [ZX]
   rw[aU];refine(wb (b:=false) (i:=false) (h:=false) (fun h=>nomatch h) (fun h=>nomatch h) (A:=A0 (0,0,0,0,())) (B:=B0)).trans ?_
   grind [Comp.zB]
  |some x =>
   have aU:ZX r l (p,q,s)=if x∈l then l else bif ins r x then l++[x] else l:=by grind [ZX]
   refine(wb (b:=true) (i:=ins r x) (h:=decide (x∈l)) (fun _=>VG (by omega)) (fun _ _=>DR (by omega)) (A:=A0 x) (B:=B0)).trans ?_
   rw[aU,<-zJ (show k<9223372036854775807 by omega)]
   by_cases hx:x∈l
   ·rw[zMC hx,zLz hx]
    grind [Comp.zB]
   ·rw[zMB hx,zMA hx]
    cases ins r x with
    |false=>exact Comp.zB _
    |true =>
     show (A0 x).val=_
     show ((app l [x]).bind fun zs=>(Comp.pure (.next (zs,zG .i64 (k:Int) 1)):Comp (Comp.Step (List Pnt×Int) (List Pnt)))).val=_
     grind [zA,yY,LIM,Comp.zB]
 have mid:∀(i:Nat) (p:Pln),r[i]?=some p->∀(k:Nat) (l:List Pnt),k<=r.length->l.length+(prs (r.drop k)).length<=1000000000->(Comp.loop
          (fun (x_1:List (Pnt)×Int)=>if ltI x_1.2 (zD r)=true then
            (Comp.loop
               (fun (x_2:List (Pnt)×Int)=>if ltI x_2.2 (zD r)=true then
                 (idx r (i:Int)).bind fun x=>(idx r x_1.2).bind fun x_3=>(idx r x_2.2).bind fun x_4=>(Go.F.vJ x x_3 x_4).bind fun x=>(Comp.gd x.2.1 (Go.F.gG r x.1) (false,())).bind fun x_5=>(Comp.gd (sel x.2.1 x_5.1 false) (Go.F.yy x_2.1 x.1) (false,())).bind fun x_6=>jn (fun (x:List (Pnt))=>Comp.pure (.next (x,zG .i64 x_2.2 1)))
                        fun (j :
                          List (Pnt)->Comp (Comp.Step (List (Pnt)×Int) (List (Pnt)))) =>
                        if sel (sel x.2.1 x_5.1 false) (ntB x_6.1) false=true then
                         (app x_2.1 [x.1]).bind fun zs=>j zs
                        else j x_2.1
                else Comp.pure (.done x_2.1))
               (x_1.1,zG .i64 x_1.2 1)).bind fun x=>Comp.pure (.next (x,zG .i64 x_1.2 1))
           else Comp.pure (.done x_1.1)) (l,(k:Int))).val=some ((prs (r.drop k)).foldl (fun l t=>ZX r l (p,t)) l):=by
  intro i p hp;refine ZJ r.length (fun k l=>match r[k]? with|some q=>(r.drop (k+1)).foldl (fun l s=>ZX r l (p,q,s)) l|none=>l) (fun k l=>(prs (r.drop k)).foldl (fun l t=>ZX r l (p,t)) l) (fun l k=>l.length+(prs (r.drop k)).length<=1000000000)
   (fun l k hk hI=>?_) (fun l=>by simp[zY,zQ]) (fun l=>by rw[List.drop_length];rfl)
  obtain⟨q,hq⟩:=zK (xs:=r) (k:=k) hk;have hpl:(prs (r.drop k)).length=(r.length-(k+1))+(prs (r.drop (k+1))).length:=by rw[drop_cons hq,prs,zLa,List.length_map,List.length_drop]
  have cM:((r.drop (k+1)).foldl (fun l s=>ZX r l (p,q,s)) l).length<=l.length+(r.length-(k+1)):=by
   have:=pX (r:=r) ((r.drop (k+1)).map fun s=>(p,q,s)) l
   grind [List.foldl_map]
  refine⟨?_,by grind,by rw[drop_cons hq,hq,prs,List.foldl_append,List.foldl_map]⟩
  rw[hq];simp only;rw[zLz (by grind),zA]
  have h4:=inner i k p q hp hq (k+1) l (by omega) (by omega)
  rw[<-zJ (show k<9223372036854775807 by omega)]at h4
  refine(zLq (fun o=>Option.bind o _) h4).trans ?_
  rw[zLX,Comp.zB,zJ (show k<9223372036854775807 by omega)]
 have outer:∀(k:Nat) (l:List Pnt),k<=r.length->l.length+(tri (r.drop k)).length<=1000000000->(Comp.loop
     (fun (x:List (Pnt)×Int)=>if ltI x.2 (zD r)=true then
       (Comp.loop
          (fun (x_1:List (Pnt)×Int)=>if ltI x_1.2 (zD r)=true then
            (Comp.loop
               (fun (x_2:List (Pnt)×Int)=>if ltI x_2.2 (zD r)=true then
                 (idx r x.2).bind fun x=>(idx r x_1.2).bind fun x_3=>(idx r x_2.2).bind fun x_4=>(Go.F.vJ x x_3 x_4).bind fun x=>(Comp.gd x.2.1 (Go.F.gG r x.1) (false,())).bind fun x_5=>(Comp.gd (sel x.2.1 x_5.1 false) (Go.F.yy x_2.1 x.1) (false,())).bind fun x_6=>jn (fun (x:List (Pnt))=>Comp.pure (.next (x,zG .i64 x_2.2 1)))
                        fun (j :
                          List (Pnt)->Comp (Comp.Step (List (Pnt)×Int) (List (Pnt)))) =>
                        if sel (sel x.2.1 x_5.1 false) (ntB x_6.1) false=true then
                         (app x_2.1 [x.1]).bind fun zs=>j zs
                        else j x_2.1
                else Comp.pure (.done x_2.1))
               (x_1.1,zG .i64 x_1.2 1)).bind fun x=>Comp.pure (.next (x,zG .i64 x_1.2 1))
           else Comp.pure (.done x_1.1))
          (x.1,zG .i64 x.2 1)).bind fun x_1=>Comp.pure (.next (x_1,zG .i64 x.2 1))
      else Comp.pure (.done x.1)) (l,(k:Int))).val=some ((tri (r.drop k)).foldl (ZX r) l):=by
  refine ZJ r.length (fun k l=>match r[k]? with|some p=>(prs (r.drop (k+1))).foldl (fun l t=>ZX r l (p,t)) l|none=>l) (fun k l=>(tri (r.drop k)).foldl (ZX r) l) (fun l k=>l.length+(tri (r.drop k)).length<=1000000000)
   (fun l k hk hI=>?_) (fun l=>by simp[zY,zQ]) (fun l=>by rw[List.drop_length];rfl)
  obtain⟨p,hp⟩:=zK (xs:=r) (k:=k) hk;have hpl:(tri (r.drop k)).length=(prs (r.drop (k+1))).length+(tri (r.drop (k+1))).length:=by rw[drop_cons hp,tri,zLa,List.length_map]
  have cM:((prs (r.drop (k+1))).foldl (fun l t=>ZX r l (p,t)) l).length<=l.length+(prs (r.drop (k+1))).length:=by
   have:=pX (r:=r) ((prs (r.drop (k+1))).map fun t=>(p,t)) l
   grind [List.foldl_map]
  refine⟨?_,by grind,by rw[drop_cons hp,hp,tri,List.foldl_append,List.foldl_map]⟩
  rw[hp];simp only;rw[zLz (by grind),zA]
  have h4:=mid k p hp (k+1) l (by omega) (by omega)
  rw[<-zJ (show k<9223372036854775807 by omega)]at h4
  refine(zLq (fun o=>Option.bind o _) h4).trans ?_
  rw[zLX,Comp.zB,zJ (show k<9223372036854775807 by omega)]
 have h1:=outer 0 [] (Nat.zero_le _) (by grind)
 rw[zA];refine(zLq (fun o=>Option.bind o _) h1).trans ?_
 rw[zLX];exact Comp.zB _
theorem pA{r:List Pln}(hl:r.length<=1000)(hb:∀p∈r,okB p):(gq r).val=some (full r,()):=by
 have hL:=YY;have h3:(crn r).length<=1000000000:=by
  refine zLg (lF r) (zLg (Kt r) ?_);exact Nat.mul_le_mul hl (Nat.mul_le_mul hl hl)
 unfold gq;rw[zA,KQ hl hb,zLX];have inner:∀(i:Nat) (p:Pln),r[i]?=some p->(Comp.loop
           (fun (x_1:Bool×Int)=>if ltI x_1.2 (zD (crn r))=true then
             (Comp.gd (ntB x_1.1) (idx r (i:Int)) ((0,0,0,()),0,())).bind fun x=>(Comp.gd (ntB x_1.1) (idx (crn r) x_1.2) (0,0,0,0,())).bind fun x_2=>(Comp.gd (ntB x_1.1) (Go.F.zd x x_2) (0,())).bind fun x=>Comp.pure (.next (sel x_1.1 true (gtI x.1 0),zG .i64 x_1.2 1))
            else Comp.pure (.done x_1.1))
           (false,((0:Nat):Int))).val=some ((crn r).any fun x=>decide (0<rm p x)):=by
  intro i p hp;have h5:=ZJ (crn r).length (fun k b=>match (crn r)[k]? with|some x=>b || decide (0<rm p x)|none=>b) (fun k b=>b || ((crn r).drop k).any fun x=>decide (0<rm p x)) (fun _ _=>True)
   (body:=(fun (x_1:Bool×Int)=>if ltI x_1.2 (zD (crn r))=true then
             (Comp.gd (ntB x_1.1) (idx r (i:Int)) ((0,0,0,()),0,())).bind fun x=>(Comp.gd (ntB x_1.1) (idx (crn r) x_1.2) (0,0,0,0,())).bind fun x_2=>(Comp.gd (ntB x_1.1) (Go.F.zd x x_2) (0,())).bind fun x=>Comp.pure (.next (sel x_1.1 true (gtI x.1 0),zG .i64 x_1.2 1))
            else Comp.pure (.done x_1.1)))
   (fun b k hk _=>by
    obtain⟨x,hx⟩:=zK (xs:=crn r) (k:=k) hk;refine⟨?_,trivial,by rw[drop_cons hx,hx,List.any_cons,Bool.or_assoc]⟩
    rw[hx];simp only;rw[zLz (by grind),zA]
    cases b with
    |true =>
     show Option.bind (Comp.pure _).val _=_
     rw[Comp.zB,zLX,zA];show Option.bind (Comp.pure _).val _=_
     rw[Comp.zB,zLX,zA];show Option.bind (Comp.pure _).val _=_
     grind [Comp.zB]
    |false =>
     show Option.bind (idx r (i:Int)).val _=_
     rw[zO hp,zLX,zA];show Option.bind (idx (crn r) (k:Int)).val _=_
     rw[zO hx,zLX,zA];show Option.bind (zd p x).val _=_
     grind [wL,Comp.zB])
   (fun b=>by simp[zY,zQ]) (fun b=>by grind) 0 false (Nat.zero_le _) trivial
  grind
 have h1:=Z1 r (fun p=>(crn r).any fun x=>decide (0<rm p x)) (c:=(Sum.inr false:Unit⊕Bool)) (d:=Sum.inl ())
  (body:=(fun (x:Int)=>if ltI x (zD r)=true then
        (Comp.loop
           (fun (x_1:Bool×Int)=>if ltI x_1.2 (zD (crn r))=true then
             (Comp.gd (ntB x_1.1) (idx r x) ((0,0,0,()),0,())).bind fun x=>(Comp.gd (ntB x_1.1) (idx (crn r) x_1.2) (0,0,0,0,())).bind fun x_2=>(Comp.gd (ntB x_1.1) (Go.F.zd x x_2) (0,())).bind fun x=>Comp.pure (.next (sel x_1.1 true (gtI x.1 0),zG .i64 x_1.2 1))
            else Comp.pure (.done x_1.1))
           (false,0)).bind fun x_1=>if ntB x_1=true then Comp.pure (.done (Sum.inr false)) else Comp.pure (.next (zG .i64 x 1))
       else Comp.pure (.done (Sum.inl ()))))
  (fun i p hp=>by
   have gF:=zN hp;rw[zLz (by grind),zA]
   refine(zLq (fun o=>Option.bind o _) (inner i p hp)).trans ?_
   grind [Comp.zB])
  (by simp[zY,zQ])
 rw[zA];refine(zLq (fun o=>Option.bind o _) h1).trans ?_
 grind [full,Comp.zB]
theorem qR{c:List Pln}(h:c.length<=1000):(gM c).val=some (c++bx0,()):=by
 unfold gM;have h1:(zq (-24, -24, -24,()) (24,24,24,())).val=some (bx0,()):=by
  unfold zq;rw[Comp.zB];rfl
 rw[zA,yY (by grind [LIM]),zLX,zA,h1,zLX,zA,yY (by simp[bx0];grind [LIM]),zLX,Comp.zB]
 simp
theorem YZ(c:List Pln):(z6 c).val=some (ful c,()):=by
 unfold z6;rw[vo,zA,j0,zLX];unfold ful;by_cases h:chk c=0
 ·obtain⟨h1,h2⟩:=Y8 h
  rw[zLz (by grind),zA,qR (by omega),zLX,zA,
   pA (by simp[bx0];omega) (fun p hp=>(zLi.1 hp).elim (h2 p) (rK p)),zLX,Comp.zB,zMC h,Bool.true_and]
 simp_all [Z6]
theorem ki(a b:List Pln):(zZ a b).val=some (apa a b,()):=by
 unfold zZ;rw[zA,j0,zLX,zA];unfold apa;by_cases ha:chk a=0
 ·obtain⟨h1,h2⟩:=Y8 ha
  have e1:neI (chk a) 0=false:=by grind
  show Option.bind (Comp.gd (ntB (neI (chk a) 0)) _ _).val _=_
  rw[e1];show Option.bind (zX b).val _=_
  rw[j0,zLX];by_cases hb:chk b=0
  ·obtain⟨h3,h4⟩:=Y8 hb
   have e2:neI (chk b) 0=false:=by grind
   rw[zMA (by grind),zA,yY (by grind [LIM]),zLX,zA,yY (by grind [LIM]),zLX,zA]
   simp only[List.nil_append];rw[qR (by grind),zLX,zA,
    pA (by simp[bx0];omega) (fun p hp=>(zLi.1 hp).elim (fun hp=>(zLi.1 hp).elim (h2 p) (h4 p)) (rK p)),zLX,Comp.zB,zMC ha,zMC hb]
   rfl
  simp_all [neI,sel]
 ·have e1:neI (chk a) 0=true:=by grind
  show Option.bind (Comp.gd (ntB (neI (chk a) 0)) _ _).val _=_
  rw[e1];show Option.bind (Comp.pure _).val _=_
  rw[Comp.zB,zLX,zLz (by rfl),Comp.zB,zMB ha]
  rfl
theorem Jt(a b:V3):cr b a=sc (cr a b) (-1):=by
 unfold cr sc;grind
theorem zBE(a b:V3)(n:Int):dt a (sc b n)=dt a b * n:=by
 grind [dt,sc]
theorem Hv(a:V3)(m n:Int):sc (sc a m) n=sc (sc a n) m:=by
 simp[sc,Int.mul_right_comm]
theorem UC(a b:V3)(n:Int):ad (sc a n) (sc b n)=sc (ad a b) n:=by
 grind [ad,sc]
theorem Wm(a b:V3):ad a b=ad b a:=by
 unfold ad;grind
theorem Qj(a b c:V3):ad (ad a b) c=ad (ad a c) b:=by
 unfold ad;grind
theorem zEJ(p q r:Pln):det p r q = - det p q r:=by
 grind [det,Jt,zBE]
theorem zEK(p q r:Pln):det q p r = - det p q r:=by
 grind [HP,Jt,zBE]
theorem zDb(p q r:Pln):num p r q=sc (num p q r) (-1):=by
 grind [num,Jt,Hv,UC,Qj]
theorem zDc(p q r:Pln):num q p r=sc (num p q r) (-1):=by
 unfold num;rw[Jt q.1 r.1,Jt p.1 q.1,Jt r.1 p.1,Hv (cr q.1 r.1),Hv (cr p.1 q.1),Hv (cr r.1 p.1),UC,UC,Wm (sc (cr r.1 p.1) q.2.1)]
theorem Vx{v:V3}{w:Int}(h:w≠0):mkP (sc v (-1)) (-w)=mkP v w:=by
 have hg:YB (sc v (-1)) (-w)=YB v w:=by
  grind [YB,sc,Int.natAbs_neg]
 unfold mkP;simp only[hg];unfold sc;grind
theorem Rb{p q r p' q' r':Pln}(hd:det p' q' r' = - det p q r)(hn:num p' q' r'=sc (num p q r) (-1)):mt p' q' r'=mt p q r:=by
 unfold mt;rw[hd,hn];by_cases h:det p q r=0
 ·grind
 simp_all [Vx]
def mtL:List Pln->Option Pnt
 | [p,q,r]=>mt p q r
 |_=>none
theorem M1{a b c d:α}(h:[a,b].Perm [c,d]):(a=c/\b=d)\/(a=d/\b=c):=by
 have hc:c∈[a,b]:=h.symm.subset (by simp)
 simp only[zLd,List.not_mem_nil,or_false]at hc;rcases hc with rfl|rfl
 ·simp_all
 ·have:=List.perm_singleton.1 ((List.Perm.swap a c []).trans h).cons_inv
  grind
theorem N3{l l':List Pln}(h:l.Perm l'):mtL l=mtL l':=by
 induction h with
 |nil=>rfl
 |cons x h ih =>
  rename_i l1 l2;have fA:=h.length_eq
  match l1,l2,fA,h with
  | [a,b],[c,d],_,h =>
   rcases M1 h with ⟨rfl,rfl⟩|⟨rfl,rfl⟩
   ·rfl
   ·exact Rb (zEJ _ _ _) (zDb _ _ _)
  | [],[],_,_=>rfl
  | [_],[_],_,_=>rfl
  |_::_::_::_,_::_::_::_,_,_=>rfl
 |swap x y l =>
  match l with
  | [z]=>exact Rb (zEK _ _ _) (zDc _ _ _)
  | []=>rfl
  |_::_::_=>rfl
 |trans _ _ ih1 ih2=>grind
theorem Gs{l:List α}{a b:α}:(a,b)∈prs l↔[a,b].Sublist l:=by
 induction l with
 |nil=>simp[prs]
 |cons x l ih =>
  simp only[prs,zLi,List.mem_map,Prod.mk.injEq];grind
theorem GN{l:List α}{a b c:α}:(a,b,c)∈tri l↔[a,b,c].Sublist l:=by
 induction l with
 |nil=>simp[tri]
 |cons x l ih =>
  simp only[tri,zLi,List.mem_map,Prod.mk.injEq];constructor
  ·rintro(⟨⟨s,t⟩,h1,rfl,h2⟩|h)
   ·grind [Gs]
   grind
  ·intro h
   cases h with
   |cons _ h=>grind
   |cons_cons _ h=>exact .inl ⟨(b,c),Gs.2 h,rfl,rfl⟩
theorem tB{r:List Pln}{x:Pnt}:x∈crn r↔ins r x=true/\∃t∈tri r,mt t.1 t.2.1 t.2.2=some x:=by
 have key:∀(ts:List (Pln×Pln×Pln)) (l:List Pnt),x∈ts.foldl (ZX r) l↔x∈l\/(ins r x=true/\∃t∈ts,mt t.1 t.2.1 t.2.2=some x):=by
  intro ts
  induction ts with
  |nil=>grind
  |cons t ts ih =>
   intro l;rw[List.foldl_cons,ih];have hs:x∈ZX r l t↔x∈l\/(ins r x=true/\mt t.1 t.2.1 t.2.2=some x):=by
    unfold ZX
    cases hm:mt t.1 t.2.1 t.2.2 with
    |none=>simp
    |some y =>
     grind
   grind
 grind [crn]
theorem M5{r r':List α}(h:r.Perm r'):∀ {s:List α},s.Sublist r->∃s':List α,s'.Perm s/\s'.Sublist r':=by
 induction h with
 |nil=>simp_all
 |cons x h ih =>
  intro s hs
  cases hs with
  |cons _ hs =>
   grind
  |cons_cons _ hs =>
   obtain⟨s',h1,h2⟩:=ih hs;exact⟨x::s',h1.cons _,h2.cons_cons _⟩
 |swap x y l =>
  intro s hs
  cases hs with
  |cons _ hs =>
   cases hs with
   |cons _ hs=>exact⟨_,.refl _,(hs.cons _).cons _⟩
   |cons_cons _ hs=>exact⟨_,.refl _,(hs.cons _).cons_cons _⟩
  |cons_cons _ hs =>
   cases hs with
   |cons _ hs=>exact⟨_,.refl _,(hs.cons_cons _).cons _⟩
   |cons_cons _ hs=>exact⟨_,.swap _ _ _,(hs.cons_cons _).cons_cons _⟩
 |trans _ _ ih1 ih2 =>
  intro s hs;obtain⟨s1,h1,h2⟩:=ih1 hs;obtain⟨s2,h3,h4⟩:=ih2 h2;exact⟨s2,h3.trans h1,h4⟩
theorem QP{r r':List Pln}(h:r.Perm r'){x:Pnt}(hx:x∈crn r):x∈crn r':=by
 rw[tB]at hx |-;obtain⟨h1,⟨a,b,c⟩,h2,h3⟩:=hx;refine⟨?_,?_⟩
 ·grind [ins]
 ·obtain⟨l,g1,g2⟩:=M5 h (GN.1 h2)
  have fA:=g1.length_eq
  match l,fA,g1,g2 with
  | [a',b',c'],_,g1,g2=>exact⟨(a',b',c'),GN.2 g2,(N3 g1).trans h3⟩
theorem MI{r r':List Pln}(h:r.Perm r'):full r=full r':=by
 have key:∀ {r r':List Pln},r.Perm r'->full r=true->full r'=true:=by
  grind [full,QP]
 rw[Bool.eq_iff_iff];grind
theorem qg(a b:List Pln):apa a b=apa b a:=by
 grind [apa,MI,List.Perm.append_right]
abbrev SS(l:List Pln):Prop:=l.Pairwise LtP
abbrev SL(l:List Pln):Prop:=l.Pairwise fun p q=>¬LtP q p
theorem SS.eq{l m:List Pln}(hl:SS l)(hm:SS m)(h:∀p,p∈l↔p∈m):l=m:=by
 induction l generalizing m with
 |nil =>
  cases m with
  |nil=>rfl
  |cons q m=>have:=(h q).2 (by simp);grind
 |cons p l ih =>
  cases m with
  |nil=>grind
  |cons q m =>
   rw[SS,List.pairwise_cons]at hl hm;have cA:p=q:=by
    have h1:=(h p).1 (by simp)
    have h2:=(h q).2 (by simp)
    rcases zLd.1 h1 with rfl|h1
    ·rfl
    ·rcases zLd.1 h2 with rfl|h2
     ·rfl
     ·exact zLp (hl.1 q h2) fun k=>k.asym (hm.1 p h1)
   subst cA
   congr 1
   refine ih hl.2 hm.2 fun x=>?_
   constructor
   ·intro hx
    have:=(h x).1 (zLj _ hx);rcases zLd.1 this with rfl|h1
    ·grind [LtP.irr]
    ·exact h1
   ·intro hx
    have:=(h x).2 (zLj _ hx);rcases zLd.1 this with rfl|h1
    ·grind [LtP.irr]
    ·exact h1
theorem qY{p x:Pln}:∀ {l:List Pln},x∈K4 p l↔x=p\/x∈l
 | []=>by simp[K4]
 |q::l=>by
  unfold K4;split
  ·rw[zLd,qY,zLd]
   grind
  grind
theorem G9{p:Pln}:∀ {l:List Pln},SL l->SL (K4 p l)
 | [],_=>by simp[K4]
 |q::l,h=>by
  rw[SL,List.pairwise_cons]at h;unfold K4;split
  ·rename_i hc
   rw[SL,List.pairwise_cons];refine⟨fun x hx=>?_,G9 h.2⟩
   rcases qY.1 hx with rfl|hx
   ·exact fun k=>k.asym (KN.1 hc)
   grind
  ·rename_i hc
   rw[SL,List.pairwise_cons];refine⟨fun x hx=>?_,by simp_all⟩
   have cA:¬LtP q p:=fun k=>hc (KN.2 k)
   rcases zLd.1 hx with rfl|iV
   ·exact cA
   ·intro k
    have hxq:=h.1 x iV;rcases LtP.tri p q with h1|h1|h1
    ·exact hxq (k.trans h1)
    ·grind
    grind
theorem Kc{x:Pln}:∀ {l:List Pln},x∈Jw l↔x∈l
 | []=>by simp[Jw]
 |p::l=>by unfold Jw;rw[qY,Kc,zLd]
theorem mP:∀ {l:List Pln},SL (Jw l)
 | []=>by simp[Jw]
 |p::l=>G9 mP
theorem Bw{p:Pln}:∀ {l:List Pln},(K4 p l).length=l.length+1
 | []=>rfl
 |q::l=>by unfold K4;split<;>simp[Bw]
theorem qN:∀ {l:List Pln},(Jw l).length=l.length
 | []=>rfl
 |p::l=>by unfold Jw;rw[Bw,qN];rfl
theorem pY:∀ {l:List Pln} {p:Pln},SL (p::l)->SS (p::KB p l)/\∀x,x∈p::KB p l↔x∈p::l
 | [],p,_=>⟨by simp[KB],fun x=>by simp[KB]⟩
 |q::l,p,h=>by
  rw[SL,List.pairwise_cons]at h;obtain⟨h1,h2⟩:=pY h.2;unfold KB;split
  ·grind
  ·rename_i e
   refine⟨?_,fun x=>?_⟩
   ·rw[SS,List.pairwise_cons]
    refine⟨fun x hx=>?_,h1⟩
    have cA:LtP p q:=by
     grind [LtP.tri]
    rcases zLd.1 hx with rfl|hx'
    ·exact cA
    ·exact cA.trans ((List.pairwise_cons.1 h1).1 x hx')
   grind
theorem CL{l:List Pln}(h:SL l):SS (cpc l)/\∀x,x∈cpc l↔x∈l:=by
 cases l with
 |nil=>simp[cpc]
 |cons p l=>exact pY h
def Yv(p:Pln):List Pln->List Pln
 | []=>[p]
 |q::l=>if X9 q p<0 then q::Yv p l else if q=p then q::l else p::q::l
theorem qT{p x:Pln}:∀ {l:List Pln},x∈Yv p l↔x=p\/x∈l
 | []=>by simp[Yv]
 |q::l=>by
  unfold Yv;split
  ·rw[zLd,qT,zLd]
   grind
  grind
theorem Gp{p:Pln}:∀ {l:List Pln},SS l->SS (Yv p l)
 | [],_=>by simp[Yv]
 |q::l,h=>by
  rw[SS,List.pairwise_cons]at h;unfold Yv;split
  ·rename_i hc
   rw[SS,List.pairwise_cons];refine⟨fun x hx=>?_,Gp h.2⟩
   rcases qT.1 hx with rfl|hx
   ·exact KN.1 hc
   grind
  ·rename_i hc
   split
   ·simp_all
   ·rename_i e
    have cA:LtP p q:=by
     rcases LtP.tri p q with k|k|k
     ·exact k
     ·grind
     ·exact zLp (KN.2 k) hc
    rw[SS,List.pairwise_cons];refine⟨fun x hx=>?_,by simp_all⟩
    rcases zLd.1 hx with rfl|hx
    ·exact cA
    ·exact cA.trans (h.1 x hx)
theorem BS{p:Pln}:∀ {l:List Pln},(Yv p l).length<=l.length+1
 | []=>by simp[Yv]
 |q::l=>by
  have:=BS (p:=p) (l:=l);grind [Yv]
theorem Nj(l:List Pln):l.foldl (fun m p=>Yv p m) []=cpc (Jw l):=by
 have key:∀(l m:List Pln),SS m->SS (l.foldl (fun m p=>Yv p m) m)/\∀x,x∈l.foldl (fun m p=>Yv p m) m↔x∈l\/x∈m:=by
  intro l
  induction l with
  |nil=>grind
  |cons p l ih =>
   intro m hm;obtain⟨h1,h2⟩:=ih (Yv p m) (Gp hm);refine⟨h1,fun x=>?_⟩
   rw[List.foldl_cons,h2,qT,zLd];constructor
   ·grind
   grind
 obtain⟨h1,h2⟩:=key l [] (by simp)
 grind [CL,mP,SS.eq,Kc]
theorem Iu(a b:Int):(Zq a b).val=some (if a<b then -1 else if b<a then 1 else 0,()):=by
 unfold Zq;by_cases h1:a<b
 ·simp_all [zY]
 ·rw[zMA (by grind),zMA h1]
  by_cases h2:b<a
  ·simp_all [Jv]
  simp_all [zMA,Jv]
def Mm:List (Int×Int)->Int
 | []=>0
 |x::l=>if x.1<x.2 then -1 else if x.2<x.1 then 1 else Mm l
theorem R5(p q:Pln):X9 p q=Mm [(p.1.1,q.1.1),(p.1.2.1,q.1.2.1),(p.1.2.2.1,q.1.2.2.1),(p.2.1,q.2.1)]:=rfl
theorem Ap(p q:Pln):(kS p q).val=some (X9 p q,()):=by
 unfold kS;rw[R5];generalize hl:[(p.1.1,q.1.1),(p.1.2.1,q.1.2.1),(p.1.2.2.1,q.1.2.2.1),(p.2.1,q.2.1)]=l;have hm:[[p.1.1,q.1.1],[p.1.2.1,q.1.2.1],[p.1.2.2.1,q.1.2.2.1],[p.2.1,q.2.1]]=l.map fun x=>[x.1,x.2]:=by grind
 have fA:l.length=4:=by grind
 rw[hm];have key:∀(ys zs:List (Int×Int)),l=zs++ys->(Comp.loop
     (fun (x:Int×Int)=>if ltI x.2 (zD (l.map fun x=>[x.1,x.2]))=true then
       (idx (l.map fun x=>[x.1,x.2]) x.2).bind fun x_1=>(idx x_1 0).bind fun x_2=>(idx x_1 1).bind fun x_3=>(Go.F.Zq x_2 x_3).bind fun x_4=>if eqI x_4.1 0=true then Comp.pure (.next (x_4.1,zG .i64 x.2 1)) else Comp.pure (.done x_4.1)
      else Comp.pure (.done x.1)) (0,(zs.length:Int))).val=some (Mm ys):=by
  intro ys
  induction ys with
  |nil =>
   intro zs hx;rw[zM,zMA (by grind),Comp.zB];rfl
  |cons y ys ih =>
   intro zs hx;have hy:(l.map fun x=>[x.1,x.2])[zs.length]?=some [y.1,y.2]:=by grind
   have gF:=zN hy;rw[List.length_map]at gF;have i0:(idx [y.1,y.2] 0).val=some y.1:=Kz rfl
   have i1:(idx [y.1,y.2] 1).val=some y.2:=Kz rfl;rw[zM,zLz (by grind),zA,zO hy,zLX,zA,i0,zLX,zA,i1,zLX,zA,Iu,zLX]
   unfold Mm;by_cases h1:y.1<y.2
   ·simp_all [Z6]
   ·rw[zMA h1]
    by_cases h2:y.2<y.1
    ·simp_all [Z6]
    ·rw[zMA h2,zLz (by grind),Comp.zB,zMA h1,zMA h2,zJ (by omega),zLX]
     have:=ih (zs++[y]) (by grind)
     grind
 rw[zA];refine(zLq (fun o=>Option.bind o _) (key l [] rfl)).trans ?_
 simp_all
theorem NL{l:List Pln}(h:l.length<=LIM):(z7 l fun z=>kS z.1 z.2.1).val=some (Jw l):=by
 unfold z7 Cj;rw[zLz ⟨h,fun x y=>vL.1 (Ap x y)⟩,Comp.zB]
theorem zHq(x y:Pln):adB (adB (eqI x.1.1 y.1.1) (adB (eqI x.1.2.1 y.1.2.1) (eqI x.1.2.2.1 y.1.2.2.1))) (eqI x.2.1 y.2.1)=decide (x=y):=by
 grind
def zHr(x y:Pln):Bool:=adB (adB (eqI x.1.1 y.1.1) (adB (eqI x.1.2.1 y.1.2.1) (eqI x.1.2.2.1 y.1.2.2.1))) (eqI x.2.1 y.2.1)
theorem V7(x y:Pln):zHr x y=decide (x=y):=zHq x y
theorem Aq{l:List Pln}(hl:l.length<9223372036854775807):(yA l).val=some (cpc l):=by
 have e:yA l=zFE zHr ((0,0,0,()),0,()) l:=by
  kernel_rfl
 grind [WM,V7]
def onn(p:Pln)(X:List Pnt):Nat:=(X.filter fun x=>decide (rm p x=0)).length
def fac(c:List Pln):List Pln:=c.filter fun p=>decide (3<=onn p (crn (c++bx0)))
def ln(c:List Pln):List Pln:=bif ful c then cpc (Jw (fac c)) else []
theorem pW{c:List Pln}(h:c.length<=48):(crn (c++bx0)).length<=1000000000:=by
 refine zLg (lF _) (zLg (Kt _) ?_);have:(c++bx0).length<=1000:=by simp[bx0];omega
 exact Nat.mul_le_mul this (Nat.mul_le_mul this this)
theorem Df{c:List Pln}(h:chk c=0):(Y6 c).val=some (crn (c++bx0),()):=by
 obtain⟨h1,h2⟩:=Y8 h;unfold Y6;rw[zA,Yd _ (by simp),zLX]
 simp only[List.all_cons,List.all_nil,Bool.and_true,yS];rw[zMA (by simp[h]),zA,zr (by simp) (by grind),zLX,zA]
 simp only[List.flatten_cons,List.flatten_nil,zMF];rw[w8 (by simp[bx0];omega) (fun p hp=>(zLi.1 hp).elim (h2 p) (rK p)),zLX,Comp.zB]
theorem Aa{c:List Pln}(h:chk c=0):(jC c).val=some (crn (c++bx0),()):=by
 obtain⟨h1,h2⟩:=Y8 h;unfold jC;rw[zA,j0,zLX,zMA (by grind),zA,qR (by omega),zLX,zA,
  KQ (by simp[bx0];omega) (fun p hp=>(zLi.1 hp).elim (h2 p) (rK p)),zLX,Comp.zB]
theorem MB{p:Pln}{X:List Pnt}(hX:X.length<=1000000000):(kG p X).val=some (decide (onn p X<3),()):=by
 unfold kG;have h1:=ZJ (σ:=Int) X.length (fun k n=>match X[k]? with|some x=>if rm p x=0 then n+1 else n|none=>n) (fun k n=>n+(onn p (X.drop k):Nat)) (fun n k=>0<=n/\n<=k)
  (body:=(fun (x:Int×Int)=>if ltI x.2 (zD X)=true then
       (idx X x.2).bind fun x_1=>(Go.F.Zl p x_1).bind fun x_2=>jn (fun (x_3:Int)=>Comp.pure (.next (x_3,zG .i64 x.2 1))) fun (j:Int->Comp (Comp.Step (Int×Int) Int))=>if eqI x_2.1 0=true then j (zG .i64 x.1 1) else j x.1
      else Comp.pure (.done x.1)))
  (fun n k hk hI=>by
   obtain⟨x,hx⟩:=zK (xs:=X) (k:=k) hk;refine⟨?_,?_,?_⟩
   ·rw[hx]
    simp only;rw[zLz (by grind),zA,zO hx,zLX,zA,qP,zLX,vo]
    by_cases h:rm p x=0
    ·rw[zLz (by grind),zLz h,Comp.zB,zJ (by omega),jS (by omega)]
    ·rw[zMA (by grind),zMA h,Comp.zB,zJ (by omega)]
   ·grind
   ·rw[drop_cons hx,hx]
    unfold onn;grind)
  (fun n=>by simp[zY,zQ]) (fun n=>by grind [onn]) 0 0 (Nat.zero_le _) (by omega)
 rw[zA];refine(zLq (fun o=>Option.bind o _) h1).trans ?_
 rw[zLX,Comp.zB];grind
theorem lA{c:List Pln}:(fac c).length<=c.length:=List.length_filter_le _ _
theorem Kh(c:List Pln):(gX c).val=some (ln c,()):=by
 unfold gX ln;rw[zA,Zn,zLX,yS]
 cases hf:ful c with
 |false=>simp_all
 |true =>
  have hc:chk c=0:=by
   simp_all [ful]
  obtain⟨h1,h2⟩:=Y8 hc;have hX:=pW h1
  have hL:=YY;have e1:(ya c).val=some (c,()):=HS (by grind [LIM])
  have e2:(yF c fun z=>kG z.1 (crn (c++bx0))).val=some (fac c):=by
   refine(HQ (z:=((0,0,0,()),0,())) (f:=fun z=>kG z.1 (crn (c++bx0))) (p:=fun p=>decide (onn p (crn (c++bx0))<3)) (by omega) fun p _=>MB hX).trans ?_
   grind [fac]
  rw[zMA (by simp),zA,Df hc,zLX,zA,e1,zLX,zA,e2,zLX,zA,NL (by grind [lA,LIM]),zLX,zA,
   Aq (by grind [qN,lA]),zLX,Comp.zB]
  rfl
theorem pz(p q:Pln):(y8 p q).val=some (X9 p q,()):=by
 unfold y8;rw[R5];generalize hl:[(p.1.1,q.1.1),(p.1.2.1,q.1.2.1),(p.1.2.2.1,q.1.2.2.1),(p.2.1,q.2.1)]=l;have hm1:[p.1.1,p.1.2.1,p.1.2.2.1,p.2.1]=l.map fun x=>x.1:=by grind
 have hm2:[q.1.1,q.1.2.1,q.1.2.2.1,q.2.1]=l.map fun x=>x.2:=by grind
 have fA:l.length=4:=by grind
 rw[hm1,hm2];have key:∀(ys zs:List (Int×Int)),l=zs++ys->∃r:Unit⊕Int,(match r with|.inl _=>0|.inr n=>n)=Mm ys/\(Comp.loop
     (fun (x:Int)=>if ltI x 4=true then
       (idx (l.map fun x=>x.1) x).bind fun x_1=>(idx (l.map fun x=>x.2) x).bind fun x_2=>if ltI x_1 x_2=true then Comp.pure (.done (Sum.inr (-1)))
         else
          (idx (l.map fun x=>x.1) x).bind fun x_3=>(idx (l.map fun x=>x.2) x).bind fun x_4=>if gtI x_3 x_4=true then Comp.pure (.done (Sum.inr 1)) else Comp.pure (.next (zG .i64 x 1))
      else Comp.pure (.done (Sum.inl ()))) (zs.length:Int)).val=some r:=by
  intro ys
  induction ys with
  |nil =>
   intro zs hx;have hz:zs.length=4:=by grind
   exact⟨.inl (),rfl,by rw[zM,zMA (by grind),Comp.zB];grind⟩
  |cons y ys ih =>
   intro zs hx;have hz:zs.length<4:=by grind
   have i1:(idx (l.map fun x=>x.1) (zs.length:Int)).val=some y.1:=zO (by grind)
   have i2:(idx (l.map fun x=>x.2) (zs.length:Int)).val=some y.2:=zO (by grind)
   unfold Mm;by_cases h1:y.1<y.2
   ·refine⟨.inr (-1),by grind,?_⟩
    rw[zM,zLz (by grind),zA,i1,zLX,zA,i2,zLX,zLz (by grind),Comp.zB];rfl
   ·by_cases h2:y.2<y.1
    ·refine⟨.inr 1,by grind,?_⟩
     rw[zM,zLz (by grind),zA,i1,zLX,zA,i2,zLX,zMA (by grind),zA,i1,zLX,zA,i2,zLX,zLz (by grind),Comp.zB];rfl
    ·obtain⟨r,h3,h4⟩:=ih (zs++[y]) (by grind)
     refine⟨r,by omega,?_⟩
     rw[zM,zLz (by grind),zA,i1,zLX,zA,i2,zLX,zMA (by grind),zA,i1,zLX,zA,i2,zLX,zMA (by grind),Comp.zB,zJ (by omega),zLX]
     grind
 obtain⟨r,h3,h4⟩:=key l [] rfl;rw[zA];refine(zLq (fun o=>Option.bind o _) h4).trans ?_
 grind [Comp.zB]
def bef(p:Pln):List Pln->Nat
 | []=>0
 |q::l=>if X9 q p<0 then bef p l+1 else 0
theorem R8{p:Pln}:∀ {l:List Pln},bef p l<=l.length
 | []=>zLb _
 |q::l=>by
  have:=R8 (p:=p) (l:=l);grind [bef]
theorem BV{p:Pln}:∀ {l:List Pln},Yv p l=if l[bef p l]?=some p then l else l.take (bef p l)++p::l.drop (bef p l)
 | []=>rfl
 |q::l=>by
  have ih:=BV (p:=p) (l:=l);unfold Yv bef;grind
theorem NV{l:List Pln}{p:Pln}(hl:l.length<=1000000):(jM l p).val=some (Yv p l,()):=by
 have hL:=YY;unfold jM;have key:∀(ys zs:List Pln),l=zs++ys->(Comp.loop
     (fun (x:Int)=>(Comp.gd (ltI x (zD l)) (idx l x) ((0,0,0,()),0,())).bind fun x_1=>(Comp.gd (ltI x (zD l)) (Go.F.y8 x_1 p) (0,())).bind fun x_2=>if sel (ltI x (zD l)) (ltI x_2.1 0) false=true then Comp.pure (.next (zG .i64 x 1)) else Comp.pure (.done x))
     (zs.length:Int)).val=some (((zs.length+bef p ys:Nat)):Int):=by
  intro ys
  induction ys with
  |nil =>
   intro zs hx;have h1:ltI (zs.length:Int) (zD l)=false:=by grind
   rw[zM];simp only[h1];rw[zA];show Option.bind (Option.bind (Comp.pure _).val _) _=_
   rw[Comp.zB,zLX,zA];show Option.bind (Option.bind (Comp.pure _).val _) _=_
   rw[Comp.zB,zLX];rw[zMA (by grind),Comp.zB,zLX]
   rfl
  |cons y ys ih =>
   intro zs hx;have hy:l[zs.length]?=some y:=by grind
   have gF:=zN hy;have h1:ltI (zs.length:Int) (zD l)=true:=by grind
   rw[zM];simp only[h1];rw[zA];show Option.bind (Option.bind (idx l (zs.length:Int)).val _) _=_
   rw[zO hy,zLX,zA];show Option.bind (Option.bind (y8 y p).val _) _=_
   rw[pz,zLX];unfold bef;by_cases h2:X9 y p<0
   ·rw[zLz (by grind),zLz h2,Comp.zB,zJ (by omega),zLX]
    have:=ih (zs++[y]) (by grind)
    grind
   ·rw[zMA (by grind),zMA h2,Comp.zB,zLX]
    rfl
 have h1:=key l [] rfl;simp only[List.length_nil,Nat.zero_add]at h1;have hb:=R8 (p:=p) (l:=l)
 rw[zA];refine(zLq (fun o=>Option.bind o _) h1).trans ?_
 rw[zLX,BV];have tail:((sub l 0 ((bef p l:Nat):Int)).bind fun x_2=>(app [] x_2).bind fun zs=>(app zs [p]).bind fun zs=>(sub l ((bef p l:Nat):Int) (zD l)).bind fun x=>(app zs x).bind fun zs=>(Comp.pure (zs,()):Comp (List Pln×Unit))).val=some (l.take (bef p l)++p::l.drop (bef p l),()):=by
  have s1:(sub l 0 ((bef p l:Nat):Int)).val=some (l.take (bef p l)):=by grind [YS]
  rw[zA,s1,zLX,zA,yY (by grind [LIM]),zLX,zA,yY (by grind [LIM]),zLX,zA,mC hb,zLX,zA,
   yY (by grind [LIM]),zLX,Comp.zB]
  simp
 by_cases gF:bef p l<l.length
 ·obtain⟨y,hy⟩:=zK (xs:=l) (k:=bef p l) gF
  have h2:ltI ((bef p l:Nat):Int) (zD l)=true:=by grind
  rw[h2,zA];show Option.bind (idx l ((bef p l:Nat):Int)).val _=_
  rw[zO hy,zLX,hy];have he:=zHq y p
  by_cases hp:y=p
  ·simp_all [sel]
  grind
 ·have h2:ltI ((bef p l:Nat):Int) (zD l)=false:=by grind
  rw[h2,zA];show Option.bind (Comp.pure _).val _=_
  simp_all [sel]
theorem VF{i:Nat}{c:List Pln}{p:Pln}(hp:c[i]?=some p){X:List Pnt}(hX:X.length<=1000000000):(Comp.loop
             (fun (x_2:Int×Int)=>if ltI x_2.2 (zD X)=true then
               (idx c (i:Int)).bind fun x=>(idx X x_2.2).bind fun x_3=>(Go.F.zd x x_3).bind fun x=>jn (fun (x:Int)=>Comp.pure (.next (x,zG .i64 x_2.2 1)))
                   fun (j:Int->Comp (Comp.Step (Int×Int) Int))=>if eqI x.1 0=true then j (zG .i64 x_2.1 1) else j x_2.1
              else Comp.pure (.done x_2.1))
             (0,0)).val=some ((onn p X:Nat):Int):=by
 have h1:=ZJ (σ:=Int) X.length (fun k n=>match X[k]? with|some x=>if rm p x=0 then n+1 else n|none=>n) (fun k n=>n+(onn p (X.drop k):Nat)) (fun n k=>0<=n/\n<=k)
  (body:=(fun (x_2:Int×Int)=>if ltI x_2.2 (zD X)=true then
               (idx c (i:Int)).bind fun x=>(idx X x_2.2).bind fun x_3=>(Go.F.zd x x_3).bind fun x=>jn (fun (x:Int)=>Comp.pure (.next (x,zG .i64 x_2.2 1)))
                   fun (j:Int->Comp (Comp.Step (Int×Int) Int))=>if eqI x.1 0=true then j (zG .i64 x_2.1 1) else j x_2.1
              else Comp.pure (.done x_2.1)))
  (fun n k hk hI=>by
   obtain⟨x,hx⟩:=zK (xs:=X) (k:=k) hk;refine⟨?_,?_,?_⟩
   ·rw[hx]
    simp only;rw[zLz (by grind),zA,zO hp,zLX,zA,zO hx,zLX,zA,wL,zLX,vo]
    by_cases h:rm p x=0
    ·rw[zLz (by grind),zLz h,Comp.zB,zJ (by omega),jS (by omega)]
    ·rw[zMA (by grind),zMA h,Comp.zB,zJ (by omega)]
   ·grind
   ·rw[drop_cons hx,hx]
    unfold onn;grind)
  (fun n=>by simp[zY,zQ]) (fun n=>by grind [onn]) 0 0 (Nat.zero_le _) (by omega)
 grind
theorem XS(c:List Pln):(zm c).val=some (ln c,()):=by
 unfold zm ln;rw[zA,YZ,zLX,yS]
 cases hf:ful c with
 |false=>simp_all
 |true =>
  have hc:chk c=0:=by
   simp_all [ful]
  obtain⟨h1,h2⟩:=Y8 hc;have hX:=pW h1
  have hL:=YY;rw[zMA (by simp),zA,Aa hc,zLX]
  have h3:=ZJ c.length (fun k l=>match c[k]? with|some p=>if 3<=onn p (crn (c++bx0)) then Yv p l else l|none=>l) (fun k l=>((c.drop k).filter fun p=>decide (3<=onn p (crn (c++bx0)))).foldl (fun m p=>Yv p m) l) (fun l k=>l.length<=k)
   (body:=(fun (x_1:List (Pln)×Int)=>if ltI x_1.2 (zD c)=true then
          (Comp.loop
             (fun (x_2:Int×Int)=>if ltI x_2.2 (zD (crn (c++bx0)))=true then
               (idx c x_1.2).bind fun x=>(idx (crn (c++bx0)) x_2.2).bind fun x_3=>(Go.F.zd x x_3).bind fun x=>jn (fun (x:Int)=>Comp.pure (.next (x,zG .i64 x_2.2 1)))
                   fun (j:Int->Comp (Comp.Step (Int×Int) Int))=>if eqI x.1 0=true then j (zG .i64 x_2.1 1) else j x_2.1
              else Comp.pure (.done x_2.1))
             (0,0)).bind fun x=>jn (fun (x:List (Pln))=>Comp.pure (.next (x,zG .i64 x_1.2 1)))
            fun (j :
              List (Pln)->Comp (Comp.Step (List (Pln)×Int) (List (Pln)))) =>
            if geI x 3=true then
             (idx c x_1.2).bind fun x=>(Go.F.jM x_1.1 x).bind fun x=>j x.1
            else j x_1.1
         else Comp.pure (.done x_1.1)))
   (fun l k hk hI=>by
    obtain⟨p,hp⟩:=zK (xs:=c) (k:=k) hk;refine⟨?_,?_,?_⟩
    ·rw[hp]
     simp only;rw[zLz (by grind),zA]
     refine(zLq (fun o=>Option.bind o _) (VF hp hX)).trans ?_
     rw[zLX,vo];by_cases h:3<=onn p (crn (c++bx0))
     ·rw[zLz (by grind),zLz h,zA,zO hp,zLX,zA,NV (by omega),zLX,Comp.zB,zJ (by omega)]
     ·rw[zMA (by grind),zMA h,Comp.zB,zJ (by omega)]
    ·grind [BS]
    ·rw[drop_cons hp,hp]
     grind)
   (fun n=>by simp[zY,zQ]) (fun n=>by grind) 0 [] (Nat.zero_le _) (by simp)
  rw[zA];refine(zLq (fun o=>Option.bind o _) h3).trans ?_
  rw[zLX,Comp.zB,List.drop_zero,Nj];rfl
abbrev Cell:=List Pln
def jd:List Cell->Int
 | []=>0
 |c::s=>if chk c=0 then jd s else chk c
def sck(s:List Cell):Int:=if 16<s.length then 2 else jd s
def sap(c:Cell)(s:List Cell):Bool:=s.all fun q=>apa c q
def ZO(p:Pln):Pln:=((-p.1.1, -p.1.2.1, -p.1.2.2.1,()), -p.2.1,())
def gp:Cell->List Pln->List (Option Cell)
 |_,[]=>[]
 |rest,p::fs=>if 48<=rest.length then [none] else (bif decide (ln (rest++[ZO p])=[]) then [] else [some (ln (rest++[ZO p]))])++gp (ln (rest++[p])) fs
def kM:List (Option α)->Bool
 | []=>false
 |none::_=>true
 |some _::l=>kM l
def yq:List (Option α)->List α
 | []=>[]
 |none::l=>yq l
 |some x::l=>x::yq l
def wo(q:Cell):List Cell->List Cell->Option (List Cell)
 | [],out=>some out
 |x::xs,out=>if apa x q=true then wo q xs (out++[x]) else if kM (gp x (ln q))=true then none else wo q xs (out++yq (gp x (ln q)))
def wth(pieces:List Cell)(q:Cell):List Cell×Int :=
 if ful q=true then match wo q pieces [] with
  |none=>([],9)
  |some out=>if 200<out.length then ([],9) else (out,0)
 else (pieces,0)
def Xr:List Cell->List Cell->List Cell×Int
 |pcs,[]=>(pcs,0)
 |pcs,q::s=>if (wth pcs q).2=0 then Xr (wth pcs q).1 s else ([],(wth pcs q).2)
def mns(c:Cell)(s:List Cell):List Cell×Int:=if chk c=0 then if sck s=0 then if ful c=true then Xr [ln c] s else ([],0) else ([],sck s) else ([],chk c)
def cov(s:List Cell)(c:Cell):Bool×Int:=(decide ((mns c s).2=0) && decide ((mns c s).1.length=0),(mns c s).2)
theorem AF:∀ {fs:List Pln} {rest:Cell},(gp rest fs).length<=fs.length
 | [],_=>zLb _
 |p::fs,rest=>by
  have:=AF (fs:=fs) (rest:=ln (rest++[p]));grind [gp]
theorem JV:∀ {l:List (Option α)},(yq l).length<=l.length
 | []=>zLb _
 |none::l=>by have:=JV (l:=l);grind [yq]
 |some _::l=>by have:=JV (l:=l);grind [yq]
theorem zAu:∀ {fs:List Pln} {rest:Cell} {c:Cell},some c∈gp rest fs->c≠[]
 | [],_,_,h=>by cases h
 |p::fs,rest,c,h=>by
  unfold gp at h;split at h
  ·simp at h
  ·rw[zLi]at h
   rcases h with h|h
   ·grind
   ·exact zAu h
theorem qc [DecidableEq α]{y:α}:∀ {l:List α} {x:α},y∈KB x l->y∈l
 | [],_,h=>h
 |z::l,x,h=>by
  unfold KB at h;split at h
  ·exact zLj _ (qc h)
  ·rcases zLd.1 h with rfl|h
   ·simp
   ·exact zLj _ (qc h)
theorem WN [DecidableEq α]{y:α}{l:List α}(h:y∈cpc l):y∈l:=by
 cases l with
 |nil=>exact h
 |cons x l =>
  rcases zLd.1 h with rfl|h
  ·simp
  ·exact zLj _ (qc h)
theorem V2{c:Cell}(h:ful c=true):chk c=0:=by
 simp_all [ful]
theorem zHY{c:Cell}:(ln c).length<=48/\∀p∈ln c,okB p:=by
 unfold ln
 cases hf:ful c with
 |false=>simp
 |true =>
  obtain⟨h1,h2⟩:=Y8 (V2 hf);have h3:=lA (c:=c)
  refine⟨?_,fun p hp=>?_⟩
  ·grind [WO,qN]
  ·have:=Kc.1 (WN (show p∈cpc (Jw (fac c)) from hp))
   exact h2 p (List.mem_filter.1 this).1
theorem GJ{pieces:List Cell}{q:Cell}(h:pieces.length<=200):(wth pieces q).1.length<=200:=by
 grind [wth]
theorem my{s:List Cell}(hl:s.length<9223372036854775807){body:Int->Comp (Comp.Step Int (Unit⊕Int))}(hb:∀(i:Nat) c,s[i]?=some c->(body (i:Int)).val=some (if chk c=0 then .next ((i+1:Nat):Int) else .done (.inr (chk c))))(he:(body (s.length:Int)).val=some (.done (.inl ()))) :
  ∃r:Unit⊕Int,(match r with|.inl _=>0|.inr n=>n)=jd s/\(Comp.loop body 0).val=some r:=by
 have key:∀(ys zs:List Cell),s=zs++ys->∃r:Unit⊕Int,(match r with|.inl _=>0|.inr n=>n)=jd ys/\(Comp.loop body (zs.length:Int)).val=some r:=by
  intro ys
  induction ys with
  |nil =>
   intro zs hx;refine⟨.inl (),rfl,?_⟩;grind [zM]
  |cons y ys ih =>
   intro zs hx;have hy:s[zs.length]?=some y:=by grind
   unfold jd;by_cases h:chk y=0
   ·obtain⟨r,h1,h2⟩:=ih (zs++[y]) (by grind)
    refine⟨r,by omega,?_⟩
    rw[zM,hb _ _ hy,zLz h,zLX];grind
   ·refine⟨.inr (chk y),by grind,?_⟩
    rw[zM,hb _ _ hy,zMA h,zLX]
 exact key s [] rfl
theorem uK(s:List Cell):(Y0 s).val=some (sck s,()):=by
 unfold Y0 sck;by_cases h:16<s.length
 ·rw[zLz (by grind),zLz h,Comp.zB]
 ·rw[zMA (by grind),zMA h]
  obtain⟨r,h1,h2⟩:=my (s:=s) (by omega)
   (body:=(fun (x:Int)=>if ltI x (zD s)=true then
        (idx s x).bind fun x_1=>(Go.F.gZ x_1).bind fun x_2=>if neI x_2.1 0=true then Comp.pure (.done (Sum.inr x_2.1)) else Comp.pure (.next (zG .i64 x 1))
       else Comp.pure (.done (Sum.inl ()))))
   (fun i c hc=>by
    have gF:=zN hc;rw[zLz (by grind),zA,zO hc,zLX,zA,jw,zLX,zJ (by omega)]
    by_cases h:chk c=0
    ·simp_all [je]
    simp_all [je])
   (by simp[zY,zQ])
  rw[zA];refine(zLq (fun o=>Option.bind o _) h2).trans ?_
  grind [Comp.zB]
theorem Xn(c:Cell){s:List Cell}(hl:s.length<9223372036854775807):(jF c s).val=some (sap c s,()):=by
 unfold jF;have h1:(zH s fun z=>jm z.1 c).val=some (s.any fun q=>!apa c q,()) :=
  Z0 (xs:=s) (f:=fun z=>jm z.1 c) (p:=fun q=>!apa c q) hl fun q _=>by
   grind [jm,zA,jx,Comp.zB]
 grind [zA,Comp.zB,sap]
theorem B6{p:Pln}(h:okB p):(Ye p).val=some (ZO p,()):=by
 obtain⟨⟨h1,h2,h3⟩,h4⟩:=h;unfold Ye wN;grind [zA,Comp.zB,Ji,ZO]
theorem CP{c:Cell}{p:Pln}(h:c.length<=1000):(zL [c,[p]]).val=some (c++[p],()):=by
 have:=lK (z:=((0,0,0,()),0,())) (xs:=[c,[p]]) (by grind [LIM]) (by simp)
 simp only[List.flatten_cons,List.flatten_nil,zMF]at this;exact this
theorem pC{piece:Cell}{fs:List Pln}(hl:fs.length<=1000)(hB:∀p∈fs,okB p):(jl piece fs).val=some ((gp piece fs).map fun o=>(o,())):=by
 unfold jl;have key:∀(ys zs:List Pln) (rest:Cell),fs=zs++ys->∃e:Unit⊕Unit,(YJ
       (fun (x:List (Pln)×Int)=>if ltI x.2 (zD fs)=true then
         (idx fs x.2).bind fun x_1=>if geI (zD x.1) 48=true then tell [(none,())] (Comp.pure ([],.done (Sum.inr ())))
          else
           (Go.F.Ye x_1).bind fun x_2=>(Go.F.zL [x.1,[x_2.1]]).bind fun y=>(Go.F.gX y.1).bind fun y_1=>if gtI (zD y_1.1) 0=true then
               tell [(some y_1.1,())]
                ((Go.F.zL [x.1,[x_1]]).bind fun y=>(Go.F.gX y.1).bind fun y=>Comp.pure ([],.next (y.1,zG .i64 x.2 1)))
              else
               (Go.F.zL [x.1,[x_1]]).bind fun y=>(Go.F.gX y.1).bind fun y=>Comp.pure ([],.next (y.1,zG .i64 x.2 1))
        else Comp.pure ([],.done (Sum.inl ()))) (rest,(zs.length:Int))).val=some ((gp rest ys).map fun o=>(o,()),e):=by
  intro ys
  induction ys with
  |nil =>
   intro zs rest hx;exact⟨.inl (),J6 (by rw[zMA (by grind),Comp.zB];rfl)⟩
  |cons p ys ih =>
   intro zs rest hx;have hy:fs[zs.length]?=some p:=by grind
   have gF:=zN hy;have hp:=hB p (zLe hy)
   by_cases hr:48<=rest.length
   ·refine⟨.inr (),J6 ?_⟩
    rw[zLz (by grind),zA,zO hy,zLX,zLz (by grind),Ym,Comp.zB]
    unfold gp;grind
   ·obtain⟨e,he⟩:=ih (zs++[p]) (ln (rest++[p])) (by grind)
    refine⟨e,?_⟩;have hgp:(gp rest (p::ys)).map (fun o=>(o,()))=(bif decide (ln (rest++[ZO p])=[]) then [] else [(some (ln (rest++[ZO p])),())])++(gp (ln (rest++[p])) ys).map fun o=>(o,()):=by
     conv=>lhs;unfold gp
     grind
    rw[hgp];refine tc (s':=(ln (rest++[p]),((zs.length+1:Nat):Int))) ?_ (by grind)
    rw[zLz (by grind),zA,zO hy,zLX,zMA (by grind),
     zA,B6 hp,zLX,zA,CP (by grind),zLX,zA,Kh,zLX]
    have ht:((Go.F.zL [rest,[p]]).bind fun y=>(Go.F.gX y.1).bind fun y=>(Comp.pure ([],.next (y.1,zG .i64 (zs.length:Int) 1)):Comp (List (Option Cell×Unit)×Comp.Step (Cell×Int) (Unit⊕Unit)))).val=some ([],.next (ln (rest++[p]),((zs.length+1:Nat):Int))):=by
     rw[zA,CP (by omega),zLX,zA,Kh,zLX,Comp.zB,zJ (by omega)]
    by_cases h0:ln (rest++[ZO p])=[]
    ·grind
    ·rw[zLz (by grind [List.length_pos_iff]),Ym,zMB h0]
     grind
 obtain⟨e,he⟩:=key fs [] piece rfl;rw[zA,zA];refine(zLq (fun o=>Option.bind (Option.bind o _) _) he).trans ?_
 rw[zLX,Ym];have h3:∀e:Unit⊕Unit,(match e with|Sum.inl x=>Comp.pure ([],())|Sum.inr x=>Comp.pure ([],()):Comp (List (Option Cell×Unit)×Unit)).val=some ([],()):=fun e=>by grind [Comp.zB]
 refine(zLq (fun o=>Option.bind (Option.map _ o) _) (h3 e)).trans ?_
 grind [Comp.zB]
theorem pQ{a:List Cell}{b:Int}:∀(L:List (Option Cell)) (out:List Cell),(∀c,some c∈L->c≠[])->out.length+L.length<=1000000->(wA
                   (fun (x :
                      List (List (Pln))×Int×List (List (Pln)))
                     (d:Option (List (Pln))×Unit) =>
                    match d.1 with
                    |none=>Comp.pure (.done ([],Int.ofNat 9))
                    |some xs =>
                     amb (uS xs) (Comp.pure (.done ([],Int.ofNat 9)))
                      ((app x.2.2 [xs]).bind fun zs=>Comp.pure (.next (x.1,x.2.1,zs))))
                   (L.map fun o=>(o,())) (a,b,out)).val=some (if kM L=true then .done ([],9) else .next (a,b,out++yq L):Comp.Step (List Cell×Int×List Cell) (List Cell×Int))
 | [],out,_,_=>by
  show (Comp.pure _).val=_
  grind [Comp.zB,kM,yq]
 |none::L,out,_,_=>by
  show ((Comp.pure _).bind _).val=_
  rw[zA,Comp.zB,zLX,Comp.zB];rfl
 |some c::L,out,fD,fA=>by
  have hc:=fD c (by simp)
  simp only[zLh]at fA;show ((amb (uS c) _ _).bind _).val=_
  have hn:uS c=false:=by cases c with
   |nil=>grind
   |cons _ _=>rfl
  have h1:(amb (uS c) (Comp.pure (.done ([],Int.ofNat 9))) ((app out [c]).bind fun zs=>Comp.pure (.next (a,b,zs))):Comp (Comp.Step (List Cell×Int×List Cell) (List Cell×Int))).val=some (.next (a,b,out++[c])):=by
   rw[hn];show ((app out [c]).bind _).val=_
   grind [zA,yY,LIM,Comp.zB]
  rw[zA];refine(zLq (fun o=>Option.bind o _) h1).trans ?_
  rw[zLX];refine(pQ L (out++[c]) (fun c' h=>fD c' (zLj _ h)) (by grind)).trans ?_
  grind [kM,yq]
theorem wa{pieces:List Cell}(q:Cell)(hl:pieces.length<=200):(kR pieces q).val=some ((wth pieces q).1,(wth pieces q).2,()):=by
 unfold kR;rw[zA,Zn,zLX,yS];by_cases hf:ful q=true
 ·rw[zMA (by grind),zA,Kh,zLX]
  have hq:=zHY (c:=q)
  have key:∀(ys zs:List Cell) (out:List Cell),pieces=zs++ys->out.length+ys.length * 49<=20000->∃r,(match r with
    |.inl x=>some x.2.2
    |.inr _=>none)=wo q ys out/\(∀x,r=.inr x->x=([],9))/\(∀x,r=.inl x->x.1=[]/\x.2.1=0)/\(Comp.loop
        (fun (x:Int×List (List (Pln))×Int×List (List (Pln)))=>if ltI x.1 (zD pieces)=true then
          jn
           (fun (x_1:List (List (Pln))×Int×List (List (Pln)))=>Comp.pure (.next (zG .i64 x.1 1,x_1.1,x_1.2.1,x_1.2.2)))
           fun (j :
             List (List (Pln))×Int×List (List (Pln))->Comp
               (Comp.Step
                (Int×List (List (Pln))×Int×List (List (Pln)))
                (List (List (Pln))×Int×List (List (Pln)) ⊕
                 List (List (Pln))×Int))) =>
           (idx pieces x.1).bind fun x_1=>(Go.F.kt x_1 q).bind fun x_2=>if x_2.1=true then (app x.2.2.2 [x_1]).bind fun zs=>j (x.2.1,x.2.2.1,zs)
             else
              (Go.F.Zp x_1 (ln q)).bind fun (x_3:Comp (List (Option (List (Pln))×Unit))×Unit)=>x_3.1.bind fun (xs:List (Option (List (Pln))×Unit))=>(wA
                   (fun (x :
                      List (List (Pln))×Int×List (List (Pln)))
                     (d:Option (List (Pln))×Unit) =>
                    match d.1 with
                    |none=>Comp.pure (.done ([],Int.ofNat 9))
                    |some xs =>
                     amb (uS xs) (Comp.pure (.done ([],Int.ofNat 9)))
                      ((app x.2.2 [xs]).bind fun zs=>Comp.pure (.next (x.1,x.2.1,zs))))
                   xs (x.2.1,x.2.2.1,x.2.2.2)).bind fun (r :
                   Comp.Step
                    (List (List (Pln))×Int×List (List (Pln)))
                    (List (List (Pln))×Int)) =>
                 match r with
                 |.next x=>j (x.1,x.2.1,x.2.2)
                 |.done e=>Comp.pure (.done (Sum.inr (e.1,e.2)))
         else Comp.pure (.done (Sum.inl (x.2.1,x.2.2.1,x.2.2.2)))) ((zs.length:Int),[],0,out)).val=some r:=by
   intro ys
   induction ys with
   |nil =>
    intro zs out hx fA;refine⟨.inl ([],0,out),rfl,(fun x h=>nomatch h),(fun x h=>by grind),?_⟩
    rw[zM,zMA (by grind),Comp.zB];rfl
   |cons y ys ih =>
    intro zs out hx fA;simp only[zLh]at fA;have hy:pieces[zs.length]?=some y:=by grind
    have gF:=zN hy;by_cases ha:apa y q=true
    ·obtain⟨r,h1,h2,h3,h4⟩:=ih (zs++[y]) (out++[y]) (by grind) (by grind)
     refine⟨r,by rw[h1];conv=>rhs;unfold wo;rw[zLz ha],h2,h3,?_⟩
     rw[zM,zLz (by grind),vo,zA,zO hy,zLX,zA,jx,zLX,zLz ha,zA,
      yY (by grind [LIM]),zLX,Comp.zB,zLX,zJ (by omega)]
     grind
    ·have hp:(Zp y (ln q)).val=some (jl y (ln q),()):=by grind [Zp,Comp.zB]
     have hfo:=pQ (a:=[]) (b:=0) (gp y (ln q)) out (fun c h=>zAu h) (by grind [AF])
     by_cases hn:kM (gp y (ln q))=true
     ·refine⟨.inr ([],9),by conv=>rhs;unfold wo;rw[zMA ha,zLz hn],(fun x h=>by grind),(fun x h=>nomatch h),?_⟩
      rw[zLz hn]at hfo;rw[zM,zLz (by grind),vo,zA,zO hy,zLX,zA,jx,zLX,zMA ha,zA,hp,zLX,zA,
       pC (by omega) hq.2,zLX,zA]
      refine(zLq (fun o=>Option.bind (Option.bind o _) _) hfo).trans ?_
      rw[zLX,Comp.zB];rfl
     ·have hs:=JV (l:=gp y (ln q))
      have hg:=AF (fs:=ln q) (rest:=y);obtain⟨r,h1,h2,h3,h4⟩:=ih (zs++[y]) (out++yq (gp y (ln q))) (by grind) (by grind)
      refine⟨r,by rw[h1];conv=>rhs;unfold wo;rw[zMA ha,zMA hn],h2,h3,?_⟩
      rw[zMA hn]at hfo;rw[zM,zLz (by grind),vo,zA,zO hy,zLX,zA,jx,zLX,zMA ha,zA,hp,zLX,zA,
       pC (by omega) hq.2,zLX,zA]
      refine(zLq (fun o=>Option.bind (Option.bind o _) _) hfo).trans ?_
      rw[zLX,Comp.zB,zLX,zJ (by omega)]
      grind
  obtain⟨r,h1,h2,h3,h4⟩:=key pieces [] [] rfl (by grind)
  rw[zA];refine(zLq (fun o=>Option.bind o _) h4).trans ?_
  rw[zLX];unfold wth;rw[zLz hf,<-h1]
  cases r with
  |inl x =>
   simp only;by_cases fA:200<x.2.2.length
   ·rw[zLz (by grind),zLz fA,Comp.zB]
   ·rw[zMA (by grind),zMA fA,Comp.zB]
  |inr x =>
   rw[h2 x rfl];exact Comp.zB _
 simp_all [wth]
theorem I7(c:Cell)(s:List Cell):(Yz c s).val=some ((mns c s).1,(mns c s).2,()):=by
 unfold Yz mns;rw[zA,jw,zLX];by_cases hc:chk c=0
 ·rw[zMA (by grind),zLz hc,zA,uK,zLX]
  by_cases hs:sck s=0
  ·have fA:s.length<=16:=by
    grind [sck]
   rw[zMA (by grind),zLz hs,zA,Zn,zLX,yS]
   by_cases hf:ful c=true
   ·rw[zMA (by grind),zLz hf,zA,Kh,zLX]
    have key:∀(ys zs:List Cell) (pcs:List Cell),s=zs++ys->pcs.length<=200->∃r:List Cell⊕List Cell×Int,(match r with
      |.inl x=>(x,0)
      |.inr x =>
            x)=Xr pcs ys/\(Comp.loop
            (fun (x:List (List (Pln))×Int)=>if ltI x.2 (zD s)=true then
              (idx s x.2).bind fun x_1=>(Go.F.kR x.1 x_1).bind fun x_2=>if neI x_2.2.1 0=true then Comp.pure (.done (Sum.inr ([],x_2.2.1)))
                else Comp.pure (.next (x_2.1,zG .i64 x.2 1))
             else Comp.pure (.done (Sum.inl x.1))) (pcs,(zs.length:Int))).val=some r:=by
     intro ys
     induction ys with
     |nil =>
      intro zs pcs hx fA;refine⟨.inl pcs,rfl,?_⟩;rw[zM,zMA (by grind),Comp.zB];rfl
     |cons y ys ih =>
      intro zs pcs hx hlen';have hy:s[zs.length]?=some y:=by grind
      have gF:=zN hy;unfold Xr;by_cases he:(wth pcs y).2=0
      ·obtain⟨r,h1,h2⟩:=ih (zs++[y]) (wth pcs y).1 (by grind) (GJ hlen')
       refine⟨r,by grind,?_⟩
       rw[zM,zLz (by grind),zA,zO hy,zLX,zA,wa y hlen',zLX,zMA (by grind),Comp.zB,zJ (by omega),zLX]
       grind
      ·refine⟨.inr ([],(wth pcs y).2),by grind,?_⟩
       rw[zM,zLz (by grind),zA,zO hy,zLX,zA,wa y hlen',zLX,zLz (by grind),Comp.zB,zLX]
    obtain⟨r,h1,h2⟩:=key s [] [ln c] rfl (by simp)
    rw[zA];refine(zLq (fun o=>Option.bind o _) h2).trans ?_
    grind [Comp.zB]
   simp_all
  simp_all [je]
 simp_all [je]
theorem Dz(s:List Cell)(c:Cell):(ZH s c).val=some ((cov s c).1,(cov s c).2,()):=by
 unfold ZH cov;rw[zA,I7,zLX,Comp.zB,kB];simp[eqI,zQ]
theorem AY(s:List Cell):(jc s).val=some (sck s,()):=by
 unfold jc sck;by_cases h:16<s.length
 ·rw[zLz (by grind),zLz h,Comp.zB]
 ·rw[zMA (by grind),zMA h]
  obtain⟨r,h1,h2⟩:=my (s:=s) (by omega)
   (body:=(fun (x:Int)=>if ltI x (zD s)=true then
        (idx s x).bind fun x_1=>(Go.F.zX x_1).bind fun x_2=>if neI x_2.1 0=true then Comp.pure (.done (Sum.inr x_2.1)) else Comp.pure (.next (zG .i64 x 1))
       else Comp.pure (.done (Sum.inl ()))))
   (fun i c hc=>by
    have gF:=zN hc;rw[zLz (by grind),zA,zO hc,zLX,zA,j0,zLX,zJ (by omega)]
    by_cases h:chk c=0
    ·simp_all [je]
    simp_all [je])
   (by simp[zY,zQ])
  rw[zA];refine(zLq (fun o=>Option.bind o _) h2).trans ?_
  grind [Comp.zB]
theorem Y2(c:Cell){s:List Cell}(hl:s.length<9223372036854775807):(yN c s).val=some (sap c s,()):=by
 unfold yN;have h1:=Z1 s (fun q=>apa c q) (c:=(Sum.inr false:Unit⊕Bool)) (d:=Sum.inl ())
  (body:=(fun (x:Int)=>if ltI x (zD s)=true then
       (idx s x).bind fun x_1=>(Go.F.zZ c x_1).bind fun x_2=>if ntB x_2.1=true then Comp.pure (.done (Sum.inr false)) else Comp.pure (.next (zG .i64 x 1))
      else Comp.pure (.done (Sum.inl ()))))
  (fun i q hq=>by
   have gF:=zN hq;rw[zLz (by grind),zA,zO hq,zLX,zA,ki,zLX,yS,zJ (by omega)]
   grind [Comp.zB])
  (by simp[zY,zQ])
 rw[zA];refine(zLq (fun o=>Option.bind o _) h1).trans ?_
 grind [sap,Comp.zB]
theorem Im{p:Pln}(h:okB p):(vK p).val=some (ZO p,()):=B6 h
theorem Av{c:Cell}{p:Pln}(h:c.length<=1000):(yM c p).val=some (c++[p],()):=by
 grind [yM,zA,yY,LIM,Comp.zB]
def prt(piece:Cell)(fs:List Pln):List Cell×Int:=if kM (gp piece fs)=true then ([],9) else (yq (gp piece fs),0)
theorem Ds{l m:List (Option α)}:kM (l++m)=(kM l || kM m):=by
 induction l with
 |nil=>simp[kM]
 |cons x l ih=>cases x<;>simp[kM,ih]
theorem Ih{l m:List (Option α)}:yq (l++m)=yq l++yq m:=by
 induction l with
 |nil=>simp[yq]
 |cons x l ih=>cases x<;>simp[yq,ih]
theorem DV{piece:Cell}{fs:List Pln}(hl:fs.length<=1000)(hB:∀p∈fs,okB p):(gQ piece fs).val=some ((prt piece fs).1,(prt piece fs).2,()):=by
 unfold gQ
 have key:∀(ys zs:List Pln) (rest:Cell) (out:List Cell),fs=zs++ys->out.length+ys.length<=10000->∃r:List Cell⊕List Cell×Int,(match r with
   |.inl x=>(x,0)
   |.inr x=>x)=(if kM (gp rest ys)=true then ([],9) else (out++yq (gp rest ys),0))/\(Comp.loop
     (fun (x:List (List (Pln))×List (Pln)×Int)=>if ltI x.2.2 (zD fs)=true then
       if geI (zD x.2.1) 48=true then Comp.pure (.done (Sum.inr ([],9)))
       else
        (idx fs x.2.2).bind fun x_1=>(Go.F.vK x_1).bind fun x_2=>(Go.F.yM x.2.1 x_2.1).bind fun y=>(Go.F.zm y.1).bind fun x_3=>jn
             (fun (x_4:List (List (Pln)))=>(idx fs x.2.2).bind fun x_5=>(Go.F.yM x.2.1 x_5).bind fun y=>(Go.F.zm y.1).bind fun x_6=>Comp.pure (.next (x_4,x_6.1,zG .i64 x.2.2 1)))
             fun (j :
               List (List (Pln))->Comp
                 (Comp.Step (List (List (Pln))×List (Pln)×Int)
                  (List (List (Pln))⊕List (List (Pln))×Int))) =>
             if gtI (zD x_3.1) 0=true then (app x.1 [x_3.1]).bind fun zs=>j zs
             else j x.1
      else Comp.pure (.done (Sum.inl x.1))) (out,rest,(zs.length:Int))).val=some r:=by
  intro ys
  induction ys with
  |nil =>
   intro zs rest out hx _;refine⟨.inl out,by simp[gp,kM,yq],?_⟩
   rw[zM,zMA (by grind),Comp.zB];rfl
  |cons p ys ih =>
   intro zs rest out hx fA;simp only[zLh]at fA;have hy:fs[zs.length]?=some p:=by grind
   have gF:=zN hy;have hp:=hB p (zLe hy)
   by_cases hr:48<=rest.length
   ·refine⟨.inr ([],9),by unfold gp;rw[zLz hr];rfl,?_⟩
    rw[zM,zLz (by grind),zLz (by grind),Comp.zB];rfl
   ·let out2:List Cell:=if ln (rest++[ZO p])=[] then out else out++[ln (rest++[ZO p])]
    have hC5:out2.length<=out.length+1:=by
     grind
    obtain⟨r,h1,h2⟩:=ih (zs++[p]) (ln (rest++[p])) out2 (by grind) (by omega)
    refine⟨r,?_,?_⟩
    ·rw[h1]
     have hgp:gp rest (p::ys)=(bif decide (ln (rest++[ZO p])=[]) then [] else [some (ln (rest++[ZO p]))])++gp (ln (rest++[p])) ys:=by
      conv=>lhs;unfold gp
      grind
     rw[hgp,Ds,Ih];show (if _ then _ else ((if ln (rest++[ZO p])=[] then out else out++[ln (rest++[ZO p])])++_,_))=_
     by_cases h0:ln (rest++[ZO p])=[]
     ·rw[zMC h0,zLz h0];simp[kM,yq]
     ·rw[zMB h0,zMA h0];simp[kM,yq]
    ·have ht:∀o:List Cell,((idx fs (zs.length:Int)).bind fun x_5=>(Go.F.yM rest x_5).bind fun y=>(Go.F.zm y.1).bind fun x_6=>(Comp.pure (.next (o,x_6.1,zG .i64 (zs.length:Int) 1)):Comp (Comp.Step (List Cell×Cell×Int) (List Cell⊕List Cell×Int)))).val=some (.next (o,ln (rest++[p]),((zs.length+1:Nat):Int))):=fun o=>by
      rw[zA,zO hy,zLX,zA,Av (by omega),zLX,zA,XS,zLX,Comp.zB,zJ (by omega)]
     rw[zM,zLz (by grind),zMA (by grind),
      zA,zO hy,zLX,zA,Im hp,zLX,zA,Av (by grind),zLX,zA,XS,zLX,vo]
     have sG:(if gtI (zD (ln (rest++[ZO p]))) 0=true then (app out [ln (rest++[ZO p])]).bind fun zs1=>((idx fs (zs.length:Int)).bind fun x_5=>(Go.F.yM rest x_5).bind fun y=>(Go.F.zm y.1).bind fun x_6=>(Comp.pure (.next (zs1,x_6.1,zG .i64 (zs.length:Int) 1)):Comp (Comp.Step (List Cell×Cell×Int) (List Cell⊕List Cell×Int))))
       else ((idx fs (zs.length:Int)).bind fun x_5=>(Go.F.yM rest x_5).bind fun y=>(Go.F.zm y.1).bind fun x_6=>(Comp.pure (.next (out,x_6.1,zG .i64 (zs.length:Int) 1)):Comp (Comp.Step (List Cell×Cell×Int) (List Cell⊕List Cell×Int))))).val=some (.next (out2,ln (rest++[p]),((zs.length+1:Nat):Int))):=by
      show _=some (Comp.Step.next (if ln (rest++[ZO p])=[] then out else out++[ln (rest++[ZO p])],_,_))
      by_cases h0:ln (rest++[ZO p])=[]
      ·rw[zMA (by grind),zLz h0]
       grind
      ·rw[zLz (by grind [List.length_pos_iff]),zMA h0,zA,yY (by grind [LIM]),zLX]
       exact ht _
     grind
 obtain⟨r,h1,h2⟩:=key fs [] piece [] rfl (by grind)
 rw[zA];refine(zLq (fun o=>Option.bind o _) h2).trans ?_
 grind [prt,Comp.zB]
theorem KP{pieces:List Cell}(q:Cell)(hl:pieces.length<=200):(y7 pieces q).val=some ((wth pieces q).1,(wth pieces q).2,()):=by
 unfold y7;rw[zA,YZ,zLX,yS];by_cases hf:ful q=true
 ·rw[zMA (by grind)]
  have hq:=zHY (c:=q)
  have key:∀(ys zs:List Cell) (out:List Cell),pieces=zs++ys->out.length+ys.length * 49<=20000->∃r:List Cell⊕List Cell×Int,(match r with
    |.inl x=>some x
    |.inr _=>none)=wo q ys out/\(∀x,r=.inr x->x=([],9))/\(Comp.loop
       (fun (x:List (List (Pln))×Int)=>if ltI x.2 (zD pieces)=true then
         jn (fun (x_1:List (List (Pln)))=>Comp.pure (.next (x_1,zG .i64 x.2 1)))
          fun (j :
            List (List (Pln))->Comp
              (Comp.Step (List (List (Pln))×Int)
               (List (List (Pln))⊕List (List (Pln))×Int))) =>
          (idx pieces x.2).bind fun x_1=>(Go.F.zZ x_1 q).bind fun x_2=>if x_2.1=true then
             (idx pieces x.2).bind fun x_3=>(app x.1 [x_3]).bind fun zs=>j zs
            else
             (idx pieces x.2).bind fun x_3=>(Go.F.zm q).bind fun x_4=>(Go.F.gQ x_3 x_4.1).bind fun x_5=>if neI x_5.2.1 0=true then Comp.pure (.done (Sum.inr ([],x_5.2.1)))
                else (app x.1 x_5.1).bind fun zs=>j zs
        else Comp.pure (.done (Sum.inl x.1))) (out,(zs.length:Int))).val=some r:=by
   intro ys
   induction ys with
   |nil =>
    intro zs out hx fA;refine⟨.inl out,rfl,(fun x h=>nomatch h),?_⟩
    rw[zM,zMA (by grind),Comp.zB];rfl
   |cons y ys ih =>
    intro zs out hx fA;simp only[zLh]at fA;have hy:pieces[zs.length]?=some y:=by grind
    have gF:=zN hy;by_cases ha:apa y q=true
    ·obtain⟨r,h1,h2,h4⟩:=ih (zs++[y]) (out++[y]) (by grind) (by grind)
     refine⟨r,by rw[h1];conv=>rhs;unfold wo;rw[zLz ha],h2,?_⟩
     rw[zM,zLz (by grind),vo,zA,zO hy,zLX,zA,ki,zLX,zLz ha,zA,zO hy,zLX,zA,
      yY (by grind [LIM]),zLX,Comp.zB,zLX,zJ (by omega)]
     grind
    ·have iZ:=DV (piece:=y) (fs:=ln q) (by omega) hq.2
     by_cases hn:kM (gp y (ln q))=true
     ·have hp:prt y (ln q)=([],9):=by unfold prt;grind
      refine⟨.inr ([],9),by conv=>rhs;unfold wo;rw[zMA ha,zLz hn],(fun x h=>by grind),?_⟩
      rw[hp]at iZ;rw[zM,zLz (by grind),vo,zA,zO hy,zLX,zA,ki,zLX,zMA ha,zA,zO hy,zLX,zA,
       XS,zLX,zA,iZ,zLX,zLz (by grind),Comp.zB]
      rfl
     ·have hp:prt y (ln q)=(yq (gp y (ln q)),0):=by unfold prt;grind
      have hs:=JV (l:=gp y (ln q));have hg:=AF (fs:=ln q) (rest:=y)
      obtain⟨r,h1,h2,h4⟩:=ih (zs++[y]) (out++yq (gp y (ln q))) (by grind) (by grind)
      refine⟨r,by rw[h1];conv=>rhs;unfold wo;rw[zMA ha,zMA hn],h2,?_⟩
      rw[hp]at iZ;rw[zM,zLz (by grind),vo,zA,zO hy,zLX,zA,ki,zLX,zMA ha,zA,zO hy,zLX,zA,
       XS,zLX,zA,iZ,zLX,zMA (by grind),zA,yY (by grind [LIM]),zLX,Comp.zB,zLX,zJ (by omega)]
      grind
  obtain⟨r,h1,h2,h4⟩:=key pieces [] [] rfl (by grind)
  rw[zA];refine(zLq (fun o=>Option.bind o _) h4).trans ?_
  rw[zLX];unfold wth;rw[zLz hf,<-h1]
  cases r with
  |inl x =>
   simp only;by_cases fA:200<x.length
   ·rw[zLz (by grind),zLz fA,Comp.zB]
   ·rw[zMA (by grind),zMA fA,Comp.zB]
  |inr x =>
   rw[h2 x rfl];exact Comp.zB _
 simp_all [wth]
theorem pJ:∀(s:List Cell),Xr [] s=([],0)
 | []=>rfl
 |q::s=>by
  have h:wth [] q=([],0):=by
   unfold wth;split
   ·rfl
   ·rfl
  unfold Xr;rw[h];exact pJ s
theorem DW(c:Cell)(s:List Cell):(ja c s).val=some ((mns c s).1,(mns c s).2,()):=by
 unfold ja mns;rw[zA,j0,zLX,vo];by_cases hc:chk c=0
 ·rw[zLz (by grind),zLz hc,zA,AY,zLX]
  by_cases hs:sck s=0
  ·have fA:s.length<=16:=by
    grind [sck]
   show (if neI (sck s) 0=true then _ else _:Comp (List Cell×Int×Unit)).val=_
   rw[zMA (by grind),zLz hs,zA,YZ,zLX,vo]
   have key:∀(ys zs:List Cell) (pcs:List Cell),s=zs++ys->pcs.length<=200->∃r:List Cell⊕List Cell×Int,(match r with
     |.inl x=>(x,0)
     |.inr x =>
           x)=Xr pcs ys/\(Comp.loop
           (fun (x:List (List (Pln))×Int)=>if ltI x.2 (zD s)=true then
             (idx s x.2).bind fun x_1=>(Go.F.y7 x.1 x_1).bind fun x_2=>if neI x_2.2.1 0=true then Comp.pure (.done (Sum.inr ([],x_2.2.1)))
               else Comp.pure (.next (x_2.1,zG .i64 x.2 1))
            else Comp.pure (.done (Sum.inl x.1))) (pcs,(zs.length:Int))).val=some r:=by
    intro ys
    induction ys with
    |nil =>
     intro zs pcs hx fA;refine⟨.inl pcs,rfl,?_⟩;rw[zM,zMA (by grind),Comp.zB];rfl
    |cons y ys ih =>
     intro zs pcs hx hlen';have hy:s[zs.length]?=some y:=by grind
     have gF:=zN hy;unfold Xr;by_cases he:(wth pcs y).2=0
     ·obtain⟨r,h1,h2⟩:=ih (zs++[y]) (wth pcs y).1 (by grind) (GJ hlen')
      refine⟨r,by grind,?_⟩
      rw[zM,zLz (by grind),zA,zO hy,zLX,zA,KP y hlen',zLX,zMA (by grind),Comp.zB,zJ (by omega),zLX]
      grind
     ·refine⟨.inr ([],(wth pcs y).2),by grind,?_⟩
      rw[zM,zLz (by grind),zA,zO hy,zLX,zA,KP y hlen',zLX,zLz (by grind),Comp.zB,zLX]
   have tail:∀pcs:List Cell,pcs.length<=200->((Comp.loop
            (fun (x:List (List (Pln))×Int)=>if ltI x.2 (zD s)=true then
              (idx s x.2).bind fun x_1=>(Go.F.y7 x.1 x_1).bind fun x_2=>if neI x_2.2.1 0=true then Comp.pure (.done (Sum.inr ([],x_2.2.1)))
                else Comp.pure (.next (x_2.1,zG .i64 x.2 1))
             else Comp.pure (.done (Sum.inl x.1)))
            (pcs,0)).bind fun (x:List (List (Pln))⊕List (List (Pln))×Int)=>match x with
          |Sum.inl x=>(Comp.pure (x,0,()):Comp (List Cell×Int×Unit))
          |Sum.inr x=>Comp.pure (x.1,x.2,())).val=some ((Xr pcs s).1,(Xr pcs s).2,()):=by
    intro pcs hp;obtain⟨r,h1,h2⟩:=key s [] pcs rfl hp;rw[zA];refine(zLq (fun o=>Option.bind o _) h2).trans ?_
    grind [Comp.zB]
   by_cases hf:ful c=true
   ·rw[zLz hf,zLz hf,zA,XS,zLX,zA,yY (by grind [LIM]),zLX]
    exact tail [ln c] (by simp)
   ·rw[zMA hf,zMA hf]
    refine(tail [] (by simp)).trans ?_
    rw[pJ]
  simp_all [je]
 ·rw[zMA (by grind),zMA hc]
  simp_all [je]
theorem wj(s:List Cell)(c:Cell):(ye s c).val=some ((cov s c).1,(cov s c).2,()):=by
 unfold ye cov;rw[zA,DW,zLX,Comp.zB,kB];simp[eqI,zQ]
abbrev Part:=vE×List Cell×List Int×Unit
abbrev vU:=List Bool×List Bool×List Cell×Unit
abbrev Eff:=List Cell×List Cell×Int×List Int×Unit
abbrev Job:=Part×vU×List Eff×Unit
def kx(w:Int):Bool:=decide (w<1) || decide (3<w)
def KY:List Cell->List Cell->Bool
 |_,[]=>true
 |seen,c::l=>ful c && (sap c seen && KY (seen++[c]) l)
def ckP(p:Part):Int :=
 if p.2.1.length=0\/16<p.2.1.length then 2 else if p.2.2.1.length≠p.2.1.length\/p.2.2.1.any kx=true then 1 else bif KY [] p.2.1 then 0 else 13
def Y7(p:Part)(x:vU):Bool:=(decide (x.1.length=p.2.1.length) && decide (x.2.1.length=p.2.1.length)) && (decide (x.2.2.1.length<=24) && decide (jd x.2.2.1=0))
theorem Jb{c:Cell}{s:List Cell}:jd (c::s)=if chk c=0 then jd s else chk c:=rfl
theorem Yr{s:List Cell}:jd s=0↔∀c∈s,chk c=0:=by
 induction s with
 |nil=>simp[jd]
 |cons c s ih =>
  unfold jd;grind
theorem Kk{s t:List Cell}:jd (s++t)=if jd s=0 then jd t else jd s:=by
 induction s with
 |nil=>simp[jd]
 |cons c s ih =>
  rw[List.cons_append,Jb,Jb];omega
theorem Xh{s:List Cell}(hl:s.length<9223372036854775807):(yb s).val=some (jd s,()):=by
 unfold yb;obtain⟨r,h1,h2⟩:=my (s:=s) hl
  (body:=(fun (x:Int)=>if ltI x (zD s)=true then
       (idx s x).bind fun x_1=>(Go.F.zX x_1).bind fun x_2=>if neI x_2.1 0=true then Comp.pure (.done (Sum.inr x_2.1)) else Comp.pure (.next (zG .i64 x 1))
      else Comp.pure (.done (Sum.inl ()))))
  (fun i c hc=>by
   have gF:=zN hc;rw[zLz (by grind),zA,zO hc,zLX,zA,j0,zLX,zJ (by omega)]
   by_cases h:chk c=0
   ·simp_all [je]
   simp_all [je])
  (by simp[zY,zQ])
 rw[zA];refine(zLq (fun o=>Option.bind o _) h2).trans ?_
 grind [Comp.zB]
theorem U2{xs:List α}{k:Nat}(h:k<=xs.length):(sub xs 0 (k:Int)).val=some (xs.take k):=by
 grind [YS]
theorem uJ{p:Part}(hw:p.2.2.1.length<9223372036854775807):(Yy p).val=some (ckP p,()):=by
 unfold Yy ckP;by_cases h1:p.2.1.length=0\/16<p.2.1.length
 ·rw[zLz (by grind),zLz h1,Comp.zB]
 ·rw[zMA (by grind),zMA h1,zA]
  have hc:(zh p.2.2.1 fun z=>gE z.1).val=some (p.2.2.1.any kx,()) :=
   Z0 (xs:=p.2.2.1) (f:=fun z=>gE z.1) (p:=kx) hw fun w _=>by
    show (gE w).val=_
    unfold gE;rw[Comp.zB,XF];rfl
  have cH:(Comp.loop
        (fun (x:Int)=>if ltI x (zD p.2.1)=true then
          (idx p.2.1 x).bind fun x_1=>(Go.F.kH x_1).bind fun x_2=>(Comp.gd (ntB (ntB x_2.1)) (sub p.2.1 0 x) []).bind fun x_3=>(Comp.gd (ntB (ntB x_2.1)) (Go.F.jF x_1 x_3) (false,())).bind fun x_4=>if sel (ntB x_2.1) true (ntB x_4.1)=true then Comp.pure (.done (Sum.inr 13))
              else Comp.pure (.next (zG .i64 x 1))
         else Comp.pure (.done (Sum.inl ():Unit⊕Int)))
        0).val=some (bif KY [] p.2.1 then .inl () else .inr 13):=by
   have key:∀(ys zs:List Cell),p.2.1=zs++ys->(Comp.loop
        (fun (x:Int)=>if ltI x (zD p.2.1)=true then
          (idx p.2.1 x).bind fun x_1=>(Go.F.kH x_1).bind fun x_2=>(Comp.gd (ntB (ntB x_2.1)) (sub p.2.1 0 x) []).bind fun x_3=>(Comp.gd (ntB (ntB x_2.1)) (Go.F.jF x_1 x_3) (false,())).bind fun x_4=>if sel (ntB x_2.1) true (ntB x_4.1)=true then Comp.pure (.done (Sum.inr 13))
              else Comp.pure (.next (zG .i64 x 1))
         else Comp.pure (.done (Sum.inl ():Unit⊕Int))) (zs.length:Int)).val=some (bif KY zs ys then .inl () else .inr 13):=by
    intro ys
    induction ys with
    |nil =>
     intro zs hx;rw[zM,zMA (by grind),Comp.zB];rfl
    |cons y ys ih =>
     intro zs hx;have hy:p.2.1[zs.length]?=some y:=by grind
     have gF:=zN hy;have ht:p.2.1.take zs.length=zs:=by grind
     rw[zM,zLz (by grind),zA,zO hy,zLX,zA,Zn,zLX]
     unfold KY
     cases hf:ful y with
     |false =>
      rw[zA];show Option.bind (Option.bind (Comp.pure _).val _) _=_
      rw[Comp.zB,zLX,zA];show Option.bind (Option.bind (Comp.pure _).val _) _=_
      rw[Comp.zB,zLX,zLz (by rfl),Comp.zB];rfl
     |true =>
      rw[zA];show Option.bind (Option.bind (sub p.2.1 0 (zs.length:Int)).val _) _=_
      rw[U2 (by omega),zLX,ht,zA]
      show Option.bind (Option.bind (jF y zs).val _) _=_
      rw[Xn y (by omega),zLX]
      cases ha:sap y zs with
      |false=>rw[zLz (by rfl),Comp.zB];rfl
      |true =>
       rw[zMA (by grind),Comp.zB,zJ (by omega),zLX]
       grind
   grind
  have bV:∀b:Bool,((Comp.pure (bif b then Sum.inl () else Sum.inr 13):Comp (Unit⊕Int)).bind fun (x:Unit⊕Int)=>match x with
      |Sum.inl x=>(Comp.pure (0,()):Comp (Int×Unit))
      |Sum.inr x=>Comp.pure (x,())).val=some (bif b then 0 else 13,()):=fun b=>by
   grind [zA,Comp.zB]
  by_cases h2:p.2.2.1.length≠p.2.1.length
  ·have e:neI (zD p.2.2.1) (zD p.2.1)=true:=by grind
   rw[e];show Option.bind (Comp.pure _).val _=_
   rw[Comp.zB,zLX,zLz (by rfl),Comp.zB,zLz (.inl h2)]
  ·have e:neI (zD p.2.2.1) (zD p.2.1)=false:=by grind
   rw[e];show Option.bind (zh p.2.2.1 fun z=>gE z.1).val _=_
   rw[hc,zLX];by_cases h3:p.2.2.1.any kx=true
   ·rw[zLz (by grind),Comp.zB,zLz (.inr h3)]
   ·rw[zMA (by grind),zMA (by grind),zA]
    refine(zLq (fun o=>Option.bind o _) cH).trans ?_
    grind [Comp.zB]
theorem XI{p:Part}(hw:p.2.2.1.length<9223372036854775807):(gP p).val=some (ckP p,()):=by
 unfold gP ckP;by_cases h1:p.2.1.length=0\/16<p.2.1.length
 ·rw[zLz (by grind),zLz h1,Comp.zB]
 ·rw[zMA (by grind),zMA h1]
  by_cases h2:p.2.2.1.length≠p.2.1.length
  ·rw[zLz (by grind),Comp.zB,zLz (.inl h2)]
  ·rw[zMA (by grind)]
   have hw1:=Z1 p.2.2.1 (fun w=>!kx w) (c:=(Sum.inr 1:Unit⊕Int)) (d:=Sum.inl ())
    (body:=(fun (x:Int)=>if ltI x (zD p.2.2.1)=true then
         (idx p.2.2.1 x).bind fun x_1=>(Comp.gd (ntB (ltI x_1 1)) (idx p.2.2.1 x) (Int.ofNat 0)).bind fun x_2=>if sel (ltI x_1 1) true (gtI x_2 3)=true then Comp.pure (.done (Sum.inr 1))
           else Comp.pure (.next (zG .i64 x 1))
        else Comp.pure (.done (Sum.inl ()))))
    (fun i w hx=>by
     have gF:=zN hx;rw[zLz (by grind),zA,zO hx,zLX,zA,Qm,zO hx,zJ (by omega)]
     unfold kx;by_cases h1:w<1
     ·simp_all [ltI,yS,sel]
     ·have:ltI w 1=false:=by grind
      by_cases h3:3<w
      ·simp_all [Jv,yS,sel]
      ·have h4:gtI w 3=false:=by grind
       simp_all [yS,sel])
    (by simp[zY,zQ])
   have fH:(p.2.2.1.all fun w=>!kx w) = !p.2.2.1.any kx:=by grind
   rw[fH]at hw1;rw[zA];refine(zLq (fun o=>Option.bind o _) hw1).trans ?_
   rw[zLX];by_cases h3:p.2.2.1.any kx=true
   ·rw[h3,zLz (.inr rfl)]
    exact Comp.zB _
   ·have h3':p.2.2.1.any kx=false:=by grind
    rw[h3',zMA (by grind)]
    have inner:∀(k:Nat) (c:Cell),p.2.1[k]?=some c->(Comp.loop
                 (fun (x_3:Int)=>if ltI x_3 (k:Int)=true then
                   (idx p.2.1 x_3).bind fun x_4=>(idx p.2.1 (k:Int)).bind fun x=>(Go.F.zZ x_4 x).bind fun x=>if ntB x.1=true then Comp.pure (.done (Sum.inr 13))
                      else Comp.pure (.next (zG .i64 x_3 1))
                  else Comp.pure (.done (Sum.inl ():Unit⊕Int)))
                 0).val=some (bif sap c (p.2.1.take k) then .inl () else .inr 13):=by
     intro k c hc;have hk:=zN hc
     have h5:=Z1 (p.2.1.take k) (fun q=>apa c q) (c:=(Sum.inr 13:Unit⊕Int)) (d:=Sum.inl ())
      (body:=(fun (x_3:Int)=>if ltI x_3 (k:Int)=true then
                   (idx p.2.1 x_3).bind fun x_4=>(idx p.2.1 (k:Int)).bind fun x=>(Go.F.zZ x_4 x).bind fun x=>if ntB x.1=true then Comp.pure (.done (Sum.inr 13))
                      else Comp.pure (.next (zG .i64 x_3 1))
                  else Comp.pure (.done (Sum.inl ():Unit⊕Int))))
      (fun i q hq=>by
       have hi:=zN hq;rw[zLu]at hi;have hq':p.2.1[i]?=some q:=by grind
       rw[zLz (by grind),zA,zO hq',zLX,zA,zO hc,zLX,zA,ki,zLX,yS,qg q c,zJ (by omega)]
       grind [Comp.zB])
      (by rw[zMA (by grind),Comp.zB])
     exact h5
    have key:∀(ys zs:List Cell),p.2.1=zs++ys->(Comp.loop
         (fun (x:Int)=>if ltI x (zD p.2.1)=true then
           (idx p.2.1 x).bind fun x_1=>(Go.F.z6 x_1).bind fun x_2=>if ntB x_2.1=true then Comp.pure (.done (Sum.inr 13))
             else
              (Comp.loop
                 (fun (x_3:Int)=>if ltI x_3 x=true then
                   (idx p.2.1 x_3).bind fun x_4=>(idx p.2.1 x).bind fun x=>(Go.F.zZ x_4 x).bind fun x=>if ntB x.1=true then Comp.pure (.done (Sum.inr 13))
                      else Comp.pure (.next (zG .i64 x_3 1))
                  else Comp.pure (.done (Sum.inl ())))
                 0).bind fun (x_3:Unit⊕Int)=>match x_3 with
               |Sum.inl x_4=>Comp.pure (.next (zG .i64 x 1))
               |Sum.inr x=>Comp.pure (.done (Sum.inr x))
          else Comp.pure (.done (Sum.inl ():Unit⊕Int))) (zs.length:Int)).val=some (bif KY zs ys then .inl () else .inr 13):=by
     intro ys
     induction ys with
     |nil =>
      intro zs hx;rw[zM,zMA (by grind),Comp.zB];rfl
     |cons y ys ih =>
      intro zs hx;have hy:p.2.1[zs.length]?=some y:=by grind
      have gF:=zN hy;have ht:p.2.1.take zs.length=zs:=by grind
      rw[zM,zLz (by grind),zA,zO hy,zLX,zA,YZ,zLX,yS]
      unfold KY
      cases hf:ful y with
      |false=>simp
      |true =>
       rw[zMA (by simp),zA]
       have h6:=inner zs.length y hy;rw[ht]at h6;refine(zLq (fun o=>Option.bind (Option.bind o _) _) h6).trans ?_
       cases ha:sap y zs with
       |false=>rw[zLX];exact(zLq (fun o=>Option.bind o _) (Comp.zB _)).trans rfl
       |true =>
        rw[zLX];refine(zLq (fun o=>Option.bind o _) (Comp.zB _)).trans ?_
        rw[zLX,zJ (by omega)]
        simpa using ih (zs++[y]) (by grind)
    have h7:=key p.2.1 [] rfl;show (Comp.bind (Comp.loop _ _) _).val=_
    rw[zA];refine(zLq (fun o=>Option.bind o _) h7).trans ?_
    grind [Comp.zB]
theorem CA(p:Part)(x:vU):sel (sel (eqI (zD x.1) (zD p.2.1)) (eqI (zD x.2.1) (zD p.2.1)) false) (leI (zD x.2.2.1) 24) false=((decide (x.1.length=p.2.1.length) && decide (x.2.1.length=p.2.1.length)) && decide (x.2.2.1.length<=24)):=by
 grind
theorem CC(p:Part)(x:vU):Y7 p x=(((decide (x.1.length=p.2.1.length) && decide (x.2.1.length=p.2.1.length)) && decide (x.2.2.1.length<=24)) && decide (jd x.2.2.1=0)):=by
 grind [Y7]
theorem rO(p:Part)(x:vU):(JY p x).val=some (Y7 p x,()):=by
 unfold JY;rw[CA,CC,zA]
 cases hb:((decide (x.1.length=p.2.1.length) && decide (x.2.1.length=p.2.1.length)) && decide (x.2.2.1.length<=24)) with
 |false =>
  show Option.bind (Comp.pure _).val _=_
  grind [Comp.zB]
 |true =>
  have hl:x.2.2.1.length<=24:=by
   grind
  have h1:(zH x.2.2.1 fun z=>kF z.1).val=some (x.2.2.1.any fun c=>decide (chk c≠0),()) :=
   Z0 (xs:=x.2.2.1) (f:=fun z=>kF z.1) (p:=fun c=>decide (chk c≠0)) (by omega) fun c _=>by
    grind [kF,zA,jw,Comp.zB]
  show Option.bind (zH x.2.2.1 fun z=>kF z.1).val _=_
  rw[h1,zLX,Comp.zB,kB,Bool.true_and,Bool.true_and,yS]
  congr 2
  by_cases h:jd x.2.2.1=0
  ·grind [Yr]
  simp_all [zMB,Yr]
theorem rq(p:Part)(x:vU):(gl p x).val=some (Y7 p x,()):=by
 unfold gl;rw[CA,CC,zA]
 cases hb:((decide (x.1.length=p.2.1.length) && decide (x.2.1.length=p.2.1.length)) && decide (x.2.2.1.length<=24)) with
 |false =>
  show Option.bind (Comp.pure _).val _=_
  grind [Comp.zB]
 |true =>
  have hl:x.2.2.1.length<=24:=by
   grind
  show Option.bind (yb x.2.2.1).val _=_
  grind [Xh,Comp.zB]
def fit(p:Part)(x:vU):Int:=if ckP p=0 then bif Y7 p x then 0 else 4 else ckP p
theorem r9{s:List Cell}(hl:s.length<=1000000)(hc:∀c∈s,c.length<=1000000):(gm s).val=some (s,()):=by
 unfold gm;have h1:=ZJ s.length (fun k l=>match s[k]? with|some c=>l++[c]|none=>l) (fun k l=>l++s.drop k) (fun l k=>l.length=k)
  (body:=(fun (x:List (List (Pln))×Int)=>if ltI x.2 (zD s)=true then
       (idx s x.2).bind fun x_1=>(app [] x_1).bind fun zs=>(app x.1 [zs]).bind fun zs=>Comp.pure (Comp.Step.next (zs,zG .i64 x.2 1))
      else Comp.pure (Comp.Step.done x.1)))
  (fun l k hk hI=>by
   obtain⟨c,hc'⟩:=zK (xs:=s) (k:=k) hk;have xO:=hc c (zLe hc')
   refine⟨?_,by grind,by grind [drop_cons]⟩
   rw[hc'];simp only;rw[zLz (by grind),zA,zO hc',zLX,zA,yY (by grind [LIM]),zLX,zA,yY (by grind [LIM]),zLX,Comp.zB,zJ (by omega),List.nil_append])
  (fun l=>by simp[zY,zQ]) (fun l=>by grind) 0 [] (Nat.zero_le _) rfl
 rw[zA];simp_all
def nr(s:List Cell)(c:Cell):List Cell:=s.filter fun z=>!apa z c
theorem DX{s:List Cell}(c:Cell)(hl:s.length<=1000000):(vZ s c).val=some (nr s c,()):=by
 unfold vZ;have h1:=ZJ s.length (fun k l=>match s[k]? with|some z=>if (!apa z c)=true then l++[z] else l|none=>l) (fun k l=>l++nr (s.drop k) c) (fun l k=>l.length<=k)
  (body:=(fun (x:List (List (Pln))×Int)=>if ltI x.2 (zD s)=true then
       (idx s x.2).bind fun x_1=>(Go.F.zZ x_1 c).bind fun x_2=>jn (fun (x_3:List (List (Pln)))=>Comp.pure (Comp.Step.next (x_3,zG .i64 x.2 1)))
          fun (j :
            List (List (Pln))->Comp
              (Comp.Step (List (List (Pln))×Int) (List (List (Pln))))) =>
          if ntB x_2.1=true then
           (idx s x.2).bind fun x_3=>(app x.1 [x_3]).bind fun zs=>j zs
          else j x.1
      else Comp.pure (Comp.Step.done x.1)))
  (fun l k hk hI=>by
   obtain⟨z,hz⟩:=zK (xs:=s) (k:=k) hk;refine⟨?_,?_,?_⟩
   ·rw[hz]
    simp only;rw[zLz (by grind),zA,zO hz,zLX,zA,ki,zLX,vo,yS]
    by_cases h:(!apa z c)=true
    ·rw[zLz h,zLz h,zA,zO hz,zLX,zA,yY (by grind [LIM]),zLX,Comp.zB,zJ (by omega)]
    ·rw[zMA h,zMA h,Comp.zB,zJ (by omega)]
   ·grind
   ·rw[drop_cons hz,hz]
    unfold nr;grind)
  (fun l=>by simp[zY,zQ]) (fun l=>by grind [nr]) 0 [] (Nat.zero_le _) (by simp)
 rw[zA];simp_all
def sur(all:List Cell)(c:Cell)(s:Bool):Bool:=bif s then true else (cov (nr all c) c).1
def tch(cuts touches:List Cell)(c:Cell)(t:Bool):Bool:=(t || !sap c cuts) || !sap c touches
def apE(all:List Cell):List Cell->List Bool->Int
 |c::C,s::S=>bif s then apE all C S else if (cov (nr all c) c).2=0 then apE all C S else (cov (nr all c) c).2
 |_,_=>0
def apS(all:List Cell)(C:List Cell)(S:List Bool):List Bool:=List.zipWith (sur all) C S
def apT(cuts touches:List Cell)(C:List Cell)(T:List Bool):List Bool:=List.zipWith (tch cuts touches) C T
def zP:vU:=([],[],[],())
def apl(p:Part)(x:vU)(cuts touches:List Cell):vU×Int :=
 if fit p x=0 then if jd (cuts++touches)=0 then if 24<x.2.2.1.length+cuts.length then (zP,2)
  else if apE (x.2.2.1++cuts) p.2.1 x.1=0 then ((apS (x.2.2.1++cuts) p.2.1 x.1,apT cuts touches p.2.1 x.2.1,x.2.2.1++cuts,()),0) else (zP,apE (x.2.2.1++cuts) p.2.1 x.1)
  else (zP,jd (cuts++touches)) else (zP,fit p x)
theorem U0{t a b:Bool}{A B:Comp (Bool×Unit)}(hA:A.val=some (a,()))(hB:B.val=some (b,()))(K:Bool->Comp β) :
  ((Comp.gd (ntB t) A (false,())).bind fun x6=>(Comp.gd (ntB (sel t true (ntB x6.1))) B (false,())).bind fun x7=>K (sel (sel t true (ntB x6.1)) true (ntB x7.1))).val=(K ((t || !a) || !b)).val:=by
 rw[zA]
 cases t with
 |true =>
  show Option.bind (Comp.pure _).val _=_
  rw[Comp.zB,zLX,zA];show Option.bind (Comp.pure _).val _=_
  rw[Comp.zB,zLX];rfl
 |false =>
  show Option.bind A.val _=_
  rw[hA,zLX,zA]
  cases a with
  |false =>
   show Option.bind (Comp.pure _).val _=_
   rw[Comp.zB,zLX];rfl
  |true =>
   show Option.bind B.val _=_
   grind
theorem GE{f:α->β->γ}{l:List α}{m:List β}{k:Nat}{a:α}{b:β}(h1:l[k]?=some a)(h2:m[k]?=some b):(List.zipWith f l m)[k]?=some (f a b):=by
 grind
theorem KM{p:Part}{x:vU}(hf:fit p x=0):ckP p=0/\Y7 p x=true/\x.1.length=p.2.1.length/\x.2.1.length=p.2.1.length/\x.2.2.1.length<=24/\jd x.2.2.1=0/\p.2.1.length<=16/\p.2.2.1.length=p.2.1.length:=by
 have hck:ckP p=0:=by
  grind [fit]
 have oC:Y7 p x=true:=by
  unfold fit at hf;grind
 have hfb':=oC;unfold Y7 at oC;simp only[zLZ,zLr]at oC;grind [ckP]
theorem Db{p:Part}{x:vU}{cuts touches:List Cell}(hw:p.2.2.1.length<9223372036854775807)(xO:cuts.length<=100000000)(bT:touches.length<=100000000):(jZ p x cuts touches).val=some ((apl p x cuts touches).1,(apl p x cuts touches).2,()):=by
 unfold jZ apl;rw[zA,XI hw,zLX];by_cases hck:ckP p=0
 ·rw[zMA (by grind),zA,rq,zLX,yS]
  cases oC:Y7 p x with
  |false =>
   have hf:fit p x=4:=by simp_all [fit]
   rw[zLz (by simp),zMA (by omega),hf,Comp.zB];rfl
  |true =>
   have hf:fit p x=0:=by simp_all [fit]
   obtain⟨_,_,f1,f2,f3,f4,hn,hwn⟩:=KM hf;rw[zMA (by simp),zLz hf,zA,Xh (by omega),zLX,vo]
   have dI:zG .i64 (zD x.2.2.1) (zD cuts)=((x.2.2.1.length+cuts.length:Nat):Int):=by grind
   by_cases a8:jd cuts=0
   ·rw[zLz (by grind),zA,Xh (by omega),zLX]
    have hE:jd (cuts++touches)=jd touches:=by rw[Kk,zLz a8]
    rw[hE];show (if neI (jd touches) 0=true then _ else _:Comp (vU×Int×Unit)).val=_
    by_cases he:jd touches=0
    ·rw[zMA (by grind),zLz he]
     by_cases bW:24<x.2.2.1.length+cuts.length
     ·rw[zLz (by grind),zLz bW,Comp.zB];rfl
     ·rw[zMA (by grind),zMA bW]
      have i6:∀c∈x.2.2.1,c.length<=1000000:=fun c hc=>by grind [Y8,Yr]
      have i7:∀c∈cuts,c.length<=1000000:=fun c hc=>by grind [Y8,Yr]
      rw[zA,r9 (by omega) i6,zLX,zA,r9 (by omega) i7,zLX,zA,yY (by grind [LIM]),zLX]
      simp only;generalize fH:x.2.2.1++cuts=all;have sW:all.length<=24:=by grind
      have hSl:(apS all p.2.1 x.1).length=x.1.length:=by grind [apS]
      have hTl:(apT cuts touches p.2.1 x.2.1).length=x.2.1.length:=by grind [apT]
      have key:∀(m k:Nat),k+m=p.2.1.length->(Comp.loop
                 (fun
                   (x_1 :
                    Int ×
                     (List Bool×List Bool×List (List (Pln))×Unit) ×
                      List Bool×List Bool×List (List (Pln))×Unit) =>
                  if ltI x_1.1 (zD p.2.1)=true then
                   (idx p.2.1 x_1.1).bind fun (x_2:List (Pln)) =>
                    (idx x.2.1 x_1.1).bind fun (x_3:Bool) =>
                     (Comp.gd (ntB x_3) (Go.F.yN x_2 cuts) (false,())).bind fun (x_4:Bool×Unit) =>
                      (Comp.gd (ntB (sel x_3 true (ntB x_4.1))) (Go.F.yN x_2 touches) (false,())).bind
                       fun (x_5:Bool×Unit) =>
                       (app x_1.2.2.2.1 [sel (sel x_3 true (ntB x_4.1)) true (ntB x_5.1)]).bind fun (zs:List Bool) =>
                        (idx x.1 x_1.1).bind fun (x_6:Bool) =>
                         jn
                          (fun (x_7:Bool×List Bool×List Bool×List (List (Pln))×Unit) =>
                           (app x_1.2.2.1 [x_7.1]).bind fun (zs_1:List Bool) =>
                            Comp.pure (Comp.Step.next (zG .i64 x_1.1 1,x_7.2,zs_1,zs,x_1.2.2.2.2.1,())))
                          fun
                           (j :
                            Bool×List Bool×List Bool×List (List (Pln))×Unit ->
                             Comp
                              (Comp.Step
                               (Int ×
                                (List Bool×List Bool×List (List (Pln))×Unit) ×
                                 List Bool×List Bool×List (List (Pln))×Unit)
                               ((List Bool×List Bool×List (List (Pln))×Unit) ×
                                 List Bool×List Bool×List (List (Pln))×Unit ⊕
                                Int×List Bool×List Bool×List (List (Pln))×Unit))) =>
                          if ntB x_6=true then
                           (Go.F.vZ x_1.2.2.2.2.1 x_2).bind
                            fun (y:List (List (Pln))×Unit) =>
                            (Go.F.ye y.1 x_2).bind fun (x_7:Bool×Int×Unit) =>
                             if neI x_7.2.1 0=true then Comp.pure (Comp.Step.done (Sum.inr (x_7.2.1,[],[],[],())))
                             else j (x_7.1,x_1.2.1)
                          else j (x_6,x_1.2.1)
                  else Comp.pure (Comp.Step.done (Sum.inl (x_1.2.1,x_1.2.2.1,x_1.2.2.2.1,x_1.2.2.2.2.1,()))))
              ((k:Int),zP,(apS all p.2.1 x.1).take k,(apT cuts touches p.2.1 x.2.1).take k,all,())).val =
        some (if apE all (p.2.1.drop k) (x.1.drop k)=0 then .inl (zP,apS all p.2.1 x.1,apT cuts touches p.2.1 x.2.1,all,()) else .inr (apE all (p.2.1.drop k) (x.1.drop k),zP)):=by
       intro m
       induction m with
       |zero =>
        intro k hk;rw[zM,zMA (by grind),Comp.zB,zLX]
        rw[List.drop_eq_nil_of_le (show p.2.1.length<=k by omega),List.drop_eq_nil_of_le (show x.1.length<=k by omega),List.take_of_length_le (by omega),List.take_of_length_le (by omega)]
        rfl
       |succ m ih =>
        intro k hk;obtain⟨c,hc⟩:=zK (xs:=p.2.1) (k:=k) (by omega)
        obtain⟨s,hs⟩:=zK (xs:=x.1) (k:=k) (by omega)
        obtain⟨t,ht⟩:=zK (xs:=x.2.1) (k:=k) (by omega)
        have gS:(apS all p.2.1 x.1)[k]?=some (sur all c s):=GE hc hs;have gT:(apT cuts touches p.2.1 x.2.1)[k]?=some (tch cuts touches c t):=GE hc ht
        have hT2:(apT cuts touches p.2.1 x.2.1).take k++[tch cuts touches c t]=(apT cuts touches p.2.1 x.2.1).take (k+1):=by rw[List.take_add_one,gT];rfl
        have hS2:∀v,sur all c s=v->(apS all p.2.1 x.1).take k++[v]=(apS all p.2.1 x.1).take (k+1):=fun v hv=>by rw[List.take_add_one,gS,hv];rfl
        have lT:((apT cuts touches p.2.1 x.2.1).take k).length<=16:=by rw[zLu];omega
        have lS:((apS all p.2.1 x.1).take k).length<=16:=by simp_all
        rw[zM,zLz (by rw[zY,zQ];omega),zA,zO hc,zLX,zA,zO ht,zLX]
        have hE:apE all (p.2.1.drop k) (x.1.drop k)=bif s then apE all (p.2.1.drop (k+1)) (x.1.drop (k+1)) else if (cov (nr all c) c).2=0 then apE all (p.2.1.drop (k+1)) (x.1.drop (k+1)) else (cov (nr all c) c).2:=by
         rw[drop_cons hc,drop_cons hs];rfl
        have hj:∀v zs,((app ((apS all p.2.1 x.1).take k) [v]).bind fun (zs_1:List Bool) =>
                            (Comp.pure (Comp.Step.next (zG .i64 (k:Int) 1,zP,zs_1,zs,all,())):Comp (Comp.Step (Int×vU×vU) (vU×vU⊕Int×vU)))).val=some (.next (((k+1:Nat):Int),zP,(apS all p.2.1 x.1).take k++[v],zs,all,())):=fun v zs=>by
         rw[zA,yY (by simp only[zLc];unfold LIM;omega),zLX,Comp.zB,zJ (by omega)]
        refine(zLq (fun o=>Option.bind o _) (U0 (Y2 c (s:=cuts) (by omega)) (Y2 c (s:=touches) (by omega)) (fun tt =>
                       (app ((apT cuts touches p.2.1 x.2.1).take k) [tt]).bind fun (zs:List Bool) =>
                        (idx x.1 (k:Int)).bind fun (x_6:Bool) =>
                          if ntB x_6=true then
                           (Go.F.vZ all c).bind
                            fun (y:List (List (Pln))×Unit) =>
                            (Go.F.ye y.1 c).bind fun (x_7:Bool×Int×Unit) =>
                             if neI x_7.2.1 0=true then Comp.pure (Comp.Step.done (Sum.inr (x_7.2.1,[],[],[],())))
                             else ((app ((apS all p.2.1 x.1).take k) [x_7.1]).bind fun (zs_1:List Bool) =>
                            (Comp.pure (Comp.Step.next (zG .i64 (k:Int) 1,zP,zs_1,zs,all,())):Comp (Comp.Step (Int×vU×vU) (vU×vU⊕Int×vU))))
                          else ((app ((apS all p.2.1 x.1).take k) [x_6]).bind fun (zs_1:List Bool) =>
                            (Comp.pure (Comp.Step.next (zG .i64 (k:Int) 1,zP,zs_1,zs,all,())):Comp (Comp.Step (Int×vU×vU) (vU×vU⊕Int×vU))))))).trans ?_
        rw[zA,yY (by simp only[zLc];unfold LIM;omega),zLX,show (apT cuts touches p.2.1 x.2.1).take k++[(t || !sap c cuts) || !sap c touches]=(apT cuts touches p.2.1 x.2.1).take (k+1) from hT2,zA,zO hs,zLX,yS]
        cases s with
        |true =>
         rw[zMA (by simp),hj,zLX,hS2 true rfl,hE]
         exact ih (k+1) (by omega)
        |false =>
         rw[zLz (by simp),zA,DX c (by omega),zLX,zA,wj,zLX,hE]
         by_cases xH:(cov (nr all c) c).2=0
         ·rw[zMA (by rw[je];simp[xH]),hj,zLX,hS2 (cov (nr all c) c).1 rfl,cond_false,zLz xH]
          exact ih (k+1) (by omega)
         ·rw[zLz (by rw[je];exact xH),Comp.zB,zLX,cond_false,zMA xH,zMA xH]
          rfl
      have h0:=key p.2.1.length 0 (by omega)
      simp only[List.take_zero,List.drop_zero]at h0;rw[zA];refine(zLq (fun o=>Option.bind o _) h0).trans ?_
      rw[zLX];by_cases hE0:apE all p.2.1 x.1=0
      ·simp_all
      simp_all
    ·rw[zLz (by grind),zMA he,Comp.zB];rfl
   ·have hE:jd (cuts++touches)=jd cuts:=by rw[Kk,zMA a8]
    rw[zMA (by grind),hE,zMA a8]
    show (if neI (jd cuts) 0=true then _ else _:Comp (vU×Int×Unit)).val=_
    rw[zLz (by grind),Comp.zB];rfl
 ·have hf:fit p x=ckP p:=by unfold fit;omega
  rw[zLz (by grind),hf,zMA hck,Comp.zB];rfl
def wt(p:Part)(k:Nat):Int:=p.2.2.1.getD k 0
def cl(p:Part)(k:Nat):Cell:=p.2.1.getD k []
theorem ji{xs:List α}{k:Nat}{z v:α}(h:xs[k]?=some v):xs.getD k z=v:=by grind
end Go.Geo
end
